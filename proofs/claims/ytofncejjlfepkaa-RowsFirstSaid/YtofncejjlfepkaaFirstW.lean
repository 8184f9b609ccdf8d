/- What gameroomkeep.RowsFirst returns: true; conditions: the arguments are ints of 64 bits. -/
import Derived.Test.YtofncejjlfepkaaSolveW
namespace Go.Proofs.Ytofncejjlfepkaa
open Go.RowKit

theorem law_split {a b k : Nat} (h : law a b k = true) : 0 ≤ (value (LY a b k b) (a * b) (zsN (a * b)) 1).1 ∧ 1 ≤ (value (LY a b k b) (a * b) (zsN (a * b)) 1).2.length := by
  unfold law at h
  simpa [zsN] using h

set_option maxHeartbeats 2000000 in
theorem first_any (a0 a1 a2 : Int) (w : World) (x1 : -9223372036854775808 ≤ a0) (x2 : a0 ≤ 9223372036854775807) (y1 : -9223372036854775808 ≤ a1) (y2 : a1 ≤ 9223372036854775807) (z1 : -9223372036854775808 ≤ a2) (z2 : a2 ≤ 9223372036854775807) :
    Calls Try.prog 3 #[.int .i64 a0, .int .i64 a1, .int .i64 a2] w fun e w' => e = .returned (.bool true) ∧ Below w.heap.size w w' := by
  have H1 := Lib.hid (picked_any a0 3 w x1 x2 (by omega) (by omega) 3 rfl)
  have H2 := Lib.hid (picked_any a1 3 w y1 y2 (by omega) (by omega) 3 rfl)
  have H3 := Lib.hid (fun W => picked_any a2 4 W z1 z2 (by omega) (by omega) 4 rfl)
  have p1 := pick_lt a0 3 (by omega)
  have p2 := pick_lt a1 3 (by omega)
  have p3 := pick_lt a2 4 (by omega)
  generalize pick a0 3 = pa at *
  generalize pick a1 3 = pb at *
  generalize pick a2 4 = pk at *
  have hlaw := law_true pa pb pk p1 p2 p3
  obtain ⟨M, hM⟩ : ∃ M : Int, (1 + (pa : Int)) * (1 + (pb : Int)) = M := ⟨_, rfl⟩
  have hM2 : M = (((pa + 1) * (pb + 1) : Nat) : Int) := by rw [← hM]; push_cast; rw [Int.add_comm 1, Int.add_comm 1]
  have hM9 : (pa + 1) * (pb + 1) ≤ 3 * 3 := Nat.mul_le_mul (by omega) (by omega)
  have hMp : 1 ≤ (pa + 1) * (pb + 1) := Nat.mul_pos (by omega) (by omega)
  have m1 : 1 ≤ M := by omega
  have m2 : M ≤ 9 := by omega
  clear x1 x2 y1 y2 z1 z2
  by_cases hgt : 6 < M
  · rw [if_pos (by omega)] at hlaw
    obtain ⟨l1, l2⟩ := law_split hlaw
    have HG := Lib.hid (fun W => grid_any (pa + 1) 2 W (by omega) (by omega) ((pa + 1) * 2) rfl (1 + (pa : Int)) 2 (Lib.hid (by omega)) (Lib.hid (by omega)))
    have HS := Lib.hid (fun q c W hx => solve_any (pa + 1) 2 ((pa + 1) * 2) c (pk + 1) q W (by omega) (by omega) (by omega) (by omega) (by omega) (by omega) rfl hx (1 + (pk : Int)) (Lib.hid (by omega)))
    generalize value (LY (pa + 1) 2 (pk + 1) 2) ((pa + 1) * 2) (zsN ((pa + 1) * 2)) 1 = V at *
    obtain ⟨v1, v2⟩ := V
    simp only at l1 l2 HS
    generalize v2.length = vl at *
    replace hM2 := Lib.hid hM2; replace hMp := Lib.hid hMp; replace hM9 := Lib.hid hM9
    clear hlaw
    generalize hnn : (pa + 1) * 2 = nn at *
    replace hnn := Lib.hid hnn
    go_enter Try.func3, Try.ntmps3
    go_wp2_with fail
    refine H1.out.mono ?_
    rintro e w' ⟨rfl, rfl⟩
    go_wp2_with fail
    refine H2.out.mono ?_
    rintro e w' ⟨rfl, rfl⟩
    go_wp2_with fail
    refine (HG.out _).mono ?_
    rintro e W1 ⟨q, c, rfl, hO, hB1⟩
    replace hO := Lib.hid hO
    go_wp2_with fail
    refine (H3.out _).mono ?_
    rintro e w' ⟨rfl, rfl⟩
    go_wp2_with fail
    refine (HS.out q c _ (by rw [← zs_asI]; exact hO.out.in)).mono ?_
    rintro e W2 ⟨q2, c2, rfl, hB2⟩
    have hBf := Lib.hid (hB1.trans (hB2.mono hB1.size))
    clear hB1 hB2
    go_wp2_with fail
    go_ret
    exact ⟨ret_bool (show decide (1 ≤ (vl : Int)) = true by simp; omega), hBf.out⟩
  · rw [if_neg (by omega)] at hlaw
    obtain ⟨l1, l2⟩ := law_split hlaw
    have HG := Lib.hid (fun W => grid_any (pa + 1) (pb + 1) W (by omega) (by omega) ((pa + 1) * (pb + 1)) rfl (1 + (pa : Int)) (1 + (pb : Int)) (Lib.hid (by omega)) (Lib.hid (by omega)))
    have HS := Lib.hid (fun q c W hx => solve_any (pa + 1) (pb + 1) ((pa + 1) * (pb + 1)) c (pk + 1) q W (by omega) (by omega) (by omega) (by omega) (by omega) (by omega) rfl hx (1 + (pk : Int)) (Lib.hid (by omega)))
    generalize value (LY (pa + 1) (pb + 1) (pk + 1) (pb + 1)) ((pa + 1) * (pb + 1)) (zsN ((pa + 1) * (pb + 1))) 1 = V at *
    obtain ⟨v1, v2⟩ := V
    simp only at l1 l2 HS
    generalize v2.length = vl at *
    replace hM2 := Lib.hid hM2; replace hMp := Lib.hid hMp; replace hM9 := Lib.hid hM9
    clear hlaw
    generalize hnn : (pa + 1) * (pb + 1) = nn at *
    replace hnn := Lib.hid hnn
    go_enter Try.func3, Try.ntmps3
    go_wp2_with fail
    refine H1.out.mono ?_
    rintro e w' ⟨rfl, rfl⟩
    go_wp2_with fail
    refine H2.out.mono ?_
    rintro e w' ⟨rfl, rfl⟩
    go_wp2_with fail
    refine (HG.out _).mono ?_
    rintro e W1 ⟨q, c, rfl, hO, hB1⟩
    replace hO := Lib.hid hO
    go_wp2_with fail
    refine (H3.out _).mono ?_
    rintro e w' ⟨rfl, rfl⟩
    go_wp2_with fail
    refine (HS.out q c _ (by rw [← zs_asI]; exact hO.out.in)).mono ?_
    rintro e W2 ⟨q2, c2, rfl, hB2⟩
    have hBf := Lib.hid (hB1.trans (hB2.mono hB1.size))
    clear hB1 hB2
    go_wp2_with fail
    go_ret
    exact ⟨ret_bool (show decide (1 ≤ (vl : Int)) = true by simp; omega), hBf.out⟩
end Go.Proofs.Ytofncejjlfepkaa
