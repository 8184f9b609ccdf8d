/- What (*four.well).won tells of a board on which the sign at a place is the only one of its kind: whether k is at most 1; conditions: the board's struct and cells are known. -/
import Derived.Test.YtfoojdkbonmmgaaMem
import Derived.Test.YtfoojdkbonmmgaaRows
namespace Go.Proofs.Ytfoojdkbonmmgaa
open Go.RowKit

theorem dirs (i : Nat) (hi : i < 4) : ∃ dx dy : Int, (∀ w, (Instr.index 57 (.agg #[.int .i64 1, .int .i64 0, .int .i64 0, .int .i64 1, .int .i64 1, .int .i64 1, .int .i64 1, .int .i64 (-1)]) (.int .i64 i)).run Try.prog w = .ok (.agg #[.int .i64 dx, .int .i64 dy]) w) ∧
    -1 ≤ dx ∧ dx ≤ 1 ∧ -1 ≤ dy ∧ dy ≤ 1 ∧ (dx ≠ 0 ∨ dy ≠ 0) := by
  rcases (show i = 0 ∨ i = 1 ∨ i = 2 ∨ i = 3 from by omega) with rfl | rfl | rfl | rfl
  · exact ⟨1, 0, fun w => by kernel_rfl, by omega⟩
  · exact ⟨0, 1, fun w => by kernel_rfl, by omega⟩
  · exact ⟨1, 1, fun w => by kernel_rfl, by omega⟩
  · exact ⟨1, -1, fun w => by kernel_rfl, by omega⟩
theorem signs (i : Nat) (hi : i < 2) : ∃ s : Int, (∀ w, (Instr.index 56 (.agg #[.int .i64 1, .int .i64 (-1)]) (.int .i64 i)).run Try.prog w = .ok (.int .i64 s) w) ∧ (s = 1 ∨ s = -1) := by
  rcases (show i = 0 ∨ i = 1 from by omega) with rfl | rfl
  · exact ⟨1, fun w => by kernel_rfl, by omega⟩
  · exact ⟨-1, fun w => by kernel_rfl, by omega⟩
theorem wcells {w : World} {wl : Nat} {a b c d e : Value} (h : w.heap[wl]? = some (.cells #[a, b, c, d, e] 41 (0, 0))) :
    w.cell? ⟨wl, 0, none⟩ = some a ∧ w.cell? ⟨wl, 1, none⟩ = some b ∧ w.cell? ⟨wl, 2, none⟩ = some c ∧ w.cell? ⟨wl, 3, none⟩ = some d := by
  refine ⟨?_, ?_, ?_, ?_⟩ <;> (rw [cell_of_row w wl _ _ _ _ h]; rfl)

set_option maxHeartbeats 2000000 in
set_option maxRecDepth 100000 in
theorem won_any (wl g W H k at_ x y n : Nat) (cells : List Int) (w : World) (hW : 1 ≤ W) (hW2 : W ≤ 10) (hH : H ≤ 10) (hx : x < W) (hy : y < H) (hat : Hid (at_ = y * W + x)) (hn : Hid (n = W * H)) (hl : Hid (cells.length = n)) (hk : k ≤ 10) (mv : Int)
    (hwl : w.heap[wl]? = some (.cells #[.int .i64 W, .int .i64 H, .slice (some ⟨g, 0, none⟩) n n, .int .i64 k, .int .i64 mv] 41 (0, 0))) (hg : Nums w g 3 cells) (who : Int) (hw : Hid (cells[at_]?.getD 0 = who)) (hne : Hid (∀ j, j < n → j ≠ at_ → cells[j]?.getD 0 ≠ who)) :
    Calls Try.prog 14 #[.pointer (some ⟨wl, 0, none⟩), .int .i64 at_] w fun e w' => e = .returned (.bool (decide (k ≤ 1))) ∧ Below w.heap.size w w' := by
  have hmul : y * W + x < n := by
    rw [hn.out, Nat.mul_comm W H]
    calc y * W + x < y * W + W := by omega
      _ = (y + 1) * W := by rw [Nat.add_mul, Nat.one_mul]
      _ ≤ H * W := Nat.mul_le_mul_right _ hy
  have hn100 : n ≤ 100 := by rw [hn.out]; exact Nat.mul_le_mul hW2 hH
  have ha1 : at_ < n := by rw [hat.out]; exact hmul
  obtain ⟨c0, c1, c2, c3⟩ := wcells hwl
  have ca := hg.cell (i := at_) (by rw [hl.out]; exact ha1)
  rw [hw.out] at ca
  replace hwl := Lib.hid hwl; replace hg := Lib.hid hg
  go_enter Try.func14, Try.ntmps14
  go_wp2
  have hxd : (at_ : Int) % W = x := by
    rw [hat.out]; push_cast; rw [Int.add_comm, Int.mul_comm, Int.add_mul_emod_self_left]; exact Int.emod_eq_of_lt (by omega) (by omega)
  have hyd : (at_ : Int) / W = y := by
    rw [hat.out]; push_cast; rw [Int.add_comm, Int.add_mul_ediv_right _ _ (by omega)]; rw [Int.ediv_eq_zero_of_lt (by omega) (by omega)]; omega
  go_quiet (fail)
  go_wp2
  simp only [hxd]
  clear c0 c1 c2 c3 ca hxd hyd
  go_loopg [42] 4 (fun kk i W' => ∃ ii : Nat, ii ≤ 4 ∧ kk = 4 - ii ∧ i = .int .i64 ii ∧ Below w.heap.size w W' ∧ (0 < ii → 1 < k))
  case atStart => exact ⟨0, by omega, by omega, rfl, below_drewN (Below.refl _ _) _, by omega⟩
  case round =>
    obtain ⟨ii, hi, hgk, rfl, hB, hk1⟩ := hrel
    replace hk1 := Lib.hid hk1
    replace hgk := Lib.hid hgk
    by_cases hit : ii < 4
    · obtain ⟨dx, dy, hrun, d1, d2, d3, d4, d5⟩ := dirs ii hit
      have hitd : decide ((ii : Int) < 4) = true := by simp; omega
      replace hB := Lib.hid hB; replace d5 := Lib.hid d5
      obtain ⟨W1, rfl⟩ : ∃ W1 : World, W1 = wr := ⟨_, rfl⟩
      go_wp2
      have hBa := Lib.hid ((hB.out.alloc hB.out.size (.cells #[.int .i64 dx, .int .i64 dy] 56)))
      have e0 : (W1.alloc (.cells #[.int .i64 dx, .int .i64 dy] 56)).cell? ⟨W1.heap.size, 0, none⟩ = some (.int .i64 dx) := by rw [World.cell?_alloc_new]; rfl
      have e1 : (W1.alloc (.cells #[.int .i64 dx, .int .i64 dy] 56)).cell? ⟨W1.heap.size, 1, none⟩ = some (.int .i64 dy) := by rw [World.cell?_alloc_new]; rfl
      have hsz : W1.heap.size < (W1.alloc (.cells #[.int .i64 dx, .int .i64 dy] 56)).heap.size := by simp
      obtain ⟨d, hd⟩ : ∃ d, d = W1.heap.size := ⟨_, rfl⟩
      rw [← hd] at e0 e1 hsz ⊢
      generalize W1.alloc (.cells #[.int .i64 dx, .int .i64 dy] 56) = W2 at *
      replace hd := Lib.hid hd
      replace e0 := Lib.hid e0; replace e1 := Lib.hid e1; replace hsz := Lib.hid hsz
      go_loopg [10, 46] 2 (fun k nn i W' => ∃ jj : Nat, jj ≤ 2 ∧ k = 2 - jj ∧ nn = .int .i64 1 ∧ i = .int .i64 jj ∧ Below W2.heap.size W2 W')
      case atStart => exact ⟨0, by omega, by omega, rfl, rfl, Below.refl _ _⟩
      case round =>
        obtain ⟨jj, hj, hgk2, rfl, rfl, hB2⟩ := hrel
        replace hgk2 := Lib.hid hgk2
        by_cases hjt : jj < 2
        · obtain ⟨s, hrun2, hs⟩ := signs jj hjt
          have f0 := (hB2.cell (p := ⟨d, 0, none⟩) hsz.out).trans e0.out
          have f1 := (hB2.cell (p := ⟨d, 1, none⟩) hsz.out).trans e1.out
          have hBw := hBa.out.trans (hB2.mono hBa.out.size)
          obtain ⟨c0, c1, c2, c3⟩ := wcells ((hBw.block wl (lt_of_heap hwl.out)).trans hwl.out)
          have hga := hg.out.below hBw hg.out.lt
          replace hB2 := Lib.hid hB2; replace hBw := Lib.hid hBw; replace hga := Lib.hid hga
          have hsx : s * dx = s * dx := rfl
          obtain ⟨a, ha⟩ : ∃ a : Int, a = s * dx := ⟨_, rfl⟩
          obtain ⟨b, hb⟩ : ∃ b : Int, b = s * dy := ⟨_, rfl⟩
          have hab : -1 ≤ a ∧ a ≤ 1 ∧ -1 ≤ b ∧ b ≤ 1 ∧ (a ≠ 0 ∨ b ≠ 0) := by
            have := d5.out
            rcases hs with rfl | rfl <;> omega
          obtain ⟨a1, a2, b1, b2, ab⟩ := hab
          replace ab := Lib.hid ab; replace hs := Lib.hid hs
          have ha' : s * dx = a := ha.symm
          have hb' : s * dy = b := hb.symm
          clear ha hb hsx
          go_wp2
          go_quiet (fail)
          go_wp2
          by_cases k1 : 0 ≤ (x : Int) + a
          · by_cases k2 : (x : Int) + a < W
            · by_cases k3 : 0 ≤ (y : Int) + b
              · by_cases k4 : (y : Int) + b < H
                · obtain ⟨u, hu⟩ : ∃ u : Nat, (u : Int) = x + a := ⟨((x : Int) + a).toNat, by omega⟩
                  obtain ⟨v, hv⟩ : ∃ v : Nat, (v : Int) = y + b := ⟨((y : Int) + b).toNat, by omega⟩
                  have hvu : v * W + u < n := by
                    rw [hn.out, Nat.mul_comm W H]
                    calc v * W + u < v * W + W := by omega
                      _ = (v + 1) * W := by rw [Nat.add_mul, Nat.one_mul]
                      _ ≤ H * W := Nat.mul_le_mul_right _ (by omega)
                  have hne' : v * W + u ≠ at_ := by
                    rw [hat.out]
                    intro e
                    have ab := ab.out
                    have e1 : (v * W + u) / W = (y * W + x) / W := by rw [e]
                    have e2 : (v * W + u) % W = (y * W + x) % W := by rw [e]
                    rw [Nat.add_comm, Nat.add_mul_div_right _ _ (by omega), Nat.div_eq_of_lt (by omega), Nat.add_comm (y * W), Nat.add_mul_div_right _ _ (by omega), Nat.div_eq_of_lt (by omega)] at e1
                    rw [Nat.add_comm, Nat.add_mul_mod_self_right, Nat.mod_eq_of_lt (by omega), Nat.add_comm (y * W), Nat.add_mul_mod_self_right, Nat.mod_eq_of_lt (by omega)] at e2
                    omega
                  have hct := hga.out.cell (i := v * W + u) (by rw [hl.out]; exact hvu)
                  have hcne : (cells[v * W + u]?.getD 0 == who) = false := by
                    have := hne.out _ hvu hne'
                    simpa using this
                  have hvW : v * W ≤ 100 := by omega
                  rw [← hu, ← hv]
                  rw [← hu] at k1 k2; rw [← hv] at k3 k4
                  have e3 : ((v * W : Nat) : Int) = (v : Int) * W := by simp
                  have g1 : (v : Int) * W ≤ 100 := by omega
                  have g0 : 0 ≤ (v : Int) * W := by omega
                  have g2 : (v : Int) * W + u < n := by omega
                  have g3 : ((v : Int) * W + u).toNat = v * W + u := by omega
                  replace e3 := Lib.hid e3
                  clear hu hv
                  refine wp_loop_rounds 1 ?_; rw [rounds_succ]; go_wp2
                  go_quiet (fail)
                  go_wp2
                  have hgk2 := hgk2.out
                  go_roundg (2 - (jj + 1))
                  case measure => omega
                  case rel => exact ⟨jj + 1, by omega, rfl, rfl, by go_num, by repeat (first | exact hB2.out | apply below_drewN)⟩
                · have k4' : decide ((y : Int) + b < H) = false := by simpa using k4
                  refine wp_loop_rounds 1 ?_; rw [rounds_succ]; go_wp2
                  go_quiet (fail)
                  go_wp2
                  have hgk2 := hgk2.out
                  go_roundg (2 - (jj + 1))
                  case measure => omega
                  case rel => exact ⟨jj + 1, by omega, rfl, rfl, by go_num, by repeat (first | exact hB2.out | apply below_drewN)⟩
              · have k3' : decide (0 ≤ (y : Int) + b) = false := by simpa using k3
                refine wp_loop_rounds 1 ?_; rw [rounds_succ]; go_wp2
                go_quiet (fail)
                go_wp2
                have hgk2 := hgk2.out
                go_roundg (2 - (jj + 1))
                case measure => omega
                case rel => exact ⟨jj + 1, by omega, rfl, rfl, by go_num, by repeat (first | exact hB2.out | apply below_drewN)⟩
            · have k2' : decide ((x : Int) + a < W) = false := by simpa using k2
              refine wp_loop_rounds 1 ?_; rw [rounds_succ]; go_wp2
              go_quiet (fail)
              go_wp2
              have hgk2 := hgk2.out
              go_roundg (2 - (jj + 1))
              case measure => omega
              case rel => exact ⟨jj + 1, by omega, rfl, rfl, by go_num, by repeat (first | exact hB2.out | apply below_drewN)⟩
          · have k1' : decide (0 ≤ (x : Int) + a) = false := by simpa using k1
            refine wp_loop_rounds 1 ?_; rw [rounds_succ]; go_wp2
            go_quiet (fail)
            go_wp2
            have hgk2 := hgk2.out
            go_roundg (2 - (jj + 1))
            case measure => omega
            case rel => exact ⟨jj + 1, by omega, rfl, rfl, by go_num, by repeat (first | exact hB2.out | apply below_drewN)⟩
        · have hBw := hBa.out.trans (hB2.mono hBa.out.size)
          obtain ⟨c0, c1, c2, c3⟩ := wcells ((hBw.block wl (lt_of_heap hwl.out)).trans hwl.out)
          replace hB2 := Lib.hid hB2; replace hBw := Lib.hid hBw
          by_cases hk2 : k ≤ 1
          · have hd1 : Hid (decide (k ≤ 1) = true) := by show _ = _; simpa using hk2
            go_wp2
            go_ret
            exact ⟨ret_bool hd1.out.symm, hBw.out⟩
          · have hd1 : Hid (decide (k ≤ 1) = false) := by show _ = _; simpa using hk2
            go_wp2
            have hgk := hgk.out
            go_roundg (4 - (ii + 1))
            case measure => omega
            case rel => exact ⟨ii + 1, by omega, rfl, by go_num, hBw.out, fun _ => by omega⟩
    · replace hB := Lib.hid hB
      have hd1 : Hid (decide (k ≤ 1) = false) := by show _ = _; have := hk1.out; simp; omega
      go_wp2
      go_ret
      exact ⟨ret_bool hd1.out.symm, hB.out⟩
end Go.Proofs.Ytfoojdkbonmmgaa
