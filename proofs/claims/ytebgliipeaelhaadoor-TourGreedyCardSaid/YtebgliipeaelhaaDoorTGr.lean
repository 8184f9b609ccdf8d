/- What gameroomkeep.TourGreedy returns: true; conditions: ints of 64 bits, the table of leaps as the program lays it. -/
import Derived.Test.YtebgliipeaelhaaDoorPick
import Derived.Test.YtebgliipeaelhaaDoorIs
import Derived.Test.YtebgliipeaelhaaDoorGdp
import Derived.Test.YtebgliipeaelhaaDoorCou
namespace Go.Proofs.YtebgliipeaelhaaDoor
open Go.RowKit

set_option maxRecDepth 100000 in
set_option maxHeartbeats 4000000 in
theorem greedy_law (n0 n1 n2 : Int) (w : World) (hL : Lps w) (x1 : -9223372036854775808 ≤ n0) (x2 : n0 ≤ 9223372036854775807) (y1 : -9223372036854775808 ≤ n1) (y2 : n1 ≤ 9223372036854775807)
    (z1 : -9223372036854775808 ≤ n2) (z2 : n2 ≤ 9223372036854775807) :
    Calls Tryd.prog 4 #[.int .i64 n0, .int .i64 n1, .int .i64 n2] w fun e w' => e = .returned (.bool true) ∧ Below w.heap.size w w' := by
  have P0 := picked_any n0 8 w x1 x2 (by omega) (by omega) 8 (Lib.hid rfl)
  have P1 := picked_any n1 8 w y1 y2 (by omega) (by omega) 8 (Lib.hid rfl)
  have q0 := pick_lt n0 8 (by omega)
  have q1 := pick_lt n1 8 (by omega)
  obtain ⟨a, hae⟩ : ∃ a : Nat, (1 : Int) + (pick n0 8 : Nat) = a := ⟨1 + pick n0 8, by push_cast; rfl⟩
  obtain ⟨b, hbe⟩ : ∃ b : Nat, (1 : Int) + (pick n1 8 : Nat) = b := ⟨1 + pick n1 8, by push_cast; rfl⟩
  have ha1 : 1 ≤ a := by omega
  have ha : a ≤ 8 := by omega
  have hb1 : 1 ≤ b := by omega
  have hb : b ≤ 8 := by omega
  obtain ⟨N, hN⟩ : ∃ N, N = a * b := ⟨_, rfl⟩
  have hNi : (a : Int) * (b : Int) = (N : Int) := by rw [hN]; push_cast; rfl
  have hn64 : N ≤ 64 := by rw [hN]; exact Nat.mul_le_mul ha hb
  have hN1 : 1 ≤ N := by rw [hN]; exact Nat.mul_le_mul ha1 hb1
  have P2 := picked_any n2 N w z1 z2 hN1 (by omega) N (Lib.hid rfl)
  have hx := pick_lt n2 N hN1
  generalize pick n0 8 = r0 at *
  generalize pick n1 8 = r1 at *
  generalize pick n2 N = x at *
  have hxN : x < a * b := by rw [← hN]; exact hx
  have W1 := Greedy_any a b x w ha1 ha hb1 hb hL hxN
  replace hN := Lib.hid hN; replace P0 := Lib.hid P0; replace P1 := Lib.hid P1; replace P2 := Lib.hid P2; replace W1 := Lib.hid W1
  clear x1 x2 y1 y2 z1 z2
  replace hL := Lib.hid hL
  go_enter Tryd.func4, Tryd.ntmps4
  go_wp2_with fail
  refine P0.out.mono ?_
  rintro r w' ⟨rfl, rfl⟩
  go_wp2_with fail
  refine P1.out.mono ?_
  rintro r w' ⟨rfl, rfl⟩
  go_wp2_with fail
  refine P2.out.mono ?_
  rintro r w' ⟨rfl, rfl⟩
  clear P0 P1 P2 hae hbe q0 q1
  go_wp2_with fail
  refine W1.out.mono ?_
  rintro r w1 ⟨q, c, l, rfl, hI, hW, hl0, hlN, hB1⟩
  have hL1 := hL.out.below hB1
  have W2 := Is_any a b x l q c w1 ha1 ha hb1 hb hL1 hI hW hl0 hlN
  obtain ⟨n, hn⟩ : ∃ n, n = l.length := ⟨_, rfl⟩
  rw [← hn] at W2 hI hl0 hlN ⊢
  rw [← hN.out] at W2 hlN
  have hst : st l 0 = x := hW.st0 (by rw [← hn]; exact hl0)
  replace W2 := Lib.hid W2; replace hB1 := Lib.hid hB1; replace hL1 := Lib.hid hL1; replace hI := Lib.hid hI; replace hst := Lib.hid hst; replace hn := Lib.hid hn; replace hW := Lib.hid hW
  clear W1 hL
  go_wp2_with fail
  refine W2.out.mono ?_
  rintro r w2 ⟨k, rfl, hk1, hk2, hB2⟩
  have hL2 := hL1.out.below hB2
  have W3 : Calls Tryd.prog 8 #[.int .i64 3, .int .i64 4, .int .i64 0] w2 fun r w' => r = .returned (.tuple #[.int .i64 2, .int .i64 ((cntS 3 4 0 11 0 1).2 : Nat), .int .i64 0]) ∧ Below w2.heap.size w2 w' := by
    have h := Count_any 3 4 0 w2 (by omega) (by omega) (by omega) (by omega) (by omega) hL2 (by omega)
    rw [show 3 * 4 - 1 = 11 from rfl, show (2:Nat) ^ 0 = 1 from rfl, two34] at h
    exact h
  generalize (cntS 3 4 0 11 0 1).2 = t2 at W3
  have hB2' : Hid (Below w.heap.size w w2) := hB1.out.trans (hB2.mono hB1.out.size)
  have hI2 : Hid (IntsIn w2 q n (asI l)) := hI.out.below hB2
  replace W3 := Lib.hid W3; replace hL2 := Lib.hid hL2; replace hk2 := Lib.hid hk2
  clear W2 hL1 hB1 hB2 hI
  go_wp2_with fail
  refine W3.out.mono ?_
  rintro r w3 ⟨rfl, hB3⟩
  have hB3' : Hid (Below w.heap.size w w3) := hB2'.out.trans (hB3.mono hB2'.out.size)
  have hI3 : Hid (IntsIn w3 q n (asI l)) := hI2.out.below hB3
  have hL3 := Lib.hid (hL2.out.below hB3)
  obtain ⟨lb, lo, rfl, hlb, hlc⟩ := hI3.out.at hl0
  have d1 := hlc 0 hl0
  rw [asI_at, hst.out, Nat.add_zero] at d1
  clear W3 hL2 hB2' hI2 hB3 hI3 hlc hlb
  have g1 : decide ((k : Int) < 1) = false := by simp; omega
  have z1 : ¬ (n : Int) = 0 := by omega
  have z2 : ((n : Int) == 0) = false := by simp; omega
  have hk2 := hk2.out
  obtain ⟨kb, hkb⟩ : ∃ kb : Bool, kb = decide (2 ≤ k) := ⟨_, rfl⟩
  have g2 : decide ((k : Int) ≥ 2) = kb := by rw [hkb]; simp; omega
  have g3 : ((n : Int) == (N : Int)) = kb := by
    rw [hkb]
    by_cases e : n = N
    · rw [e, decide_eq_true (hk2.2 e)]; simp
    · rw [decide_eq_false (fun h => e (hk2.1 h))]; simp; omega
  replace hk2 := Lib.hid hk2; replace hkb := Lib.hid hkb
  have hlen := Lib.hid hB3'.out.size
  by_cases h12 : N ≤ 12
  · have g12 : decide ((N : Int) > 12) = false := by simp; omega
    have W4 := Count_any a b x w3 ha1 ha hb1 hb (by rw [← hN.out]; omega) hL3.out hxN
    have hmm := mir_all ha1 ha hb1 hb (by rw [← hN.out]; exact h12) hxN
    have hml := mir_lt (b := b) ha1 hxN
    obtain ⟨xr, hxr⟩ : ∃ xr, xr = x % a := ⟨_, rfl⟩
    obtain ⟨xq, hxq⟩ : ∃ xq, xq = x / a := ⟨_, rfl⟩
    obtain ⟨xa, hxa⟩ : ∃ xa, xa = xq * a := ⟨_, rfl⟩
    have b0 : xa ≤ x := by rw [hxa, hxq]; exact Nat.div_mul_le_self x a
    have b1 : xr < a := by rw [hxr]; exact Nat.mod_lt _ ha1
    obtain ⟨y, hy⟩ : ∃ y, y = mirP a x := ⟨_, rfl⟩
    have hy2 : y = xa + a - 1 - xr := by rw [hy]; unfold mirP; rw [hxa, hxq, hxr]
    rw [← hy] at hmm hml
    have hLx := Lib.hid (fun w4 (hL4 : Lps w4) => Count_any a b y w4 ha1 ha hb1 hb (by rw [← hN.out]; omega) hL4 hml)
    generalize cntS a b x (a * b - 1) x (2 ^ x) = M at *
    rw [← hmm] at hLx
    replace W4 := Lib.hid W4
    replace hml : Hid (y < a * b) := hml
    clear hmm
    have r2 : (x : Int) / (a : Int) = (xq : Int) := by rw [hxq]; exact (Int.natCast_ediv x a).symm
    have r3 : (x : Int) % (a : Int) = (xr : Int) := by rw [hxr]; exact (Int.natCast_emod x a).symm
    have r1 : (x : Int).tmod (a : Int) = (xr : Int) := by rw [Int.tmod_eq_emod_of_nonneg (by omega), r3]
    have r4 : (xq : Int) * (a : Int) = (xa : Int) := by rw [hxa]; push_cast; rfl
    have r5 : IntKind.i64.wrap ((xa : Int) + (a : Int)) = (xa : Int) + (a : Int) := IntWalk.i64_in _ (by omega)
    have r6 : IntKind.i64.wrap ((xa : Int) + (a : Int) - 1) = (xa : Int) + (a : Int) - 1 := IntWalk.i64_in _ (by omega)
    have r7 : (xa : Int) + (a : Int) - 1 - (xr : Int) = (y : Int) := by omega
    have b2 : y < 64 := by omega
    have b3 : xq ≤ 64 := by rw [hxq]; exact Nat.le_trans (Nat.div_le_self _ _) (by omega)
    have b4 : 0 < a := ha1
    have r8 : IntKind.i64.wrap (y : Int) = (y : Int) := IntWalk.i64_in _ (by omega)
    have r9 : IntKind.i64.wrap (xq : Int) = (xq : Int) := IntWalk.i64_in _ (by omega)
    have r10 : IntKind.i64.wrap (xa : Int) = (xa : Int) := IntWalk.i64_in _ (by omega)
    have ha0 : ¬ a = 0 := by omega
    have ha00 : ¬ (a : Int) = 0 := by omega
    replace hxr := Lib.hid hxr; replace hxq := Lib.hid hxq; replace hxa := Lib.hid hxa; replace hy := Lib.hid hy; replace hy2 := Lib.hid hy2
    go_wp2_with fail
    refine W4.out.mono ?_
    rintro r w4 ⟨rfl, hB4⟩
    have hB4' : Hid (Below w.heap.size w w4) := hB3'.out.trans (hB4.mono hlen.out)
    have hL4 : Lps w4 := hL3.out.below hB4
    replace hL4 := Lib.hid hL4
    clear W4 hB4
    go_wp2_with fail
    go_region_law (go_simp; refine (hLx.out _ (by exact ⟨hL4.out.1, hL4.out.2⟩)).mono ?_; rintro r w5 ⟨rfl, hB5⟩; replace hB5 := Lib.hid hB5)
    have hB6 : Hid (Below w.heap.size w w5) := (show Below w.heap.size w w4.drew from below_drewN hB4'.out 1).trans (hB5.out.mono hB4'.out.size)
    clear hB5 hLx
    go_wp2_with fail
    go_ret
    exact ⟨rfl, hB6.out⟩
  · have g12 : decide ((N : Int) > 12) = true := by simp; omega
    go_wp2_with fail
    go_ret
    exact ⟨rfl, hB3'.out⟩
end Go.Proofs.YtebgliipeaelhaaDoor
