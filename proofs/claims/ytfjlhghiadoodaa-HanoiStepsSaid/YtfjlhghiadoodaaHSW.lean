/- gameroomkeep.HanoiSteps returns true whatever it is given; conditions: the arguments are ints of 64 bits. -/
import Derived.Test.YtfjlhghiadoodaaFarW
import Derived.Test.YtfjlhghiadoodaaNthW
import Derived.Test.YtfjlhghiadoodaaRegW
import Derived.Test.YtfjlhghiadoodaaPick
namespace Go.Proofs.Ytfjlhghiadoodaa
open Go.RowKit

set_option maxRecDepth 100000 in
set_option maxHeartbeats 4000000 in
theorem hs_any (a1 a2 a3 a4 : Int) (w : World) (b1 : -9223372036854775808 ≤ a1) (b1' : a1 ≤ 9223372036854775807) (b2 : -9223372036854775808 ≤ a2) (b2' : a2 ≤ 9223372036854775807) (b3 : -9223372036854775808 ≤ a3) (b3' : a3 ≤ 9223372036854775807) (b4 : -9223372036854775808 ≤ a4) (b4' : a4 ≤ 9223372036854775807) :
    Calls Try.prog 4 #[.int .i64 a1, .int .i64 a2, .int .i64 a3, .int .i64 a4] w fun e w' => e = .returned (.bool true) ∧ Below w.heap.size w w' := by
  have P1 := Lib.hid (picked_any a1 30 w b1 b1' (by omega) (by omega) 30 rfl)
  have P2 := Lib.hid (picked_any a2 3 w b2 b2' (by omega) (by omega) 3 rfl)
  have P3 := Lib.hid (picked_any a3 2 w b3 b3' (by omega) (by omega) 2 rfl)
  have q1 := pick_lt a1 30 (by omega); have q2 := pick_lt a2 3 (by omega); have q3 := pick_lt a3 2 (by omega)
  generalize pick a1 30 = d at *
  generalize pick a2 3 = a at *
  generalize pick a3 2 = v at *
  obtain ⟨n, hn⟩ : ∃ n, n = 1 + d := ⟨_, rfl⟩
  obtain ⟨b, hb⟩ : ∃ b, b = (a + 1 + v) % 3 := ⟨_, rfl⟩
  have hb3 : b < 3 := by omega
  have hab : a ≠ b := by omega
  have hsh := shl_lt (1 + d) (by omega)
  obtain ⟨P, hP⟩ : ∃ P, P = 2 ^ (1 + d) := ⟨_, rfl⟩
  have ep : (2 : Int) ^ (1 + d) = (P : Int) := by rw [hP]; push_cast; rfl
  have hp30 : 2 ^ (1 + d) ≤ 2 ^ 30 := Nat.pow_le_pow_right (by omega) (by omega)
  have hp1 : 2 ^ 1 ≤ 2 ^ (1 + d) := Nat.pow_le_pow_right (by omega) (by omega)
  rw [← hP] at hp30 hp1
  rw [ep] at hsh
  have P4 := Lib.hid (picked_any a4 (P - 1) w b4 b4' (by omega) (by omega) ((P : Int) - 1) (Lib.hid (by omega)))
  have q4 := pick_lt a4 (P - 1) (by omega)
  generalize pick a4 (P - 1) = k at *
  rw [← hn] at hP
  have k1 : k < 2 ^ n := by omega
  have k2 : k + 1 < 2 ^ n := by omega
  have hn40 : n ≤ 40 := by omega
  have N1 := fun W => nth_any n a b k W hn40 q2 hb3 hab k1 (1 + (d : Int)) a (((a : Int) + 1 + v) % 3) k (Lib.hid (by omega)) rfl (Lib.hid (by omega)) rfl
  have N2 := fun W => nth_any n a b (k + 1) W hn40 q2 hb3 hab k2 (1 + (d : Int)) a (((a : Int) + 1 + v) % 3) ((k : Int) + 1) (Lib.hid (by omega)) rfl (Lib.hid (by omega)) (Lib.hid (by omega))
  have N3 := fun W => nth_any n a b 0 W hn40 q2 hb3 hab (two_pos n) (1 + (d : Int)) a (((a : Int) + 1 + v) % 3) 0 (Lib.hid (by omega)) rfl (Lib.hid (by omega)) rfl
  have N4 := fun W => nth_any n 0 2 k W hn40 (by omega) (by omega) (by omega) k1 (1 + (d : Int)) 0 2 k (Lib.hid (by omega)) rfl rfl rfl
  have f1 : F (st (NS n a b k)) (st (NS n a b (k + 1))) n = 1 := F_next n a b k q2 hb3 hab (by rw [Nat.mod_eq_of_lt k1]; omega)
  have f2 : F (st (NS n a b 0)) (st (NS n a b k)) n = k := by
    rw [F_perf q2 (NS_lt n a b k q2 hb3 hab) n (NS_zero n a b 0 (by simp)), G_NS n a b k q2 hb3 hab, Nat.mod_eq_of_lt k1]
  have l1 := NS_lt n a b k q2 hb3 hab; have l2 := NS_lt n a b (k + 1) q2 hb3 hab; have l3 := NS_lt n a b 0 q2 hb3 hab
  have R := fun p c W h => regular_any p n c k W hn40 k1 h
  have A1 := fun p1 p2 W h1 h2 => far_any p1 p2 n n n (NS n a b k) (NS n a b (k + 1)) W hn40 (Nat.le_refl _) (Nat.le_refl _) h1 h2 l1 l2
  have A2 := fun p1 p2 W h1 h2 => far_any p1 p2 n n n (NS n a b 0) (NS n a b k) W hn40 (Nat.le_refl _) (Nat.le_refl _) h1 h2 l3 l1
  rw [f1] at A1
  rw [f2] at A2
  have hd : (n : Int) = 1 + d := by omega
  have kb : (k : Int) < 1099511627776 := by omega
  replace P1 := Lib.hid P1.out; replace N1 := Lib.hid N1; replace N2 := Lib.hid N2; replace N3 := Lib.hid N3; replace N4 := Lib.hid N4; replace R := Lib.hid R; replace A1 := Lib.hid A1; replace A2 := Lib.hid A2
  replace hn := Lib.hid hn; replace hb := Lib.hid hb; replace hab := Lib.hid hab; replace hP := Lib.hid hP; replace k1 := Lib.hid k1; replace k2 := Lib.hid k2
  clear f1 f2 l1 l2 l3
  go_enter Try.func4, Try.ntmps4
  go_wp2_with fail
  refine P1.out.mono ?_
  rintro e w' ⟨rfl, rfl⟩
  go_wp2_with fail
  refine P2.out.mono ?_
  rintro e w' ⟨rfl, rfl⟩
  go_wp2_with fail
  refine P3.out.mono ?_
  rintro e w' ⟨rfl, rfl⟩
  go_wp2_with fail
  ((with_reducible refine P4.out.mono ?_))
  rintro e w' ⟨rfl, rfl⟩
  go_wp2_with fail
  ((with_reducible refine (N1.out _).mono ?_))
  rintro e w1 ⟨p1, rfl, h1, hB⟩
  replace h1 := Lib.hid h1; replace hB := Lib.hid hB
  go_wp2_with fail
  ((with_reducible refine (N2.out _).mono ?_))
  rintro e w2 ⟨p2, rfl, h2, hB2⟩
  replace h1 := Lib.hid (h1.out.below hB2); replace h2 := Lib.hid h2; replace hB := Lib.hid (hB.out.trans (hB2.mono hB.out.size)); clear hB2
  go_wp2_with fail
  ((with_reducible refine (N3.out _).mono ?_))
  rintro e w3 ⟨p3, rfl, h3, hB2⟩
  replace h1 := Lib.hid (h1.out.below hB2); replace h2 := Lib.hid (h2.out.below hB2); replace h3 := Lib.hid h3; replace hB := Lib.hid (hB.out.trans (hB2.mono hB.out.size)); clear hB2
  go_wp2_with fail
  ((with_reducible refine (A1.out _ _ _ h1.out h2.out).mono ?_))
  rintro e w4 ⟨rfl, hB2⟩
  replace h1 := Lib.hid (h1.out.below hB2); replace h3 := Lib.hid (h3.out.below hB2); replace hB := Lib.hid (hB.out.trans (hB2.mono hB.out.size)); clear hB2
  go_wp2_with fail
  ((with_reducible refine (A2.out _ _ _ h3.out h1.out).mono ?_))
  rintro e w5 ⟨rfl, hB2⟩
  replace hB := Lib.hid (hB.out.trans (hB2.mono hB.out.size)); clear hB2 h1 h2 h3
  go_wp2_with fail
  ((with_reducible refine (N4.out _).mono ?_))
  rintro e w6 ⟨p4, rfl, h4, hB2⟩
  replace h4 := Lib.hid h4; replace hB := Lib.hid (hB.out.trans (hB2.mono hB.out.size)); clear hB2
  go_wp2_with fail
  ((with_reducible refine (R.out _ _ _ h4.out).mono ?_))
  rintro e w' ⟨rfl, rfl⟩
  go_wp2_with fail
  go_ret
  exact ⟨ret_bool (by first | (simp; done) | (simp; omega)), hB.out⟩
end Go.Proofs.Ytfjlhghiadoodaa
