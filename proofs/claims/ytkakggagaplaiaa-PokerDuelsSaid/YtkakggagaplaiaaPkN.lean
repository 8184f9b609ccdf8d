/- poker.over and poker.Counts; no conditions. -/
import Derived.Test.YtkakggagaplaiaaPkC
import Derived.Deep.RegionLaw
namespace Go.Proofs.Ytkakggagaplaiaa
open Go.RowKit

def ovS (n : Nat) : Nat → Nat
  | 0 => 1
  | k + 1 => ovS n k * (n - k) / (k + 1)
theorem ovS_le (n : Nat) : ∀ k, ovS n k ≤ n ^ k
  | 0 => Nat.le_refl _
  | k + 1 => by
    rw [ovS, Nat.pow_succ]
    exact Nat.le_trans (Nat.div_le_self _ _) (Nat.mul_le_mul (ovS_le n k) (Nat.sub_le _ _))
theorem ovS_bd {n k : Nat} (hn : n ≤ 52) (hk : k ≤ 5) : ovS n k ≤ 380204032 :=
  Nat.le_trans (ovS_le n k) (Nat.le_trans (Nat.pow_le_pow_left hn k) (Nat.le_trans (Nat.pow_le_pow_right (by omega) hk) (by decide)))
set_option maxHeartbeats 2000000 in
theorem over_any (n k : Nat) (w : World) (hn : n ≤ 52) (hk : k ≤ 5) (hkn : k ≤ n) : Calls Try.prog 40 #[.int .i64 (n : Nat), .int .i64 (k : Nat)] w fun e w' => e = .returned (.int .i64 (ovS n k : Nat)) ∧ w = w' := by
  go_enter Try.func40, Try.ntmps40
  go_wp2_with fail
  go_loopg [5, 8] k (fun gk cv iv W' => ∃ j : Nat, j ≤ k ∧ gk = k - j ∧ iv = .int .i64 j ∧ cv = .int .i64 (ovS n j : Nat) ∧ w = W')
  case atStart => exact ⟨0, by omega, by omega, rfl, rfl, rfl⟩
  case round =>
    obtain ⟨j, hj, hgk, rfl, rfl, rfl⟩ := hrel
    replace hgk := Lib.hid hgk
    by_cases hlt : j < k
    · have hb := ovS_bd hn (k := j) (by omega)
      have hss : Hid (ovS n (j + 1) = ovS n j * (n - j) / (j + 1)) := rfl
      generalize ovS n j = c at *
      obtain ⟨d, hd⟩ : ∃ d, d = n - j := ⟨_, rfl⟩
      have e1 : (n : Int) - (j : Int) = (d : Int) := by omega
      obtain ⟨m, hm⟩ : ∃ m, m = c * d := ⟨_, rfl⟩
      have e2 : (c : Int) * (d : Int) = (m : Int) := by rw [hm]; push_cast; rfl
      have hmb : m ≤ 380204032 * 52 := by rw [hm]; exact Nat.mul_le_mul hb (by omega)
      have e3 : IntKind.i64.wrap (m : Int) = m := IntWalk.i64_in _ (by omega)
      obtain ⟨q, hq⟩ : ∃ q, q = m / (j + 1) := ⟨_, rfl⟩
      have e4 : (m : Int) / ((j : Int) + 1) = (q : Int) := by rw [hq]; push_cast; rfl
      have e5 : (m : Int).tdiv ((j : Int) + 1) = (q : Int) := by rw [Int.tdiv_eq_ediv_of_nonneg (by omega)]; exact e4
      rw [← hd, ← hm, ← hq] at hss
      have hqm : q ≤ m := by rw [hq]; exact Nat.div_le_self _ _
      have e6 : IntKind.i64.wrap (q : Int) = q := IntWalk.i64_in _ (by omega)
      replace hd := Lib.hid hd; replace hm := Lib.hid hm; replace hq := Lib.hid hq
      go_wp2_with fail
      have hgk := hgk.out
      go_roundg (k - (j + 1))
      case measure => omega
      case rel => exact ⟨j + 1, by omega, rfl, by go_num, by rw [hss.out], rfl⟩
    · obtain rfl : j = k := by omega
      go_wp2_with fail
      go_ret
      exact ⟨rfl, rfl⟩
def cnL : List Nat := [1302540, 1098240, 123552, 54912, 10200, 5108, 3744, 624, 40]
set_option maxRecDepth 100000 in
set_option maxHeartbeats 8000000 in
theorem counts_any (w : World) : Calls Try.prog 17 #[] w fun e w' => e = .returned (.agg ((cnL.map fun x : Nat => Value.int .i64 (x : Int)).toArray)) ∧ Below w.heap.size w w' := by
  have o43 := Lib.hid (fun W => over_any 4 3 W (by omega) (by omega) (by omega))
  have o42 := Lib.hid (fun W => over_any 4 2 W (by omega) (by omega) (by omega))
  have o135 := Lib.hid (fun W => over_any 13 5 W (by omega) (by omega) (by omega))
  have o122 := Lib.hid (fun W => over_any 12 2 W (by omega) (by omega) (by omega))
  have o132 := Lib.hid (fun W => over_any 13 2 W (by omega) (by omega) (by omega))
  have o123 := Lib.hid (fun W => over_any 12 3 W (by omega) (by omega) (by omega))
  have o525 := Lib.hid (fun W => over_any 52 5 W (by omega) (by omega) (by omega))
  have v1 : ovS 4 3 = 4 := by decide
  have v2 : ovS 4 2 = 6 := by decide
  have v3 : ovS 13 5 = 1287 := by decide
  have v4 : ovS 12 2 = 66 := by decide
  have v5 : ovS 13 2 = 78 := by decide
  have v6 : ovS 12 3 = 220 := by decide
  have v7 : ovS 52 5 = 2598960 := by decide
  rw [v1] at o43; rw [v2] at o42; rw [v3] at o135; rw [v4] at o122; rw [v5] at o132; rw [v6] at o123; rw [v7] at o525
  clear v1 v2 v3 v4 v5 v6 v7
  go_enter Try.func17, Try.ntmps17
  go_wp2_with fail
  refine (o43.out _).mono ?_
  rintro e w' ⟨rfl, rfl⟩
  go_wp2_with fail
  refine (o42.out _).mono ?_
  rintro e w' ⟨rfl, rfl⟩
  go_wp2_with fail
  have q1 : IntKind.i64.wrap 5148 = 5148 := by decide
  have q2 : IntKind.i64.wrap (5148 - 40) = 5108 := by decide
  go_region_law ((go_simp; refine (o135.out _).mono ?_; rintro e w5 ⟨rfl, rfl⟩))
  all_goals
    go_wp2_with fail
    refine (o43.out _).mono ?_
    rintro e w' ⟨rfl, rfl⟩
    go_wp2_with fail
    refine (o122.out _).mono ?_
    rintro e w' ⟨rfl, rfl⟩
    go_wp2_with fail
    refine (o132.out _).mono ?_
    rintro e w' ⟨rfl, rfl⟩
    go_wp2_with fail
    refine (o42.out _).mono ?_
    rintro e w' ⟨rfl, rfl⟩
    go_wp2_with fail
    refine (o42.out _).mono ?_
    rintro e w' ⟨rfl, rfl⟩
    go_wp2_with fail
    refine (o42.out _).mono ?_
    rintro e w' ⟨rfl, rfl⟩
    go_wp2_with fail
    refine (o123.out _).mono ?_
    rintro e w' ⟨rfl, rfl⟩
    go_wp2_with fail
    refine (o525.out _).mono ?_
    rintro e w' ⟨rfl, rfl⟩
    go_wp2_with fail
    refine wp_loop_rounds 9 ?_
    iterate 9 (rw [rounds_succ]; go_wp2_with fail)
  all_goals
    refine bodyPost_ret (by simp [results, Try.f17, go_sem]; rfl) rfl ?_
    exact ⟨rfl, ((Below.refl _ _).alloc (Nat.le_refl _) _).drew⟩
end Go.Proofs.Ytkakggagaplaiaa
