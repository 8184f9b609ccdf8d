/- What gameroomkeep.picked (a number below 'of') computes; conditions: 'of' is at least 1. -/
import Derived.Test.YtlmgfikjkflffaaDoorMem
import Derived.Test.YtlmgfikjkflffaaDoorRows
namespace Go.Proofs.YtlmgfikjkflffaaDoor
open Go.RowKit

def pick (n : Int) (of : Nat) : Nat := ((if n < 0 then -(n + 1) else n) % of).toNat
theorem pick_lt (n : Int) (of : Nat) (h : 1 ≤ of) : pick n of < of := by
  unfold pick
  have h0 : (0 : Int) ≤ (if n < 0 then -(n + 1) else n) := by split <;> omega
  have h1 := Int.emod_lt_of_pos (if n < 0 then -(n + 1) else n) (show (0 : Int) < of by omega)
  have h2 := Int.emod_nonneg (if n < 0 then -(n + 1) else n) (show (of : Int) ≠ 0 by omega)
  omega

set_option maxHeartbeats 400000 in
theorem picked_any (n : Int) (of : Nat) (w : World) (h1 : -9223372036854775808 ≤ n) (h2 : n ≤ 9223372036854775807) (h3 : 1 ≤ of) (h4 : of ≤ 1099511627776) (ofI : Int) (ho : Hid (ofI = of)) :
    Calls Tryd.prog 7 #[.int .i64 n, .int .i64 ofI] w fun e w' => e = .returned (.int .i64 (pick n of)) ∧ w = w' := by
  have ho := ho.out
  subst ho
  by_cases hn : n < 0
  · have e : Hid (((pick n of : Nat) : Int) = -((n + 1).tmod of)) := by
      show _ = _
      unfold pick
      rw [if_pos hn, ← Int.neg_tmod, Int.tmod_eq_emod_of_nonneg (by omega)]
      have := Int.emod_nonneg (-(n + 1)) (show (of : Int) ≠ 0 by omega)
      omega
    go_enter Tryd.func7, Tryd.ntmps7
    go_wp2
    go_ret
    exact ⟨ret_int e.out.symm, rfl⟩
  · have e : Hid (((pick n of : Nat) : Int) = n % of) := by
      show _ = _
      unfold pick
      rw [if_neg hn]
      have := Int.emod_nonneg n (show (of : Int) ≠ 0 by omega)
      omega
    go_enter Tryd.func7, Tryd.ntmps7
    go_wp2
    go_ret
    exact ⟨ret_int e.out.symm, rfl⟩

theorem same_yes {xs ys : List Int} {j n : Nat} (h : xs.take j = ys.take j) (hx : xs.length = n) (hy : ys.length = n) (hj : n ≤ j) : true = decide (xs = ys) := by
  rw [List.take_of_length_le (by omega), List.take_of_length_le (by omega)] at h
  simp [h]
theorem same_no {xs ys : List Int} {j : Nat} (h : (xs[j]?.getD 0 != ys[j]?.getD 0) = true) : false = decide (xs = ys) := by
  have : xs ≠ ys := by rintro rfl; simp at h
  simp [this]
theorem same_on {xs ys : List Int} {j n : Nat} (h : xs.take j = ys.take j) (hx : xs.length = n) (hy : ys.length = n) (hj : j < n) (e : (xs[j]?.getD 0 != ys[j]?.getD 0) = false) : xs.take (j + 1) = ys.take (j + 1) := by
  have h1 : j < xs.length := by omega
  have h2 : j < ys.length := by omega
  rw [List.take_succ_eq_append_getElem h1, List.take_succ_eq_append_getElem h2, h]
  simp [h1, h2] at e
  rw [e]
end Go.Proofs.YtlmgfikjkflffaaDoor

