/- What gameroomkeep.picked (a number below 'of') and gameroomkeep.same (are two lists of ints one?) compute; conditions: the slices read as lists of ints, 'of' is at least 1. -/
import Derived.Test.YtfjlhghiadoodaaMem
import Derived.Test.YtfjlhghiadoodaaRows
namespace Go.Proofs.Ytfjlhghiadoodaa
open Go.RowKit

def pick (n : Int) (of : Nat) : Nat := ((if n < 0 then -(n + 1) else n) % of).toNat
theorem pick_lt (n : Int) (of : Nat) (h : 1 ≤ of) : pick n of < of := by
  unfold pick
  have h0 : (0 : Int) ≤ (if n < 0 then -(n + 1) else n) := by split <;> omega
  have h1 := Int.emod_lt_of_pos (if n < 0 then -(n + 1) else n) (show (0 : Int) < of by omega)
  have h2 := Int.emod_nonneg (if n < 0 then -(n + 1) else n) (show (of : Int) ≠ 0 by omega)
  omega

set_option maxHeartbeats 400000 in
theorem picked_any (n : Int) (of : Nat) (w : World) (h1 : -9223372036854775808 ≤ n) (h2 : n ≤ 9223372036854775807) (h3 : 1 ≤ of) (h4 : of ≤ 1099511627776) (ofI : Int) (ho : Hid (ofI = of)) :
    Calls Try.prog 10 #[.int .i64 n, .int .i64 ofI] w fun e w' => e = .returned (.int .i64 (pick n of)) ∧ w = w' := by
  have ho := ho.out
  subst ho
  by_cases hn : n < 0
  · have e : Hid (((pick n of : Nat) : Int) = -((n + 1).tmod of)) := by
      show _ = _
      unfold pick
      rw [if_pos hn, ← Int.neg_tmod, Int.tmod_eq_emod_of_nonneg (by omega)]
      have := Int.emod_nonneg (-(n + 1)) (show (of : Int) ≠ 0 by omega)
      omega
    go_enter Try.func10, Try.ntmps10
    go_wp2
    go_ret
    exact ⟨ret_int e.out.symm, rfl⟩
  · have e : Hid (((pick n of : Nat) : Int) = n % of) := by
      show _ = _
      unfold pick
      rw [if_neg hn]
      have := Int.emod_nonneg n (show (of : Int) ≠ 0 by omega)
      omega
    go_enter Try.func10, Try.ntmps10
    go_wp2
    go_ret
    exact ⟨ret_int e.out.symm, rfl⟩

theorem same_yes {xs ys : List Int} {j n : Nat} (h : xs.take j = ys.take j) (hx : xs.length = n) (hy : ys.length = n) (hj : n ≤ j) : true = decide (xs = ys) := by
  rw [List.take_of_length_le (by omega), List.take_of_length_le (by omega)] at h
  simp [h]
theorem same_no {xs ys : List Int} {j : Nat} (h : (xs[j]?.getD 0 != ys[j]?.getD 0) = true) : false = decide (xs = ys) := by
  have : xs ≠ ys := by rintro rfl; simp at h
  simp [this]
theorem same_on {xs ys : List Int} {j n : Nat} (h : xs.take j = ys.take j) (hx : xs.length = n) (hy : ys.length = n) (hj : j < n) (e : (xs[j]?.getD 0 != ys[j]?.getD 0) = false) : xs.take (j + 1) = ys.take (j + 1) := by
  have h1 : j < xs.length := by omega
  have h2 : j < ys.length := by omega
  rw [List.take_succ_eq_append_getElem h1, List.take_succ_eq_append_getElem h2, h]
  simp [h1, h2] at e
  rw [e]

set_option maxHeartbeats 1000000 in
theorem same_any (p1 p2 : Option Addr) (n1 c1 n2 c2 : Nat) (xs ys : List Int) (w : World) (hn1 : n1 ≤ 1099511627776) (hx : IntsIn w p1 n1 xs) (hy : IntsIn w p2 n2 ys) :
    Calls Try.prog 8 #[.slice p1 n1 c1, .slice p2 n2 c2] w fun e w' => e = .returned (.bool (decide (xs = ys))) ∧ Below w.heap.size w w' := by
  have lx := hx.len; have ly := hy.len
  by_cases hl : n1 = n2
  · subst hl
    replace lx := Lib.hid lx; replace ly := Lib.hid ly
    replace hx := Lib.hid hx; replace hy := Lib.hid hy
    go_enter Try.func8, Try.ntmps8
    go_wp2
    go_loopg [5] n1 (fun g i W => ∃ j : Nat, j ≤ n1 ∧ g = n1 - j ∧ i = .int .i64 j ∧ xs.take j = ys.take j ∧ Below w.heap.size w W)
    case atStart => exact ⟨0, by omega, by omega, rfl, rfl, Below.refl _ _⟩
    case round =>
      obtain ⟨j, hj, hg, rfl, ht, hB⟩ := hrel
      replace hg := Lib.hid hg; replace ht := Lib.hid ht
      by_cases hlt : j < n1
      · obtain ⟨b1, o1, rfl, _, hc1⟩ := (hx.out.below hB).at (by omega)
        obtain ⟨b2, o2, rfl, _, hc2⟩ := (hy.out.below hB).at (by omega)
        have d1 := hc1 j hlt
        have d2 := hc2 j hlt
        have hlt' : (j : Int) < (n1 : Int) := by omega
        have h0 : (0 : Int) ≤ (j : Int) := by omega
        replace hB := Lib.hid hB
        clear hc1 hc2
        go_wp2
        go_quiet (fail)
        go_wp2
        · have hne : (xs[j]?.getD 0 != ys[j]?.getD 0) = true := by assumption
          go_ret
          exact ⟨ret_bool (same_no hne), below_drewN hB.out _⟩
        · have heq : (xs[j]?.getD 0 != ys[j]?.getD 0) = false := by assumption
          have hg := hg.out
          go_roundg (n1 - (j + 1))
          case measure => omega
          case rel => exact ⟨j + 1, by omega, rfl, by go_num, same_on ht.out lx.out ly.out hlt heq, below_drewN hB.out _⟩
      · replace hB := Lib.hid hB
        go_wp2
        go_ret
        exact ⟨ret_bool (same_yes ht.out lx.out ly.out (by omega)), hB.out⟩
  · have hl' : ¬ (n1 : Int) = n2 := by omega
    have hd : false = decide (xs = ys) := by
      have : xs ≠ ys := by rintro rfl; omega
      simp [this]
    replace lx := Lib.hid lx; replace ly := Lib.hid ly; replace hd := Lib.hid hd
    clear hl
    go_enter Try.func8, Try.ntmps8
    go_wp2
    go_ret
    exact ⟨ret_bool hd.out, Below.refl _ _⟩
end Go.Proofs.Ytfjlhghiadoodaa
