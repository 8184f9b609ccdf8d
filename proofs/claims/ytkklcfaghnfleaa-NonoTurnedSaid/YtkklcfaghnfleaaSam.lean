/- What gameroomkeep.same (are two lists of ints equal) computes; conditions: none but the model's room. -/
import Derived.Test.YtkklcfaghnfleaaPick
import Derived.StillTactics
namespace Go.Proofs.Ytkklcfaghnfleaa
open Go.RowKit

set_option maxHeartbeats 1000000 in
theorem same_any (p1 p2 : Option Addr) (n1 c1 n2 c2 : Nat) (xs ys : List Int) (w : World) (hn1 : n1 ≤ 1099511627776) (hx : IntsIn w p1 n1 xs) (hy : IntsIn w p2 n2 ys) :
    Calls Try.prog 13 #[.slice p1 n1 c1, .slice p2 n2 c2] w fun e w' => e = .returned (.bool (decide (xs = ys))) ∧ Below w.heap.size w w' := by
  have lx := hx.len; have ly := hy.len
  by_cases hl : n1 = n2
  · subst hl
    replace lx := Lib.hid lx; replace ly := Lib.hid ly
    replace hx := Lib.hid hx; replace hy := Lib.hid hy
    go_enter Try.func13, Try.ntmps13
    go_wp2
    go_loopg [5] n1 (fun g i W => ∃ j : Nat, j ≤ n1 ∧ g = n1 - j ∧ i = .int .i64 j ∧ xs.take j = ys.take j ∧ Below w.heap.size w W)
    case atStart => exact ⟨0, by omega, by omega, rfl, rfl, Below.refl _ _⟩
    case round =>
      obtain ⟨j, hj, hg, rfl, ht, hB⟩ := hrel
      replace hg := Lib.hid hg; replace ht := Lib.hid ht
      by_cases hlt : j < n1
      · obtain ⟨b1, o1, rfl, _, hc1⟩ := (hx.out.below hB).at (by omega)
        obtain ⟨b2, o2, rfl, _, hc2⟩ := (hy.out.below hB).at (by omega)
        have d1 := hc1 j hlt
        have d2 := hc2 j hlt
        have hlt' : (j : Int) < (n1 : Int) := by omega
        have h0 : (0 : Int) ≤ (j : Int) := by omega
        replace hB := Lib.hid hB
        clear hc1 hc2
        go_wp2
        go_quiet (fail)
        go_wp2
        · have hne : (xs[j]?.getD 0 != ys[j]?.getD 0) = true := by assumption
          go_ret
          exact ⟨ret_bool (same_no hne), below_drewN hB.out _⟩
        · have heq : (xs[j]?.getD 0 != ys[j]?.getD 0) = false := by assumption
          have hg := hg.out
          go_roundg (n1 - (j + 1))
          case measure => omega
          case rel => exact ⟨j + 1, by omega, rfl, by go_num, same_on ht.out lx.out ly.out hlt heq, below_drewN hB.out _⟩
      · replace hB := Lib.hid hB
        go_wp2
        go_ret
        exact ⟨ret_bool (same_yes ht.out lx.out ly.out (by omega)), hB.out⟩
  · have hl' : ¬ (n1 : Int) = n2 := by omega
    have hd : false = decide (xs = ys) := by
      have : xs ≠ ys := by rintro rfl; omega
      simp [this]
    replace lx := Lib.hid lx; replace ly := Lib.hid ly; replace hd := Lib.hid hd
    clear hl
    go_enter Try.func13, Try.ntmps13
    go_wp2
    go_ret
    exact ⟨ret_bool hd.out, Below.refl _ _⟩
end Go.Proofs.Ytkklcfaghnfleaa
