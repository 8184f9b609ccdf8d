/- What slices.ContainsFunc tells where the function says no of each element; conditions: the slice's length fits its kind. -/
import Derived.Test.YtkklcfaghnfleaaNl
namespace Go.Proofs.Ytkklcfaghnfleaa
open Go.RowKit

set_option maxHeartbeats 1000000 in
theorem contains_none2 (p : Option Addr) (n c : Nat) (xs : List Int) (w : World) (hn : n ≤ 9223372036854775807) (hx : IntsIn w p n xs)
    (Hf : ∀ j, j < n → ∀ W : World, Calls Try.prog 25 #[.int .i64 (xs[j]?.getD 0)] W fun e w' => e = .returned (.bool false) ∧ W = w') :
    Calls Try.prog 24 #[.slice p n c, .func (.func 25) #[] #[]] w fun e w' => e = .returned (.bool false) ∧ w = w' := by
  have hl := hx.len
  replace Hf := Lib.hid Hf
  have HI : Hid (Calls Try.prog 36 #[.slice p n c, .func (.func 25) #[] #[]] w fun e w' => e = .returned (.int .i64 (-1)) ∧ w = w') := by
    replace hl := Lib.hid hl
    go_enter Try.func36, Try.ntmps36
    go_wp2_with fail
    go_loopg [8] n (fun k i W => ∃ j : Nat, j ≤ n ∧ k = n - j ∧ i = .int .i64 j ∧ w = W)
    case atStart => exact ⟨0, by omega, by omega, rfl, rfl⟩
    case round =>
      obtain ⟨j, hj, hk, rfl, rfl⟩ := hrel
      replace hk := Lib.hid hk
      by_cases hlt : j < n
      · obtain ⟨b, o, rfl, hb, hc⟩ := hx.at (by omega)
        have hcj := hc j hlt
        have HO := Lib.hid (Hf.out j hlt w)
        generalize xs[j]?.getD 0 = x at *
        clear hx hc
        go_wp2_with fail
        refine HO.out.mono ?_
        rintro e w' ⟨rfl, rfl⟩
        go_wp2_with fail
        have hk := hk.out
        go_roundg (n - (j + 1))
        case measure => omega
        case rel => exact ⟨j + 1, by omega, rfl, by go_num, rfl⟩
      · obtain rfl : n = j := by omega
        go_wp2_with fail
        go_ret
        exact ⟨rfl, rfl⟩
  go_enter Try.func24, Try.ntmps24
  go_wp2_with fail
  refine HI.out.mono ?_
  rintro e w' ⟨rfl, rfl⟩
  go_wp2_with fail
  go_ret
  exact ⟨rfl, rfl⟩
end Go.Proofs.Ytkklcfaghnfleaa
