/- What bridge's check computes of unlike cards; conditions stand in each. -/
import Derived.Test.YtkakggagaplaiaaBrM
namespace Go.Proofs.Ytkakggagaplaiaa
open Go.RowKit

set_option maxHeartbeats 1000000 in
theorem contains_noneB (p : Option Addr) (n c : Nat) (xs : List Int) (w : World) (hn : n ≤ 9223372036854775807) (hx : IntsIn w p n xs)
    (Hf : ∀ j, j < n → ∀ W : World, Calls Try.prog 67 #[.int .i64 (xs[j]?.getD 0)] W fun e w' => e = .returned (.bool false) ∧ W = w') :
    Calls Try.prog 66 #[.slice p n c, .func (.func 67) #[] #[]] w fun e w' => e = .returned (.bool false) ∧ w = w' := by
  have hl := hx.len
  replace Hf := Lib.hid Hf
  have HI : Hid (Calls Try.prog 81 #[.slice p n c, .func (.func 67) #[] #[]] w fun e w' => e = .returned (.int .i64 (-1)) ∧ w = w') := by
    replace hl := Lib.hid hl
    go_enter Try.func81, Try.ntmps81
    go_wp2_with fail
    go_loopg [8] n (fun k i W => ∃ j : Nat, j ≤ n ∧ k = n - j ∧ i = .int .i64 j ∧ w = W)
    case atStart => exact ⟨0, by omega, by omega, rfl, rfl⟩
    case round =>
      obtain ⟨j, hj, hk, rfl, rfl⟩ := hrel
      replace hk := Lib.hid hk
      by_cases hlt : j < n
      · obtain ⟨b, o, rfl, hb, hc⟩ := hx.at (by omega)
        have hcj := hc j hlt
        have HO := Lib.hid (Hf.out j hlt w)
        generalize xs[j]?.getD 0 = x at *
        clear hx hc
        go_wp2_with fail
        refine HO.out.mono ?_
        rintro e w' ⟨rfl, rfl⟩
        go_wp2_with fail
        have hk := hk.out
        go_roundg (n - (j + 1))
        case measure => omega
        case rel => exact ⟨j + 1, by omega, rfl, by go_num, rfl⟩
      · obtain rfl : n = j := by omega
        go_wp2_with fail
        go_ret
        exact ⟨rfl, rfl⟩
  go_enter Try.func66, Try.ntmps66
  go_wp2_with fail
  refine HI.out.mono ?_
  rintro e w' ⟨rfl, rfl⟩
  go_wp2_with fail
  go_ret
  exact ⟨rfl, rfl⟩
theorem strangeB_any (x : Int) (w : World) (h0 : 0 ≤ x) (h1 : x < 52) : Calls Try.prog 67 #[.int .i64 x] w fun e w' => e = .returned (.bool false) ∧ w = w' := by
  have g1 : decide (x < 0) = false := decide_eq_false (by omega)
  have g2 : decide (52 ≤ x) = false := decide_eq_false (by omega)
  go_enter Try.func67, Try.ntmps67
  go_wp2_with fail
  go_ret
  exact ⟨rfl, rfl⟩
set_option maxHeartbeats 2000000 in
theorem checkB_any (p : Option Addr) (n c : Nat) (l : List Nat) (w : World) (hn : n ≤ 100) (hx : IntsIn w p n (asI l)) (hl : ∀ x ∈ l, x < 52) (hd : l.Nodup) :
    Calls Try.prog 49 #[.slice p n c] w fun e w' => e = .returned (.int .i64 0) ∧ Below w.heap.size w w' := by
  have hll : l.length = n := by have := hx.len; rwa [asI_len] at this
  have HF := Lib.hid (contains_noneB p n c (asI l) w (by omega) hx fun j hj W => by
    rw [asI_at]
    exact strangeB_any _ W (by omega) (by have := hl _ (st_mem (l := l) (i := j) (by omega)); omega))
  have HV := Lib.hid (values_any p n c w)
  have HS := Lib.hid (sortedV_any p n c (asI l) (by omega) w hx)
  have hcs := compact_srt hd
  clear hx
  go_enter Try.func49, Try.ntmps49
  go_wp2_with fail
  refine HF.out.mono ?_
  rintro e w' ⟨rfl, rfl⟩
  go_wp2_with fail
  refine HV.out.mono ?_
  rintro e w' ⟨rfl, rfl⟩
  go_wp2_with fail
  refine HS.out.mono ?_
  rintro e w1 ⟨q, c1, rfl, hO, hB⟩
  have HC := Lib.hid (compact_own w.heap.size n c1 q _ w1 (by omega) hO hcs)
  have hqb := Lib.hid hO.rowb
  replace hB := Lib.hid hB
  clear hO hcs HS HV HF
  go_wp2_with fail
  refine HC.out.mono ?_
  rintro e w2 ⟨rfl, hg⟩
  have hB2 := Lib.hid (hB.out.grown hg hB.out.size hqb.out)
  clear hg HC
  go_wp2_with fail
  go_ret
  exact ⟨rfl, hB2.out⟩
end Go.Proofs.Ytkakggagaplaiaa
