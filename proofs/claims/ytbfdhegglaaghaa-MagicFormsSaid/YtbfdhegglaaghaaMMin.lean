/- What magic.side, slices.Min and slices.Max compute at squares of up to twelve rows of numbers from 1 on; conditions: the slice reads as such a square. -/
import Derived.Test.YtbfdhegglaaghaaMMake
namespace Go.Proofs.Ytbfdhegglaaghaa
open Go.RowKit

theorem sq_ne {k n : Nat} (h : k < n) : k * k ≠ n * n := by
  have : k * k < n * n := Nat.mul_self_lt_mul_self h
  omega

set_option maxHeartbeats 1000000 in
theorem side_any (n NN c : Nat) (p : Option Addr) (w : World) (hn1 : 1 ≤ n) (hn : n ≤ 12) (hN : Hid (NN = n * n)) :
    Calls Try.prog 14 #[.slice p NN c] w fun e w' => e = .returned (.int .i64 n) ∧ w = w' := by
  go_enter Try.func14, Try.ntmps14
  go_wp2
  go_loopg [3] (n - 1) (fun gk kv W' => ∃ k : Nat, 1 ≤ k ∧ k ≤ n ∧ gk = n - k ∧ kv = .int .i64 k ∧ w = W')
  case atStart => exact ⟨1, by omega, by omega, by omega, rfl, rfl⟩
  case round =>
    obtain ⟨k, hk1, hk, hgk, rfl, rfl⟩ := hrel
    replace hgk := Lib.hid hgk
    obtain ⟨kk, hkk⟩ : ∃ kk : Nat, k * k = kk := ⟨_, rfl⟩
    have hK : (k : Int) * k = (kk : Int) := by rw [← hkk]; simp
    have hb : kk ≤ 12 * 12 := by rw [← hkk]; exact Nat.mul_le_mul (by omega) (by omega)
    by_cases hlt : k < n
    · have hne := sq_ne hlt
      rw [hkk, ← hN.out] at hne
      have g0 : ((kk : Int) == (NN : Int)) = false := by simp; omega
      replace hne := Lib.hid hne; replace hkk := Lib.hid hkk
      go_wp2_with fail
      have hgk := hgk.out
      go_roundg (n - (k + 1))
      case measure => omega
      case rel => exact ⟨k + 1, by omega, by omega, rfl, by go_num, rfl⟩
    · have hke : k = n := by omega
      subst hke
      have hNk : NN = kk := by rw [hN.out, hkk]
      have g0 : ((kk : Int) == (NN : Int)) = true := by simp [hNk]
      replace hkk := Lib.hid hkk; replace hNk := Lib.hid hNk
      go_wp2_with fail
      go_ret
      exact ⟨rfl, rfl⟩

set_option maxHeartbeats 1000000 in
theorem min_any (NN c : Nat) (M : Int) (p : Option Addr) (l : List Nat) (w : World) (hn1 : 1 ≤ NN) (hn : NN ≤ 144) (hx : IntsIn w p NN (asI l)) (hl : ∀ i, i < NN → 1 ≤ st l i ∧ (st l i : Int) ≤ M ∧ st l i ≤ 1000) :
    Calls Try.prog 15 #[.slice p NN c] w fun e w' => (∃ m : Int, 1 ≤ m ∧ e = .returned (.int .i64 m)) ∧ w = w' := by
  obtain ⟨g, o, rfl, hg, hc⟩ := hx.at hn1
  have k0 := hc 0 (by omega)
  rw [asI_at] at k0
  simp only [Nat.add_zero] at k0
  obtain ⟨v1, v2, v3⟩ := hl 0 (by omega)
  replace hc := Lib.hid hc; replace hl := Lib.hid hl
  clear hx
  generalize st l 0 = v0 at *
  go_enter Try.func15, Try.ntmps15
  go_wp2_with fail
  clear k0
  go_loopg [3, 4] (NN - 1) (fun gk mv iv W' => ∃ i : Nat, ∃ m : Int, 1 ≤ i ∧ i ≤ NN ∧ gk = NN - i ∧ iv = .int .i64 i ∧ mv = .int .i64 m ∧ 1 ≤ m ∧ m ≤ M ∧ m ≤ 1000 ∧ w = W')
  case atStart => exact ⟨1, v0, by omega, by omega, by omega, rfl, rfl, by omega, by omega, by omega, rfl⟩
  case round =>
    obtain ⟨i, m, hi1, hi, hgk, rfl, rfl, m1, m2, m3, rfl⟩ := hrel
    replace hgk := Lib.hid hgk
    by_cases hlt : i < NN
    · have ki := hc.out i hlt
      rw [asI_at] at ki
      obtain ⟨u1, u2, u3⟩ := hl.out i hlt
      generalize st l i = v at *
      go_wp2_with fail
      all_goals
        have hgk := hgk.out
        go_roundg (NN - (i + 1))
        case measure => omega
        case rel => first
          | exact ⟨i + 1, (v : Int), by omega, by omega, rfl, by go_num, rfl, by omega, by omega, by omega, rfl⟩
          | exact ⟨i + 1, m, by omega, by omega, rfl, by go_num, rfl, by omega, by omega, by omega, rfl⟩
    · go_wp2_with fail
      go_ret
      exact ⟨⟨m, by omega, rfl⟩, rfl⟩

set_option maxHeartbeats 1000000 in
theorem max_any (NN c : Nat) (M : Int) (p : Option Addr) (l : List Nat) (w : World) (hn1 : 1 ≤ NN) (hn : NN ≤ 144) (hx : IntsIn w p NN (asI l)) (hl : ∀ i, i < NN → 1 ≤ st l i ∧ (st l i : Int) ≤ M ∧ st l i ≤ 1000) :
    Calls Try.prog 16 #[.slice p NN c] w fun e w' => (∃ m : Int, m ≤ M ∧ e = .returned (.int .i64 m)) ∧ w = w' := by
  obtain ⟨g, o, rfl, hg, hc⟩ := hx.at hn1
  have k0 := hc 0 (by omega)
  rw [asI_at] at k0
  simp only [Nat.add_zero] at k0
  obtain ⟨v1, v2, v3⟩ := hl 0 (by omega)
  replace hc := Lib.hid hc; replace hl := Lib.hid hl
  clear hx
  generalize st l 0 = v0 at *
  go_enter Try.func16, Try.ntmps16
  go_wp2_with fail
  clear k0
  go_loopg [3, 4] (NN - 1) (fun gk mv iv W' => ∃ i : Nat, ∃ m : Int, 1 ≤ i ∧ i ≤ NN ∧ gk = NN - i ∧ iv = .int .i64 i ∧ mv = .int .i64 m ∧ 1 ≤ m ∧ m ≤ M ∧ m ≤ 1000 ∧ w = W')
  case atStart => exact ⟨1, v0, by omega, by omega, by omega, rfl, rfl, by omega, by omega, by omega, rfl⟩
  case round =>
    obtain ⟨i, m, hi1, hi, hgk, rfl, rfl, m1, m2, m3, rfl⟩ := hrel
    replace hgk := Lib.hid hgk
    by_cases hlt : i < NN
    · have ki := hc.out i hlt
      rw [asI_at] at ki
      obtain ⟨u1, u2, u3⟩ := hl.out i hlt
      generalize st l i = v at *
      go_wp2_with fail
      all_goals
        have hgk := hgk.out
        go_roundg (NN - (i + 1))
        case measure => omega
        case rel => first
          | exact ⟨i + 1, (v : Int), by omega, by omega, rfl, by go_num, rfl, by omega, by omega, by omega, rfl⟩
          | exact ⟨i + 1, m, by omega, by omega, rfl, by go_num, rfl, by omega, by omega, by omega, rfl⟩
    · go_wp2_with fail
      go_ret
      exact ⟨⟨m, by omega, rfl⟩, rfl⟩
end Go.Proofs.Ytbfdhegglaaghaa
