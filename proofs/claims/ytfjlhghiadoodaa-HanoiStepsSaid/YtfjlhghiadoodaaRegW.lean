/- What hanoi.Regular tells of the state behind k moves of the way from peg 0 to peg 2: that it is one, and k; conditions: up to 40 discs; the slice reads as that state. -/
import Derived.Test.YtfjlhghiadoodaaMath2
namespace Go.Proofs.Ytfjlhghiadoodaa
open Go.RowKit

theorem acc_step (k j : Nat) : 2 ^ j * (k / 2 ^ j) = 2 ^ (j + 1) * (k / 2 ^ (j + 1)) + 2 ^ j * bit k j := by
  unfold bit
  rw [Nat.pow_succ, ← Nat.div_div_eq_div_mul, Nat.mul_assoc, ← Nat.mul_add]
  congr 1
  omega

set_option maxRecDepth 100000 in
set_option maxHeartbeats 4000000 in
theorem regular_any (p : Option Addr) (n c k : Nat) (w : World) (hn : n ≤ 40) (hk : k < 2 ^ n) (hx : IntsIn w p n (asI (NS n 0 2 k))) :
    Calls Try.prog 12 #[.slice p n c] w fun e w' => e = .returned (.tuple #[.int .i64 1, .int .i64 k, .int .i64 0]) ∧ w = w' := by
  have C := Lib.hid (check_ok p n c (NS n 0 2 k) w hn hx (NS_lt n 0 2 k (by omega) (by omega) (by omega)))
  have hp40 : 2 ^ n ≤ 2 ^ 40 := Nat.pow_le_pow_right (by omega) hn
  have hk40 : k < 1099511627776 := by omega
  have hk0 : Hid (k / 2 ^ n = 0) := Nat.div_eq_of_lt hk
  obtain ⟨s, hs⟩ : ∃ s, s = NS n 0 2 k := ⟨_, rfl⟩
  rw [← hs] at hx
  replace hs := Lib.hid hs; replace hx := Lib.hid hx
  clear hp40 hk
  go_enter Try.func12, Try.ntmps12
  go_wp2_with fail
  refine C.out.mono ?_
  rintro e w' ⟨rfl, rfl⟩
  go_wp2_with fail
  go_loopg [6, 7, 8, 9] n (fun kk fr to acc i W => ∃ m a' b' A : Nat, m ≤ n ∧ kk = m ∧ i = .int .i64 ((m : Int) - 1) ∧ fr = .int .i64 a' ∧ to = .int .i64 b' ∧ acc = .int .i64 A ∧ a' < 3 ∧ b' < 3 ∧ a' ≠ b' ∧ A = 2 ^ m * (k / 2 ^ m) ∧ (∀ i, i < m → st s i = st (NS m a' b' k) i) ∧ w = W)
  case atStart => exact ⟨n, 0, 2, 0, by omega, rfl, rfl, rfl, rfl, rfl, by omega, by omega, by omega, by rw [hk0.out]; simp, fun i _ => by rw [hs.out], rfl⟩
  case round =>
    obtain ⟨m, a', b', A, hm, hgk, rfl, rfl, rfl, rfl, ha, hb, hne, hA, hst, rfl⟩ := hrel
    replace hgk := Lib.hid hgk
    by_cases hm0 : m = 0
    · subst hm0
      have hAk : A = k := by rw [hA]; simp
      subst hAk
      clear hA hst hne
      go_wp2_with fail
      go_ret3
      exact ⟨rfl, rfl⟩
    · obtain ⟨j, rfl⟩ : ∃ j, m = j + 1 := ⟨m - 1, by omega⟩
      have ej : ((j + 1 : Nat) : Int) - 1 = j := by omega
      rw [ej]
      replace ej := Lib.hid ej
      obtain ⟨b, o, rfl, hb', hc⟩ := hx.out.at (by omega)
      have cj := hc j (by omega)
      rw [asI_at, hst j (by omega)] at cj
      have k0 : (0 : Int) ≤ j := by omega
      have k1 : (j : Int) < n := by omega
      have hstep := acc_step k j
      have hAk : 2 ^ j * (k / 2 ^ j) ≤ k := Nat.mul_div_le k (2 ^ j)
      have hsh := shl_lt j (by omega)
      clear hc
      rcases bit_cases k j with ⟨hbit, _⟩ | ⟨hbit, _⟩
      · have e1 : st (NS (j + 1) a' b' k) j = a' := by rw [NS, if_pos hbit]; exact st_last _ _ _ (NS_len _ _ _ _)
        have hlow : Hid (∀ i, i < j → st s i = st (NS j a' (3 - a' - b') k) i) := fun i hi => by rw [hst i (by omega), NS, if_pos hbit]; exact st_app _ _ _ (by rw [NS_len]; exact hi)
        have hA2 : Hid (A = 2 ^ j * (k / 2 ^ j)) := by show _ = _; rw [hstep, hA, hbit]; simp
        rw [e1] at cj
        clear hsh hst e1 hstep hAk hA
        replace hbit := Lib.hid hbit; replace hne := Lib.hid hne
        go_wp2_with fail
        have hgk := hgk.out
        go_roundg j
        case measure => omega
        case rel =>
          exact ⟨j, a', 3 - a' - b', A, by omega, rfl, by go_num, rfl, congrArg (Value.int .i64) (by have := hne.out; omega), rfl, ha, by have := hne.out; omega, by have := hne.out; omega, hA2.out, hlow.out, rfl⟩
      · have e1 : st (NS (j + 1) a' b' k) j = b' := by rw [NS, if_neg (show ¬ bit k j = 0 by omega)]; exact st_last _ _ _ (NS_len _ _ _ _)
        have hlow : Hid (∀ i, i < j → st s i = st (NS j (3 - a' - b') b' k) i) := fun i hi => by rw [hst i (by omega), NS, if_neg (show ¬ bit k j = 0 by omega)]; exact st_app _ _ _ (by rw [NS_len]; exact hi)
        have hA2 : Hid (A + 2 ^ j = 2 ^ j * (k / 2 ^ j)) := by show _ = _; rw [hstep, hA, hbit]; simp
        have hor : bits .or .i64 (A : Int) ((2 : Int) ^ j) = ((A + 2 ^ j : Nat) : Int) := by
          have := bits_or2 (k / 2 ^ (j + 1)) j (by omega) (by rw [← hA]; have := hA2.out; have := two_pos j; omega)
          rw [← hA] at this
          rw [← this]; push_cast; rfl
        have hne1 : ((b' : Int) == a') = false := by simp; omega
        obtain ⟨A', eA'⟩ : ∃ A', A' = A + 2 ^ j := ⟨_, rfl⟩
        rw [← eA'] at hor
        rw [e1] at cj
        clear hst e1 hstep hAk hA
        replace hbit := Lib.hid hbit; replace hne := Lib.hid hne; replace eA' := Lib.hid eA'
        go_wp2_with fail
        have hgk := hgk.out
        go_roundg j
        case measure => omega
        case rel =>
          exact ⟨j, 3 - a' - b', b', A', by omega, rfl, by go_num, congrArg (Value.int .i64) (by have := hne.out; omega), rfl, rfl, by have := hne.out; omega, hb, by have := hne.out; omega, by rw [eA'.out]; exact hA2.out, hlow.out, rfl⟩
end Go.Proofs.Ytfjlhghiadoodaa
