/- What magic.Is computes at squares of up to twelve rows of numbers up to 1000; conditions: the slice reads as such a square. -/
import Derived.Test.YtbfdhegglaaghaaMProd
namespace Go.Proofs.Ytbfdhegglaaghaa
open Go.RowKit

theorem off_any (x : Nat) (w : World) (h2 : x ≤ 1000) : Calls Try.prog 18 #[.int .i64 (x : Int)] w fun e w' => e = .returned (.bool false) ∧ w = w' := by
  go_enter Try.func18, Try.ntmps18
  go_wp2
  go_ret
  exact ⟨ret_bool (by simp; omega), rfl⟩

set_option maxHeartbeats 400000 in
theorem index_none (p : Option Addr) (n c : Nat) (s : List Nat) (w : World) (hn : n ≤ 1000000) (hx : IntsIn w p n (asI s)) (h : ∀ j, st s j ≤ 1000) :
    Calls Try.prog 29 #[.slice p n c, .func (.func 18) #[] #[]] w fun e w' => e = .returned (.int .i64 (-1)) ∧ w = w' := by
  go_enter Try.func29, Try.ntmps29
  go_wp2
  go_loopg [8] n (fun k i W => ∃ j : Nat, j ≤ n ∧ k = n - j ∧ i = .int .i64 j ∧ w = W)
  case atStart => exact ⟨0, by omega, by omega, rfl, rfl⟩
  case round =>
    obtain ⟨j, hj, hk, rfl, rfl⟩ := hrel
    by_cases hlt : j < n
    · obtain ⟨b, o, rfl, hb, hc⟩ := hx.at (by omega)
      have hcj := hc j hlt
      rw [asI_at] at hcj
      have g1 := h j
      replace hk := Lib.hid hk
      clear hx hc h
      go_wp2_with (go_at_call 18; refine (off_any _ _ (by omega)).mono ?_; rintro e w' ⟨rfl, rfl⟩)
      have hk := hk.out
      go_roundg (n - (j + 1))
      case measure => omega
      case rel => exact ⟨j + 1, by omega, rfl, by go_num, rfl⟩
    · replace hk := Lib.hid hk
      clear hx h
      go_wp2
      go_ret
      exact ⟨rfl, rfl⟩

set_option maxHeartbeats 400000 in
theorem contains_none (p : Option Addr) (n c : Nat) (s : List Nat) (w : World) (hn : n ≤ 1000000) (hx : IntsIn w p n (asI s)) (h : ∀ j, st s j ≤ 1000) :
    Calls Try.prog 17 #[.slice p n c, .func (.func 18) #[] #[]] w fun e w' => e = .returned (.bool false) ∧ w = w' := by
  have H := Lib.hid (index_none p n c s w hn hx h)
  clear hx h
  go_enter Try.func17, Try.ntmps17
  go_wp2_with (go_at_call 29; refine H.out.mono ?_; rintro e w' ⟨rfl, rfl⟩)
  go_ret
  exact ⟨rfl, rfl⟩

set_option maxHeartbeats 1000000 in
theorem is_any (n NN c : Nat) (p : Option Addr) (l : List Nat) (w : World) (hn1 : 1 ≤ n) (hn : n ≤ 12) (hN : Hid (NN = n * n)) (hx : IntsIn w p NN (asI l)) (hl : ∀ x ∈ l, x ≤ 1000) :
    Calls Try.prog 8 #[.slice p NN c] w fun e w' => e = .returned (.tuple #[.int .i64 (kindS l n).1, .int .i64 (kindS l n).2, .int .i64 0]) ∧ Below w.heap.size w w' := by
  have hN144 : NN ≤ 12 * 12 := by rw [hN.out]; exact Nat.mul_le_mul hn hn
  have HS := Lib.hid (side_any n NN c p w hn1 hn hN)
  have HC := Lib.hid (contains_none p NN c l w (by omega) hx (fun j => st_le hl j))
  have HK := Lib.hid (kind_any n c p l w hn1 hn (by rw [← hN.out]; exact hx) hl)
  rw [← hN.out] at HK
  have z0 : ((n : Int) == 0) = false := by simp; omega
  clear hx hl
  generalize kindS l n = ks at *
  obtain ⟨k1, k2⟩ := ks
  simp only at HK
  go_enter Try.func8, Try.ntmps8
  go_wp2_with fail
  refine HS.out.mono ?_
  rintro e w' ⟨rfl, rfl⟩
  go_wp2_with fail
  refine HC.out.mono ?_
  rintro e w' ⟨rfl, rfl⟩
  go_wp2_with fail
  refine HK.out.mono ?_
  rintro e W ⟨rfl, hB⟩
  replace hB := Lib.hid hB
  go_wp2_with fail
  go_ret3
  exact ⟨rfl, hB.out⟩
end Go.Proofs.Ytbfdhegglaaghaa
