/- What hanoi.check and hanoi.gather compute at states of up to 40 discs on pegs 0 to 2; conditions: the slice reads as such a state. -/
import Derived.Test.YtfjlhghiadoodaaMem
import Derived.Test.YtfjlhghiadoodaaMath
import Derived.Test.YtfjlhghiadoodaaRows
namespace Go.Proofs.Ytfjlhghiadoodaa
open Go.RowKit

def asI (s : List Nat) : List Int := s.map fun x : Nat => (x : Int)
def st (s : List Nat) (i : Nat) : Nat := s[i]?.getD 0
theorem asI_at (s : List Nat) (j : Nat) : (asI s)[j]?.getD 0 = (st s j : Nat) := by
  unfold asI st
  by_cases h : j < s.length <;> simp [h]
theorem asI_len (s : List Nat) : (asI s).length = s.length := by simp [asI]

theorem off_any (x : Int) (w : World) (h1 : 0 ≤ x) (h2 : x ≤ 2) : Calls Try.prog 16 #[.int .i64 x] w fun e w' => e = .returned (.bool false) ∧ w = w' := by
  go_enter Try.func16, Try.ntmps16
  go_wp2
  go_ret
  exact ⟨ret_bool (by simp; omega), rfl⟩

set_option maxHeartbeats 400000 in
theorem index_none (p : Option Addr) (n c : Nat) (s : List Nat) (w : World) (hn : n ≤ 1000000) (hx : IntsIn w p n (asI s)) (h : ∀ j, st s j < 3) :
    Calls Try.prog 21 #[.slice p n c, .func (.func 16) #[] #[]] w fun e w' => e = .returned (.int .i64 (-1)) ∧ w = w' := by
  go_enter Try.func21, Try.ntmps21
  go_wp2
  go_loopg [8] n (fun k i W => ∃ j : Nat, j ≤ n ∧ k = n - j ∧ i = .int .i64 j ∧ w = W)
  case atStart => exact ⟨0, by omega, by omega, rfl, rfl⟩
  case round =>
    obtain ⟨j, hj, hk, rfl, rfl⟩ := hrel
    by_cases hlt : j < n
    · obtain ⟨b, o, rfl, hb, hc⟩ := hx.at (by omega)
      have hcj := hc j hlt
      rw [asI_at] at hcj
      have g1 := h j
      replace hk := Lib.hid hk
      clear hx hc h
      go_wp2_with (go_at_call 16; refine (off_any _ _ (by omega) (by omega)).mono ?_; rintro e w' ⟨rfl, rfl⟩)
      have hk := hk.out
      go_roundg (n - (j + 1))
      case measure => omega
      case rel => exact ⟨j + 1, by omega, rfl, by go_num, rfl⟩
    · replace hk := Lib.hid hk
      clear hx h
      go_wp2
      go_ret
      exact ⟨rfl, rfl⟩

set_option maxHeartbeats 400000 in
theorem check_ok (p : Option Addr) (n c : Nat) (s : List Nat) (w : World) (hn : n ≤ 40) (hx : IntsIn w p n (asI s)) (h : ∀ j, st s j < 3) :
    Calls Try.prog 14 #[.slice p n c] w fun e w' => e = .returned (.int .i64 0) ∧ w = w' := by
  have H := Lib.hid (index_none p n c s w (by omega) hx h)
  clear hx h
  go_enter Try.func14, Try.ntmps14
  go_wp2_with (first | (go_at_call 21; refine H.out.mono ?_; rintro e w' ⟨rfl, rfl⟩) | go_in)
  go_ret
  exact ⟨rfl, rfl⟩

theorem shl_lt (m : Nat) (h : m < 62) : IntKind.i64.wrap (2 ^ m : Int) = 2 ^ m := by
  have : (2 : Int) ^ m ≤ 2 ^ 61 := by
    have := Nat.pow_le_pow_right (n := 2) (by omega) (show m ≤ 61 by omega)
    exact_mod_cast this
  have h0 : (0 : Int) ≤ 2 ^ m := by
    have := Nat.zero_le (2 ^ m)
    exact_mod_cast this
  exact IntWalk.i64_in _ (by omega)

set_option maxHeartbeats 1000000 in
theorem gather_any (p : Option Addr) (n c peg : Nat) (s : List Nat) (w : World) (hn : n ≤ 40) (hx : IntsIn w p n (asI s)) (h : ∀ j, st s j < 3) (hp : peg < 3) (pI : Int) (hpI : Hid (pI = peg)) :
    Calls Try.prog 15 #[.slice p n c, .int .i64 pI] w fun e w' => e = .returned (.int .i64 (G (st s) n peg : Nat)) ∧ w = w' := by
  have hpI := hpI.out
  subst hpI
  have hlt := G_lt (st s) n peg
  have h40 : 2 ^ n ≤ 2 ^ 40 := Nat.pow_le_pow_right (by omega) hn
  have hG : G (st s) n peg < 1099511627776 := by omega
  generalize hR : G (st s) n peg = R at *
  replace hR := Lib.hid hR; replace h := Lib.hid h; replace hx := Lib.hid hx
  clear hlt h40
  go_enter Try.func15, Try.ntmps15
  go_wp2
  go_loopg [1, 5, 6] n (fun k q a i W => ∃ m qn an : Nat, m ≤ n ∧ k = m ∧ i = .int .i64 ((m : Int) - 1) ∧ q = .int .i64 qn ∧ a = .int .i64 an ∧ qn < 3 ∧ an + G (st s) m qn = R ∧ w = W)
  case atStart => exact ⟨n, peg, 0, by omega, rfl, rfl, rfl, rfl, hp, by rw [hR.out]; omega, rfl⟩
  case round =>
    obtain ⟨m, q, a, hm, hk, rfl, rfl, rfl, hq, hg, rfl⟩ := hrel
    replace hk := Lib.hid hk
    by_cases hm0 : m = 0
    · subst hm0
      have ha : a = R := hg
      subst ha
      clear hg
      go_wp2
      go_ret
      exact ⟨rfl, rfl⟩
    · obtain ⟨j, rfl⟩ : ∃ j, m = j + 1 := ⟨m - 1, by omega⟩
      obtain ⟨b, o, rfl, hb, hc⟩ := hx.out.at (by omega)
      have hcj := hc j (by omega)
      rw [asI_at] at hcj
      have g1 := h.out j
      rw [G] at hg
      have ej : ((j + 1 : Nat) : Int) - 1 = j := by omega
      rw [ej]
      replace ej := Lib.hid ej
      generalize hv : st s j = v at *
      clear hc
      by_cases hvq : v = q
      · rw [if_pos hvq] at hg
        subst hvq
        replace hg := Lib.hid hg; replace hv := Lib.hid hv
        go_wp2
        have hk := hk.out
        go_roundg j
        case measure => omega
        case rel => exact ⟨j, v, a, by omega, rfl, by go_num, rfl, rfl, hq, hg.out, rfl⟩
      · rw [if_neg hvq] at hg
        have hne : ((v : Int) != (q : Int)) = true := by simp; omega
        have h2 : a + 2 ^ j ≤ R := by omega
        have hsh := shl_lt j (by omega)
        have e2 : ((2 ^ j : Nat) : Int) = 2 ^ j := by push_cast; rfl
        have h3 : ((a + 2 ^ j : Nat) : Int) ≤ (R : Int) := by exact_mod_cast h2
        rw [Int.natCast_add, e2] at h3
        have h4 : (0 : Int) ≤ ((2 ^ j : Nat) : Int) := Int.natCast_nonneg _
        rw [e2] at h4
        have b1 : (a : Int) + 2 ^ j < 1099511627776 := by omega
        clear h3
        replace hg := Lib.hid hg; replace hv := Lib.hid hv; replace h2 := Lib.hid h2; replace e2 := Lib.hid e2
        go_wp2
        have hk := hk.out
        go_roundg j
        case measure => omega
        case rel => exact ⟨j, 3 - v - q, a + 2 ^ j, by omega, rfl, by go_num, congrArg (Value.int .i64) (by omega), congrArg (Value.int .i64) (by rw [Int.natCast_add, e2.out]), by omega, by have := hg.out; omega, rfl⟩

theorem take_in {w : World} {p : Option Addr} {n : Nat} {xs : List Int} (h : IntsIn w p n xs) {k : Nat} (hk : k ≤ n) : IntsIn w p k (xs.take k) := by
  refine ⟨by simp; have := h.1; omega, fun j hj => ?_⟩
  obtain ⟨b, o, e, hs, hc⟩ := h.2 j (by omega)
  exact ⟨b, o, e, hs, by rw [hc]; simp [hj]⟩
theorem asI_take (s : List Nat) (k : Nat) : (asI s).take k = asI (s.take k) := by simp [asI]
theorem st_take (s : List Nat) (k i : Nat) (h : i < k) : st (s.take k) i = st s i := by simp [st, h]
theorem st_take_lt {s : List Nat} (h : ∀ j, st s j < 3) (k : Nat) : ∀ j, st (s.take k) j < 3 := by
  intro j
  by_cases hj : j < k
  · rw [st_take s k j hj]; exact h j
  · simp [st, List.getElem?_take, hj]
theorem gather_part (p : Option Addr) (n k c peg : Nat) (s : List Nat) (w : World) (hn : n ≤ 40) (hk : k ≤ n) (hx : IntsIn w p n (asI s)) (h : ∀ j, st s j < 3) (hp : peg < 3) (pI : Int) (hpI : Hid (pI = peg)) :
    Calls Try.prog 15 #[.slice p k c, .int .i64 pI] w fun e w' => e = .returned (.int .i64 (G (st s) k peg : Nat)) ∧ w = w' := by
  have hx' := take_in hx hk
  rw [asI_take] at hx'
  have := gather_any p k c peg (s.take k) w (by omega) hx' (st_take_lt h k) hp pI hpI
  rwa [G_congr k (fun i hi => st_take s k i hi)] at this
end Go.Proofs.Ytfjlhghiadoodaa
