/- What mancala.May computes, whatever the board; conditions: the slice's length fits its kind. -/
import Derived.Test.YtehcelajmhclmaaMCore
import Derived.IntWalk
namespace Go.Proofs.Ytehcelajmhclmaa
open Go.RowKit

def mayGo : List Int → Int → Bool
  | [], _ => true
  | s :: r, left => if s < 0 ∨ s > left then false else mayGo r (left - s)
def mayF (xs : List Int) (t : Int) : Bool := decide (4 ≤ xs.length ∧ xs.length ≤ 14 ∧ xs.length % 2 = 0 ∧ 0 ≤ t ∧ t ≤ 1) && mayGo xs 1000
theorem and1 : ∀ n : Nat, n < 15 → bits BinOp.and IntKind.i64 (n : Int) 1 = ((n % 2 : Nat) : Int) := by decide

theorem mayGo_nat : ∀ (xs : List Int) (left : Nat), mayGo xs left = true → ∃ s : List Nat, xs = asI s ∧ s.sum ≤ left := by
  intro xs
  induction xs with
  | nil => intro left _; exact ⟨[], rfl, by simp⟩
  | cons x xs ih =>
    intro left h
    unfold mayGo at h
    split at h
    · cases h
    · obtain ⟨k, rfl⟩ : ∃ k : Nat, x = k := ⟨x.toNat, by omega⟩
      have e : (left : Int) - (k : Int) = ((left - k : Nat) : Int) := by omega
      rw [e] at h
      obtain ⟨s, rfl, hs⟩ := ih _ h
      exact ⟨k :: s, rfl, by simp; omega⟩
theorem mayGo_of : ∀ (s : List Nat) (left : Nat), s.sum ≤ left → mayGo (asI s) left = true := by
  intro s
  induction s with
  | nil => intro left _; rfl
  | cons x s ih =>
    intro left h
    simp at h
    show (if (x : Int) < 0 ∨ (x : Int) > left then false else mayGo (asI s) ((left : Int) - x)) = true
    rw [if_neg (by omega)]
    have e : (left : Int) - (x : Int) = ((left - x : Nat) : Int) := by omega
    rw [e]
    exact ih _ (by omega)

set_option maxHeartbeats 2000000 in
theorem may_any (q : Option Addr) (n c : Nat) (t : Int) (xs : List Int) (w : World) (hn : n ≤ 9223372036854775807) (ht1 : -9223372036854775808 ≤ t) (ht2 : t ≤ 9223372036854775807) (hx : IntsIn w q n xs) :
    Calls Try.prog 6 #[.agg #[.slice q n c, .int .i64 t]] w fun e w' => e = .returned (.bool (mayF xs t)) ∧ Below w.heap.size w w' := by
  have hl := hx.len
  have hB := Lib.hid ((Below.refl w.heap.size w).alloc (Nat.le_refl _) (.cells #[.slice q n c, .int .i64 t] 24))
  have hxa := Lib.hid (hx.alloc (.cells #[.slice q n c, .int .i64 t] 24))
  have hm : Hid (mayF xs t = (decide (4 ≤ n ∧ n ≤ 14 ∧ n % 2 = 0 ∧ 0 ≤ t ∧ t ≤ 1) && mayGo xs 1000)) := by show _ = _; unfold mayF; rw [hl]
  clear hx
  replace hl := Lib.hid hl
  by_cases hok : 4 ≤ n ∧ n ≤ 14 ∧ n % 2 = 0 ∧ 0 ≤ t ∧ t ≤ 1
  · obtain ⟨h1, h2, h3, h4, h5⟩ := hok
    have hb := and1 n (by omega)
    rw [h3] at hb
    have hm2 : Hid (mayF xs t = mayGo xs 1000) := by show _ = _; rw [hm.out]; simp [h1, h2, h3, h4, h5]
    replace h3 := Lib.hid h3
    clear hm
    go_enter Try.func6, Try.ntmps6
    go_wp2_with fail
    go_loopg [4, 34] n (fun gk lv iv W' => ∃ (j : Nat) (L : Nat), j ≤ n ∧ gk = n - j ∧ iv = .int .i64 j ∧ lv = .int .i64 L ∧ L ≤ 1000 ∧ mayGo xs 1000 = mayGo (xs.drop j) L ∧ w.alloc (.cells #[.slice q n c, .int .i64 t] 24) = W')
    case atStart => exact ⟨0, 1000, by omega, by omega, rfl, rfl, by omega, rfl, rfl⟩
    case round =>
      obtain ⟨j, L, hj, hgk, rfl, rfl, hL, hgo, rfl⟩ := hrel
      replace hgk := Lib.hid hgk
      by_cases hlt : j < n
      · have hcons : xs.drop j = (xs[j]?.getD 0) :: xs.drop (j + 1) := by
          have : j < xs.length := by rw [hl.out]; exact hlt
          rw [List.drop_eq_getElem_cons this]; simp [this]
        rw [hcons] at hgo
        obtain ⟨b, o, rfl, hbl, hc⟩ := hxa.out.at (by omega)
        have hcj := hc j hlt
        generalize xs[j]?.getD 0 = v at *
        rw [mayGo] at hgo
        clear hc hcons
        by_cases hv : v < 0 ∨ v > (L : Int)
        · rw [if_pos hv] at hgo
          replace hgo := Lib.hid hgo
          rcases (show v < 0 ∨ 0 ≤ v by omega) with hv0 | hv0
          · go_wp2_with fail
            go_ret
            exact ⟨ret_bool (by rw [hm2.out, hgo.out]), hB.out⟩
          · have hv1 : (L : Int) < v := by omega
            go_wp2_with fail
            go_ret
            exact ⟨ret_bool (by rw [hm2.out, hgo.out]), hB.out⟩
        · rw [if_neg hv] at hgo
          obtain ⟨k, rfl⟩ : ∃ k : Nat, v = k := ⟨v.toNat, by omega⟩
          have e : (L : Int) - (k : Int) = ((L - k : Nat) : Int) := by omega
          have hkL : k ≤ L := by omega
          rw [e] at hgo
          replace hgo := Lib.hid hgo; replace e := Lib.hid e
          clear hv
          go_wp2_with fail
          have hgk := hgk.out
          go_roundg (n - (j + 1))
          case measure => omega
          case rel => exact ⟨j + 1, L - k, by omega, rfl, by go_num, by first | exact congrArg _ e.out | go_num, by omega, hgo.out, rfl⟩
      · have hje : j = n := by omega
        subst hje
        rw [List.drop_of_length_le (by rw [hl.out]; exact Nat.le_refl _)] at hgo
        replace hgo := Lib.hid hgo
        go_wp2_with fail
        go_ret
        exact ⟨ret_bool (by rw [hm2.out, hgo.out]; rfl), hB.out⟩
  · have hm2 : Hid (mayF xs t = false) := by show _ = _; rw [hm.out, decide_eq_false hok]; rfl
    clear hm
    by_cases h1 : n < 4
    · go_enter Try.func6, Try.ntmps6
      go_wp2_with fail
      go_ret
      exact ⟨ret_bool hm2.out.symm, hB.out⟩
    · by_cases h2 : 14 < n
      · go_enter Try.func6, Try.ntmps6
        go_wp2_with fail
        go_ret
        exact ⟨ret_bool hm2.out.symm, hB.out⟩
      · have hb := and1 n (by omega)
        by_cases h3 : n % 2 = 0
        · rw [h3] at hb
          replace h3 := Lib.hid h3
          by_cases h4 : t < 0
          · replace hok := Lib.hid hok
            go_enter Try.func6, Try.ntmps6
            go_wp2_with fail
            go_ret
            exact ⟨ret_bool hm2.out.symm, hB.out⟩
          · have h5 : 1 < t := by have := h3.out; omega
            replace hok := Lib.hid hok
            go_enter Try.func6, Try.ntmps6
            go_wp2_with fail
            go_ret
            exact ⟨ret_bool hm2.out.symm, hB.out⟩
        · have h6 : n % 2 = 1 := by omega
          rw [h6] at hb
          replace h3 := Lib.hid h3; replace h6 := Lib.hid h6; replace hok := Lib.hid hok
          go_enter Try.func6, Try.ntmps6
          go_wp2_with fail
          go_ret
          exact ⟨ret_bool hm2.out.symm, hB.out⟩
end Go.Proofs.Ytehcelajmhclmaa
