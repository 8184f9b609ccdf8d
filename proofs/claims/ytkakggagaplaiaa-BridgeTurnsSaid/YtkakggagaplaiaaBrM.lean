/- What bridge's may computes; conditions: the hand's cards are below 52, the card led too. -/
import Derived.Test.YtkakggagaplaiaaBrW
namespace Go.Proofs.Ytkakggagaplaiaa
open Go.RowKit

set_option maxHeartbeats 2000000 in
theorem may1_any (bx x y : Nat) (w : World) (hb : w.cell? ⟨bx, 0, none⟩ = some (.int .i64 (y : Nat))) :
    Calls Try.prog 103 #[.int .i64 x, .pointer (some ⟨bx, 0, none⟩)] w fun e w' => e = .returned (.bool (x % 4 == y % 4)) ∧ w = w' := by
  obtain ⟨R, hR⟩ : ∃ R, R = (x % 4 == y % 4) := ⟨_, rfl⟩
  rw [← hR]
  have hmod2 : ∀ x : Nat, (x : Int).tmod 4 = ((x % 4 : Nat) : Int) := fun x => by rw [Int.tmod_eq_emod_of_nonneg (by omega)]; push_cast; rfl
  have q0 := hmod2 x
  have q4 := hmod2 y
  have q0' : (x : Int) % 4 = ((x % 4 : Nat) : Int) := by push_cast; rfl
  have q4' : (y : Int) % 4 = ((y % 4 : Nat) : Int) := by push_cast; rfl
  have b1 : x % 4 < 4 := Nat.mod_lt _ (by omega)
  have b2 : y % 4 < 4 := Nat.mod_lt _ (by omega)
  clear hmod2
  generalize x % 4 = S at *
  generalize y % 4 = T at *
  have hRe : Hid (((S : Int) == (T : Int)) = R) := by show _ = _; rw [hR, Bool.eq_iff_iff, beq_iff_eq, beq_iff_eq]; omega
  clear hR
  go_enter Try.func103, Try.ntmps103
  go_wp2_with fail
  go_ret
  exact ⟨by rw [← hRe.out]; rfl, rfl⟩
/-- a test asked of each card, till it holds. -/
theorem containsM (cap : Array Value) (p : Option Addr) (n c : Nat) (l : List Nat) (f : Nat → Bool) (w : World) (hn : n ≤ 1000) (hx : IntsIn w p n (asI l))
    (Hf : ∀ j, j < n → Calls Try.prog 103 (#[.int .i64 (st l j : Nat)] ++ cap) w fun e w' => e = .returned (.bool (f (st l j))) ∧ w = w') :
    Calls Try.prog 81 #[.slice p n c, .func (.func 103) #[] cap] w fun e w' => ((e = .returned (.int .i64 (-1)) ∧ ∀ j, j < n → f (st l j) = false) ∨ ∃ i : Nat, e = .returned (.int .i64 i) ∧ i < n ∧ f (st l i) = true) ∧ w = w' := by
  replace Hf := Lib.hid Hf
  go_enter Try.func81, Try.ntmps81
  go_wp2_with fail
  go_loopg [8] n (fun k i W => ∃ j : Nat, j ≤ n ∧ k = n - j ∧ i = .int .i64 j ∧ Hid (∀ t, t < j → f (st l t) = false) ∧ w = W)
  case atStart => exact ⟨0, by omega, by omega, rfl, fun t ht => absurd ht (by omega), rfl⟩
  case round =>
    obtain ⟨j, hj, hk, rfl, hno, rfl⟩ := hrel
    replace hk := Lib.hid hk
    by_cases hlt : j < n
    · obtain ⟨bb, oo, rfl, hbb, hcc⟩ := hx.at (by omega)
      have c0 := hcc j hlt
      rw [asI_at] at c0
      have HO := Lib.hid (Hf.out j hlt)
      obtain ⟨x, hxe⟩ : ∃ x, st l j = x := ⟨_, rfl⟩
      rw [hxe] at c0 HO
      clear hx hcc
      cases hf : f x with
      | true =>
        rw [hf] at HO
        have hf' : Hid (f (st l j) = true) := by show _ = _; rw [hxe]; exact hf
        replace hxe := Lib.hid hxe
        clear hf
        go_wp2_with fail
        refine HO.out.mono ?_
        rintro e w' ⟨rfl, rfl⟩
        go_wp2_with fail
        go_ret
        exact ⟨.inr ⟨j, rfl, hlt, hf'.out⟩, rfl⟩
      | false =>
        rw [hf] at HO
        have hno2 : Hid (∀ t, t < j + 1 → f (st l t) = false) := fun t ht => by
          rcases (show t < j ∨ t = j by omega) with h | h
          · exact hno.out t h
          · rw [h, hxe]; exact hf
        replace hxe := Lib.hid hxe
        clear hf
        go_wp2_with fail
        refine HO.out.mono ?_
        rintro e w' ⟨rfl, rfl⟩
        go_wp2_with fail
        have hk := hk.out
        go_roundg (n - (j + 1))
        case measure => omega
        case rel => exact ⟨j + 1, by omega, rfl, by go_num, hno2, rfl⟩
    · obtain rfl : j = n := by omega
      go_wp2_with fail
      go_ret
      exact ⟨.inl ⟨rfl, hno.out⟩, rfl⟩
theorem containsF (cap : Array Value) (p : Option Addr) (n c : Nat) (l : List Nat) (f : Nat → Bool) (w : World) (hn : n ≤ 1000) (hx : IntsIn w p n (asI l))
    (Hf : ∀ j, j < n → Calls Try.prog 103 (#[.int .i64 (st l j : Nat)] ++ cap) w fun e w' => e = .returned (.bool (f (st l j))) ∧ w = w') :
    Calls Try.prog 66 #[.slice p n c, .func (.func 103) #[] cap] w fun e w' => e = .returned (.bool (l.any f)) ∧ w = w' := by
  have hll : l.length = n := by have := hx.len; rwa [asI_len] at this
  have HI := Lib.hid (containsM cap p n c l f w hn hx Hf)
  obtain ⟨R, hR⟩ : ∃ R, R = l.any f := ⟨_, rfl⟩
  rw [← hR]
  replace hR := Lib.hid hR
  clear hx Hf
  go_enter Try.func66, Try.ntmps66
  go_wp2_with fail
  refine HI.out.mono ?_
  rintro e w' ⟨⟨rfl, hno⟩ | ⟨i, rfl, hi, hy⟩, rfl⟩
  · have hRe : Hid (R = false) := by
      show _ = _
      rw [hR.out, List.any_eq_false]
      intro x hx
      obtain ⟨j, hj, rfl⟩ := List.getElem_of_mem hx
      have := hno j (by omega)
      rw [show st l j = l[j] by unfold st; simp [hj]] at this
      rw [this]; simp
    clear hno HI
    go_wp2_with fail
    go_ret
    exact ⟨ret_bool hRe.out.symm, rfl⟩
  · have hRe : Hid (R = true) := by
      show _ = _
      rw [hR.out, List.any_eq_true]
      exact ⟨_, st_mem (l := l) (i := i) (by omega), hy⟩
    have h0 : (0 : Int) ≤ (i : Int) := by omega
    clear hy HI
    go_wp2_with fail
    go_ret
    exact ⟨ret_bool hRe.out.symm, rfl⟩
set_option maxHeartbeats 2000000 in
theorem bmay_any (p : Option Addr) (n c x : Nat) (led : Int) (l t : List Nat) (w : World) (hn : n ≤ 1000) (hx : IntsIn w p n (asI l))
    (ht : (t = [] ∧ led = -1) ∨ (t ≠ [] ∧ led = (st t 0 : Nat) ∧ st t 0 < 52)) :
    Calls Try.prog 83 #[.slice p n c, .int .i64 led, .int .i64 x] w fun e w' => e = .returned (.bool (lgl l t x)) ∧ Below w.heap.size w w' := by
  obtain ⟨R, hR⟩ : ∃ R, R = lgl l t x := ⟨_, rfl⟩
  rw [← hR]
  unfold lgl at hR
  have hB := Lib.hid ((Below.refl w.heap.size w).alloc (Nat.le_refl _) (.cells #[.int .i64 led] 3))
  have hb : (w.alloc (.cells #[.int .i64 led] 3)).cell? ⟨w.heap.size, 0, none⟩ = some (.int .i64 led) := wcell (cs := [_]) (heap_alloc_new w _) 0
  rcases ht with ⟨rfl, rfl⟩ | ⟨hne, rfl, hy⟩
  · have hRe : Hid (R = true) := by show _ = _; rw [hR]; simp
    clear hR hx
    go_enter Try.func83, Try.ntmps83
    go_wp2_with fail
    go_ret
    exact ⟨ret_bool hRe.out.symm, hB.out⟩
  · have hem : t.isEmpty = false := by cases t with | nil => exact absurd rfl hne | cons _ _ => rfl
    rw [hem, Bool.false_or] at hR
    generalize st t 0 = y at *
    have hll : l.length = n := by have := hx.len; rwa [asI_len] at this
    have HC := Lib.hid (containsF #[.pointer (some ⟨w.heap.size, 0, none⟩)] p n c l (fun z => z % 4 == y % 4) _ hn (hx.below hB.out) fun j hj => may1_any w.heap.size _ y _ hb)
    have hmod2 : ∀ x : Nat, (x : Int).tmod 4 = ((x % 4 : Nat) : Int) := fun x => by rw [Int.tmod_eq_emod_of_nonneg (by omega)]; push_cast; rfl
    have q0 := hmod2 x
    have q4 := hmod2 y
    have q0' : (x : Int) % 4 = ((x % 4 : Nat) : Int) := by push_cast; rfl
    have q4' : (y : Int) % 4 = ((y % 4 : Nat) : Int) := by push_cast; rfl
    have b1 : x % 4 < 4 := Nat.mod_lt _ (by omega)
    have b2 : y % 4 < 4 := Nat.mod_lt _ (by omega)
    have hn0 : decide ((y : Int) < 0) = false := by simp
    clear hmod2 hx hne
    generalize l.any (fun z => z % 4 == y % 4) = A at *
    generalize x % 4 = S at *
    generalize y % 4 = T at *
    by_cases hS : S = T
    · subst hS
      have hRe : Hid (R = true) := by show _ = _; rw [hR]; simp
      clear hR
      go_enter Try.func83, Try.ntmps83
      go_wp2_with fail
      go_ret
      exact ⟨ret_bool hRe.out.symm, hB.out⟩
    · have eb : ((S : Int) == (T : Int)) = false := by simp; omega
      have hRe : Hid ((!A) = R) := by show _ = _; rw [hR]; simp [hS]
      clear hR
      go_enter Try.func83, Try.ntmps83
      go_wp2_with fail
      refine HC.out.mono ?_
      rintro e w' ⟨rfl, rfl⟩
      go_wp2_with fail
      go_ret
      exact ⟨by rw [← hRe.out]; rfl, hB.out⟩
end Go.Proofs.Ytkakggagaplaiaa
