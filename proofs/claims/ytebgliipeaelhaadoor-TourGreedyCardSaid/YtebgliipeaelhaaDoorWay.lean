/- Plain laws on ways: lists of places, each a leap from the one ahead of it, none twice; conditions: none. -/
import Derived.Test.YtebgliipeaelhaaDoorFre
namespace Go.Proofs.YtebgliipeaelhaaDoor

structure Way (a b x : Nat) (l : List Nat) : Prop where
  nd : l.Nodup
  lt : ∀ q ∈ l, q < a * b
  st0 : 0 < l.length → st l 0 = x
  ch : ∀ i, i + 1 < l.length → st l (i + 1) ∈ nb a b (st l i)
theorem st_app (l : List Nat) (p i : Nat) : st (l ++ [p]) i = if i < l.length then st l i else if i = l.length then p else 0 := by
  unfold st
  by_cases h : i < l.length
  · rw [if_pos h, List.getElem?_append_left h]
  · rw [if_neg h, List.getElem?_append_right (by omega)]
    by_cases h2 : i = l.length
    · rw [if_pos h2, h2]; simp
    · rw [if_neg h2, List.getElem?_eq_none (by simp; omega)]; rfl
theorem Way.push {a b x p : Nat} {l : List Nat} (h : Way a b x l) (hp : p < a * b) (hn : p ∉ l) (h0 : l.length = 0 → p = x) (hc : 0 < l.length → p ∈ nb a b (st l (l.length - 1))) : Way a b x (l ++ [p]) := by
  refine ⟨?_, fun q hq => ?_, fun _ => ?_, fun i hi => ?_⟩
  · rw [List.nodup_append]
    refine ⟨h.nd, by simp, fun c hc d hd => ?_⟩
    rw [List.mem_singleton] at hd
    rintro rfl
    rw [hd] at hc; exact hn hc
  · rw [List.mem_append, List.mem_singleton] at hq
    rcases hq with hq | rfl
    · exact h.lt q hq
    · exact hp
  · rw [st_app]
    by_cases h1 : 0 < l.length
    · rw [if_pos h1]; exact h.st0 h1
    · rw [if_neg h1, if_pos (by omega)]; exact h0 (by omega)
  · rw [List.length_append, List.length_singleton] at hi
    rw [st_app, st_app]
    by_cases h1 : i + 1 < l.length
    · rw [if_pos h1, if_pos (by omega)]; exact h.ch i h1
    · have e : i + 1 = l.length := by omega
      rw [if_neg h1, if_pos e, if_pos (by omega)]
      have := hc (by omega)
      rw [show l.length - 1 = i by omega] at this
      exact this
def unseen : List Bool → Nat
  | [] => 0
  | v :: l => (if v then 0 else 1) + unseen l
theorem unseen_set (l : List Bool) (q : Nat) (hq : q < l.length) (h : sAt l q = false) : unseen (l.set q true) + 1 = unseen l := by
  induction l generalizing q with
  | nil => simp at hq
  | cons y l ih =>
    cases q with
    | zero =>
      simp only [sAt, List.getElem?_cons_zero, Option.getD_some] at h
      simp [unseen, h]; omega
    | succ q =>
      have := ih q (by simpa using hq) (by simpa [sAt] using h)
      simp only [List.set_cons_succ, unseen]
      omega
theorem unseen_rep (n : Nat) : unseen (List.replicate n false) = n := by
  induction n with
  | zero => rfl
  | succ n ih => rw [List.replicate_succ, unseen, ih]; simp; omega
theorem sAt_set (l : List Bool) (q j : Nat) (hq : q < l.length) : sAt (l.set q true) j = if j = q then true else sAt l j := by
  unfold sAt
  by_cases h : j = q
  · subst h; rw [List.getElem?_set_self hq, if_pos rfl]; rfl
  · rw [List.getElem?_set_ne (by omega), if_neg h]
theorem sAt_rep (n j : Nat) : sAt (List.replicate n false) j = false := by
  unfold sAt
  by_cases h : j < n <;> simp [h]
/-- at the beginning of a round of tour.Greedy: p is the place to go to, l the way behind it. -/
structure Gw (a b x : Nat) (sn : List Bool) (l : List Nat) (p : Nat) : Prop where
  way : Way a b x l
  pl : p < a * b
  pn : sAt sn p = false
  p0 : l.length = 0 → p = x
  pc : 0 < l.length → p ∈ nb a b (st l (l.length - 1))
  sl : sn.length = a * b
  si : ∀ q, sAt sn q = true ↔ q ∈ l
  cn : l.length + unseen sn = a * b
theorem Gw.start {a b x : Nat} (hx : x < a * b) : Gw a b x (List.replicate (a * b) false) [] x :=
  ⟨⟨List.nodup_nil, by simp, by simp, by simp⟩, hx, sAt_rep _ _, fun _ => rfl, fun h => absurd h (by simp), by simp, fun q => by rw [sAt_rep]; simp, by rw [unseen_rep]; simp⟩
theorem Gw.go {a b x : Nat} {sn : List Bool} {l : List Nat} {p : Nat} (h : Gw a b x sn l p) : Way a b x (l ++ [p]) ∧ (l ++ [p]).length ≤ a * b ∧ ∀ q ∈ freeL a b (sn.set p true) p, Gw a b x (sn.set p true) (l ++ [p]) q := by
  have hpl : p < sn.length := by rw [h.sl]; exact h.pl
  have hnl : p ∉ l := fun hm => by have := (h.si p).2 hm; rw [h.pn] at this; cases this
  have hw := h.way.push h.pl hnl h.p0 h.pc
  have hu := unseen_set sn p hpl h.pn
  have hcn := h.cn
  refine ⟨hw, by simp; omega, fun q hq => ?_⟩
  unfold freeL at hq
  rw [List.mem_filter] at hq
  obtain ⟨h1, h2⟩ := hq
  refine ⟨hw, nb_lt 8 h1, by simpa using h2, fun h => by simp at h, fun _ => ?_, by rw [List.length_set]; exact h.sl, fun r => ?_, by simp; omega⟩
  · rw [List.length_append, List.length_singleton, Nat.add_sub_cancel, st_app, if_neg (by omega), if_pos rfl]; exact h1
  · rw [sAt_set _ _ _ hpl, List.mem_append, List.mem_singleton, ← h.si r]
    by_cases e : r = p
    · simp [e]
    · simp [e]
end Go.Proofs.YtebgliipeaelhaaDoor
