/- The plain law of gameroomkeep.BridgeEnds: an auction as a fold over its calls, and the score of a contract; no program in sight, no conditions. -/
namespace Go.Proofs.Ytilgjmabfjhojaa

structure Au where
  bid : Int
  bidder : Nat
  doubled : Nat
  last : Nat
  passes : Nat
  first : List Int
  calls : Nat
def au0 : Au := ⟨-1, 0, 0, 0, 0, List.replicate 10 (-1), 0⟩
def Au.who (s : Au) : Nat := s.calls % 4
def Au.other (s : Au) : Bool := decide (0 ≤ s.bid) && decide ((s.who + s.last) % 2 = 1)
def Au.over (s : Au) : Bool := decide (s.passes = 4) || (decide (0 ≤ s.bid) && decide (s.passes = 3))
def Au.pass (s : Au) : Au := { s with passes := s.passes + 1, calls := s.calls + 1 }
def Au.dbl (s : Au) (d : Nat) : Au := { s with doubled := d, last := s.who, passes := 0, calls := s.calls + 1 }
def Au.slot (s : Au) (b : Int) : Nat := s.who % 2 * 5 + (b % 5).toNat
def Au.raise (s : Au) (b : Int) : Au :=
  { bid := b, bidder := s.who, doubled := 0, last := s.who, passes := 0, first := if s.first[s.slot b]?.getD 0 < 0 then s.first.set (s.slot b) s.who else s.first, calls := s.calls + 1 }
def Au.call (s : Au) (c : Int) : Option Au :=
  if c = 0 then some s.pass
  else if c = 1 then (if s.other = true ∧ s.doubled = 0 then some (s.dbl 1) else none)
  else if c = 2 then (if s.other = true ∧ s.doubled = 1 then some (s.dbl 2) else none)
  else if c - 3 ≤ s.bid then none else some (s.raise (c - 3))
def auStep (p : Nat × Au) (c : Int) : Nat × Au :=
  if p.1 ≠ 0 then p else if c < 0 ∨ 37 < c then (3, p.2) else if p.2.over = true then (9, p.2) else match p.2.call c with
    | none => (8, p.2)
    | some s => (0, s)
def auS (xs : List Int) : Nat × Au := xs.foldl auStep (0, au0)
theorem auS_snoc (xs : List Int) (c : Int) : auS (xs ++ [c]) = auStep (auS xs) c := by simp [auS]
theorem auS_nil : auS [] = (0, au0) := rfl
theorem foldl_stop (p : Nat × Au) (h : p.1 ≠ 0) (xs : List Int) : xs.foldl auStep p = p := by
  induction xs with
  | nil => rfl
  | cons c xs ih => rw [List.foldl_cons, show auStep p c = p from if_pos h, ih]
theorem auS_stop (xs : List Int) (j : Nat) (p : Nat × Au) (h : auS (xs.take j) = p) (hp : p.1 ≠ 0) : auS xs = p := by
  rw [← List.take_append_drop j xs, auS, List.foldl_append, ← auS, h, foldl_stop p hp]
def decl (s : Au) : Int := s.first[s.bidder % 2 * 5 + (s.bid % 5).toNat]?.getD 0
/-- level, strain, doubled, declarer, and what is wrong. -/
def fin (p : Nat × Au) : (Int × Int × Nat × Int) × Nat :=
  if p.1 ≠ 0 then ((0, 0, 0, 0), p.1) else if p.2.over = false then ((0, 0, 0, 0), 13) else if p.2.bid < 0 then ((0, 0, 0, 0), 10)
  else ((p.2.bid / 5 + 1, p.2.bid % 5, p.2.doubled, decl p.2), 0)

structure AuInv (s : Au) : Prop where
  b1 : -1 ≤ s.bid
  b2 : s.bid ≤ 34
  d : s.doubled ≤ 2
  bd : s.bidder ≤ 3
  l : s.last ≤ 3
  p : s.passes ≤ 4
  f : s.first.length = 10
  fr : ∀ j, j < 10 → -1 ≤ s.first[j]?.getD 0 ∧ s.first[j]?.getD 0 ≤ 3
  dc : 0 ≤ s.bid → 0 ≤ decl s
  n : (s.calls : Int) ≤ 4 * (3 * (s.bid + 1) + s.doubled) + s.passes

theorem au0_inv : AuInv au0 := by
  refine ⟨by decide, by decide, by decide, by decide, by decide, by decide, by decide, ?_, fun h => absurd h (by decide), by decide⟩
  intro j hj
  have : ∀ j, j < 10 → au0.first[j]?.getD 0 = -1 := by decide
  rw [this j hj]; decide
theorem Au.who_lt (s : Au) : s.who < 4 := Nat.mod_lt _ (by decide)
theorem Au.slot_lt (s : Au) (b : Int) : s.slot b < 10 := by
  unfold Au.slot
  have := Int.emod_lt_of_pos b (show (0 : Int) < 5 by decide)
  have := Int.emod_nonneg b (show (5 : Int) ≠ 0 by decide)
  omega
theorem call_inv {s t : Au} {c : Int} (h : AuInv s) (ho : s.over = false) (hc : c ≤ 37) (hc0 : 0 ≤ c) (e : s.call c = some t) : AuInv t := by
  have hw := s.who_lt
  have hp3 : s.passes ≤ 3 := by
    have := h.p
    unfold Au.over at ho
    simp at ho
    omega
  unfold Au.call at e
  split at e
  · cases e
    exact ⟨h.b1, h.b2, h.d, h.bd, h.l, by show s.passes + 1 ≤ 4; omega, h.f, h.fr, h.dc, by have := h.n; show ((s.calls + 1 : Nat) : Int) ≤ 4 * (3 * (s.bid + 1) + s.doubled) + ((s.passes + 1 : Nat) : Int); omega⟩
  · split at e
    · split at e
      · rename_i h1
        cases e
        exact ⟨h.b1, h.b2, by show 1 ≤ 2; decide, h.bd, by show s.who ≤ 3; omega, by show 0 ≤ 4; decide, h.f, h.fr, h.dc, by have := h.n; have := h1.2; show ((s.calls + 1 : Nat) : Int) ≤ 4 * (3 * (s.bid + 1) + ((1 : Nat) : Int)) + ((0 : Nat) : Int); omega⟩
      · cases e
    · split at e
      · split at e
        · rename_i h1
          cases e
          exact ⟨h.b1, h.b2, by show 2 ≤ 2; decide, h.bd, by show s.who ≤ 3; omega, by show 0 ≤ 4; decide, h.f, h.fr, h.dc, by have := h.n; have := h1.2; show ((s.calls + 1 : Nat) : Int) ≤ 4 * (3 * (s.bid + 1) + ((2 : Nat) : Int)) + ((0 : Nat) : Int); omega⟩
        · cases e
      · split at e
        · cases e
        · rename_i hb
          cases e
          have hsl := s.slot_lt (c - 3)
          have hlen : (s.raise (c - 3)).first.length = 10 := by
            unfold Au.raise
            simp only
            split
            · rw [List.length_set]; exact h.f
            · exact h.f
          have hget : ∀ j, j < 10 → (s.raise (c - 3)).first[j]?.getD 0 = s.first[j]?.getD 0 ∨ (s.raise (c - 3)).first[j]?.getD 0 = (s.who : Int) := by
            intro j hj
            unfold Au.raise
            simp only
            split
            · by_cases e : s.slot (c - 3) = j
              · right; subst e; simp [h.f, hj]
              · left; rw [List.getElem?_set_ne e]
            · left; rfl
          refine ⟨by have := h.b1; show -1 ≤ c - 3; omega, by show c - 3 ≤ 34; omega, by show 0 ≤ 2; decide, by show s.who ≤ 3; omega, by show s.who ≤ 3; omega, by show 0 ≤ 4; decide, hlen, ?_, ?_, ?_⟩
          · intro j hj
            rcases hget j hj with e | e
            · rw [e]; exact h.fr j hj
            · rw [e]; omega
          · intro _
            have e : decl (s.raise (c - 3)) = (s.raise (c - 3)).first[s.slot (c - 3)]?.getD 0 := rfl
            rw [e]
            unfold Au.raise
            simp only
            split
            · rw [List.getElem?_set_self (by rw [h.f]; exact hsl)]; simp
            · omega
          · have := h.n; have := h.b1; have := h.d
            show ((s.calls + 1 : Nat) : Int) ≤ 4 * (3 * ((c - 3) + 1) + ((0 : Nat) : Int)) + ((0 : Nat) : Int)
            omega
theorem step_inv {s t : Au} {c : Int} (h : AuInv s) (e : auStep (0, s) c = (0, t)) : AuInv t := by
  unfold auStep at e
  simp only [ne_eq, not_true_eq_false, if_false] at e
  split at e
  · cases e
  · split at e
    · cases e
    · rename_i h1 h2
      split at e
      · cases e
      · rename_i s2 h3
        cases e
        exact call_inv h (by simpa using h2) (by omega) (by omega) h3
theorem auS_inv (xs : List Int) : AuInv (auS xs).2 := by
  suffices h : ∀ (xs : List Int) (p : Nat × Au), AuInv p.2 → AuInv (xs.foldl auStep p).2 from h xs _ au0_inv
  intro xs
  induction xs with
  | nil => exact fun p h => h
  | cons c xs ih =>
    intro p h
    refine ih _ ?_
    obtain ⟨e, s⟩ := p
    by_cases he : e = 0
    · subst he
      rcases hst : auStep (0, s) c with ⟨e2, t⟩
      by_cases he2 : e2 = 0
      · subst he2; exact step_inv h hst
      · have : t = s := by
          unfold auStep at hst
          simp only [ne_eq, not_true_eq_false, if_false] at hst
          split at hst
          · cases hst; rfl
          · split at hst
            · cases hst; rfl
            · split at hst
              · cases hst; rfl
              · cases hst; exact absurd rfl he2
        rw [this]; exact h
    · rw [show auStep (e, s) c = (e, s) from if_pos he]; exact h

theorem fin_over (xs : List Int) (h : (fin (auS xs)).2 = 0) : fin (auS (xs ++ [0])) = ((0, 0, 0, 0), 9) ∧ (auS xs).1 = 0 ∧ 0 ≤ (auS xs).2.bid ∧ (auS xs).2.over = true := by
  rw [auS_snoc]
  rcases hs : auS xs with ⟨e, s⟩
  rw [hs] at h
  unfold fin at h
  split at h
  · rename_i h1; exact absurd h h1
  · split at h
    · exact absurd h (by decide)
    · split at h
      · exact absurd h (by decide)
      · rename_i h1 h2 h3
        have e0 : e = 0 := by simpa using h1
        subst e0
        have ho : s.over = true := by simpa using h2
        refine ⟨?_, rfl, by simp at h3; exact h3, ho⟩
        simp [auStep, ho, fin]
/-- such a contract's bounds. -/
structure Fit (c : Int × Int × Nat × Int) : Prop where
  l1 : 1 ≤ c.1
  l2 : c.1 ≤ 7
  s1 : 0 ≤ c.2.1
  s2 : c.2.1 ≤ 4
  d : c.2.2.1 ≤ 2
  p1 : 0 ≤ c.2.2.2
  p2 : c.2.2.2 ≤ 3
theorem fin_fit (xs : List Int) (h : (fin (auS xs)).2 = 0) : Fit (fin (auS xs)).1 ∧ xs.length ≤ 1000000 := by
  obtain ⟨_, h1, h2, h3⟩ := fin_over xs h
  have hi := auS_inv xs
  have hl : ((auS xs).2.calls : Int) = xs.length := by
    suffices H : ∀ (xs : List Int) (p : Nat × Au), (xs.foldl auStep p).1 = 0 → (xs.foldl auStep p).2.calls = p.2.calls + xs.length from by
      have := H xs (0, au0) h1
      rw [show (auS xs).2.calls = _ from this]; simp [au0]
    intro xs
    induction xs with
    | nil => intro p _; rfl
    | cons c xs ih =>
      intro p hp
      rw [List.foldl_cons] at hp ⊢
      rw [ih _ hp]
      obtain ⟨e, s⟩ := p
      by_cases he : e = 0
      · subst he
        rcases hst : auStep (0, s) c with ⟨e2, t⟩
        by_cases he2 : e2 = 0
        · subst he2
          have : t.calls = s.calls + 1 := by
            unfold auStep at hst
            simp only [ne_eq, not_true_eq_false, if_false] at hst
            split at hst
            · cases hst
            · split at hst
              · cases hst
              · split at hst
                · cases hst
                · rename_i hc
                  cases hst
                  unfold Au.call at hc
                  split at hc
                  · cases hc; rfl
                  · split at hc
                    · split at hc
                      · cases hc; rfl
                      · cases hc
                    · split at hc
                      · split at hc
                        · cases hc; rfl
                        · cases hc
                      · split at hc
                        · cases hc
                        · cases hc; rfl
          simp only [List.length_cons]
          omega
        · rw [hst] at hp
          rw [foldl_stop (e2, t) he2] at hp
          exact absurd hp he2
      · rw [show auStep (e, s) c = (e, s) from if_pos he, foldl_stop (e, s) he] at hp
        exact absurd hp he
  have hn := hi.n
  have hb2 := hi.b2
  have hd := hi.d
  have hp := hi.p
  have hdc := hi.dc h2
  have hsl : (auS xs).2.bidder % 2 * 5 + ((auS xs).2.bid % 5).toNat < 10 := by omega
  have hfr := (hi.fr _ hsl).2
  have ef : fin (auS xs) = (((auS xs).2.bid / 5 + 1, (auS xs).2.bid % 5, (auS xs).2.doubled, decl (auS xs).2), 0) := by
    unfold fin
    rw [if_neg (by simp [h1]), if_neg (by simp [h3]), if_neg (by omega)]
  refine ⟨?_, by omega⟩
  rw [ef]
  exact ⟨by show 1 ≤ (auS xs).2.bid / 5 + 1; omega, by show (auS xs).2.bid / 5 + 1 ≤ 7; omega, by show 0 ≤ (auS xs).2.bid % 5; omega, by show (auS xs).2.bid % 5 ≤ 4; omega, hd, hdc, hfr⟩

def failS (few doubled : Nat) (v : Bool) : Int :=
  if doubled = 0 then few * (if v then 100 else 50)
  else ((List.range few).foldl (fun (n : Int) i => n + (if i = 0 then (if v then 200 else 100) else if i < 3 then (if v then 300 else 200) else 300)) 0) * doubled
def madeS (level strain doubled : Nat) (v : Bool) (more : Nat) : Int :=
  let each : Int := if strain < 2 then 20 else 30
  let n : Int := (level * each + (if strain = 4 then 10 else 0)) * (2 ^ doubled : Nat)
  let n := n + (if 100 ≤ n then (if v then 500 else 300) else 50)
  let n := if level = 6 then n + (if v then 750 else 500) else if level = 7 then n + (if v then 1500 else 1000) else n
  let n := n + 50 * doubled
  let each : Int := if 0 < doubled then (if v then 200 else 100) * doubled else each
  n + more * each
def scoreS (level strain doubled : Nat) (v : Bool) (tricks : Nat) : Int :=
  if tricks < level + 6 then -(failS (level + 6 - tricks) doubled v) else madeS level strain doubled v (tricks - level - 6)
def scoresUp : Bool := (List.range 8).all fun l => (List.range 5).all fun s => (List.range 3).all fun d => [true, false].all fun v => (List.range 13).all fun n => decide (l = 0) || decide (scoreS l s d v n < scoreS l s d v (n + 1))
theorem scoresUp_true : scoresUp = true := by decide +kernel
theorem score_up (l s d : Nat) (v : Bool) (n : Nat) (h1 : 1 ≤ l) (h2 : l ≤ 7) (h3 : s ≤ 4) (h4 : d ≤ 2) (h5 : n < 13) : scoreS l s d v n < scoreS l s d v (n + 1) := by
  have h := scoresUp_true
  unfold scoresUp at h
  simp only [List.all_eq_true, List.mem_range] at h
  have := h l (by omega) s (by omega) d (by omega) v (by cases v <;> simp) n h5
  simp only [Bool.or_eq_true, decide_eq_true_eq] at this
  omega
end Go.Proofs.Ytilgjmabfjhojaa
