import Derived.Test.YtcibkchfdiijfaaHxS
import Derived.Test.YtcibkchfdiijfaaHxO
/- What the shortest way tells of who has joined, and of a sign more; plain; no conditions. -/
namespace Go.Proofs.Ytcibkchfdiijfaa

theorem Rc.zero {n who : Nat} {s : List Nat} (h2 : ∀ j, st s j ≤ 2) (hw : who = 1 ∨ who = 2) {p c : Nat} (h : Rc n who s p c) : c = 0 → ∃ a, Pt (fun q => st s q = who) n a p ∧ alongS n who a = 0 := by
  have own : ∀ q, st s q ≠ 3 - who → costS s q = 0 → st s q = who := fun q hq hc => by
    have := h2 q
    unfold costS at hc
    omega
  induction h with
  | start h1 h3 h4 => exact fun hc => ⟨_, .refl (own _ h4 hc) h1, h3⟩
  | step k1 k2 k3 ih =>
    intro hc
    obtain ⟨a, ha, hb⟩ := ih (by omega)
    exact ⟨a, ha.step k2 (own _ k3 (by omega)), hb⟩
theorem Rc.of_pt {n who : Nat} {s : List Nat} {A : Nat → Prop} (hA : ∀ q, A q → st s q ≠ 3 - who) {a p : Nat} (h : Pt A n a p) (ha : alongS n who a = 0) : ∃ c, Rc n who s p c ∧ ((∀ q, A q → costS s q = 0) → c = 0) := by
  induction h with
  | refl h1 h2 => exact ⟨_, .start h2 ha (hA _ h1), fun h => h _ h1⟩
  | step h1 h2 h3 ih =>
    obtain ⟨c, hc, h0⟩ := ih
    exact ⟨_, hc.step h2 (hA _ h3), fun h => by rw [h0 h, h _ h3]⟩
theorem Rc.pt {n who : Nat} {s : List Nat} {p c : Nat} (h : Rc n who s p c) : ∃ a, Pt (fun q => st s q ≠ 3 - who) n a p ∧ alongS n who a = 0 := by
  induction h with
  | start h1 h3 h4 => exact ⟨_, .refl h4 h1, h3⟩
  | step k1 k2 k3 ih =>
    obtain ⟨a, ha, hb⟩ := ih
    exact ⟨a, ha.step k2 k3, hb⟩
theorem short_zero {n who : Nat} {s : List Nat} {r : Int} (h2 : ∀ j, st s j ≤ 2) (hw : who = 1 ∨ who = 2) (h : ShortI n who s r) : r = 0 ↔ JW n who (fun q => st s q = who) := by
  rw [jw_pt]
  constructor
  · rintro rfl
    rcases h with ⟨h, _⟩ | ⟨c, h, ⟨p, hp, hl⟩, _⟩
    · cases h
    · obtain ⟨a, ha, hb⟩ := hp.zero h2 hw (by omega)
      exact ⟨a, p, ha, hb, hl⟩
  · rintro ⟨a, b, hp, ha, hb⟩
    obtain ⟨c, hc, h0⟩ := Rc.of_pt (A := fun q => st s q = who) (who := who) (fun q hq => by have hq' : st s q = who := hq; rw [hq']; omega) hp ha
    have hc0 : c = 0 := h0 fun q (hq : st s q = who) => by unfold costS; omega
    subst hc0
    rcases h with ⟨_, h⟩ | ⟨c', h, _, hm⟩
    · exact absurd hb (h _ _ hc)
    · have := hm _ _ hc hb; omega
theorem short_none {n who : Nat} {s : List Nat} {r : Int} (h : ShortI n who s r) : r = -1 ↔ ¬ JW n who (fun q => st s q ≠ 3 - who) := by
  rw [jw_pt]
  constructor
  · rintro rfl ⟨a, b, hp, ha, hb⟩
    obtain ⟨c, hc, _⟩ := Rc.of_pt (fun q hq => hq) hp ha
    rcases h with ⟨_, h⟩ | ⟨c', h, _⟩
    · exact absurd hb (h _ _ hc)
    · omega
  · intro hno
    rcases h with ⟨h, _⟩ | ⟨c, h, ⟨p, hp, hl⟩, _⟩
    · exact h
    · obtain ⟨a, ha, hb⟩ := hp.pt
      exact absurd ⟨a, p, ha, hb, hl⟩ hno
theorem J1.mono {A B : Nat → Prop} {n : Nat} (h : ∀ a, A a → B a) : J1 A n → J1 B n := by
  rintro ⟨a, b, hp, h1, h2⟩; exact ⟨a, b, hp.mono h, h1, h2⟩
theorem J2.mono {A B : Nat → Prop} {n : Nat} (h : ∀ a, A a → B a) : J2 A n → J2 B n := by
  rintro ⟨a, b, hp, h1, h2⟩; exact ⟨a, b, hp.mono h, h1, h2⟩
theorem short_join {n w j : Nat} {s : List Nat} {r : Int} (hn : 1 ≤ n) (h2 : ∀ j, st s j ≤ 2) (hw : w = 1 ∨ w = 2) (h : ShortI n w s r) (hj : JoinI n s j) : (r = 0 ↔ j = w) ∧ (r = -1 ↔ j = 3 - w) := by
  have ex1 : J1 (fun a => st s a ≠ 2) n ↔ ¬ J2 (fun a => st s a = 2) n := by
    have := hex_one hn (fun a => st s a ≠ 2)
    simpa using this
  have ex2 : J1 (fun a => st s a = 1) n ↔ ¬ J2 (fun a => st s a ≠ 1) n := hex_one hn (fun a => st s a = 1)
  have m1 : J1 (fun a => st s a = 1) n → J1 (fun a => st s a ≠ 2) n := J1.mono fun a (h : st s a = 1) => by omega
  rw [short_zero h2 hw h, short_none h]
  unfold JoinI at hj
  rcases hw with rfl | rfl
  · show (J1 (fun q => st s q = 1) n ↔ _) ∧ (¬ J1 (fun q => st s q ≠ 2) n ↔ _)
    rw [ex1]
    constructor
    · constructor
      · intro h; rcases hj with ⟨h1, _⟩ | ⟨_, h1, _⟩ | ⟨_, h1, _⟩
        · exact h1
        · exact absurd h h1
        · exact absurd h h1
      · rintro rfl
        rcases hj with ⟨_, h⟩ | ⟨h, _⟩ | ⟨h, _⟩
        · exact h
        · cases h
        · cases h
    · rw [Classical.not_not]
      constructor
      · intro h
        rcases hj with ⟨_, h1⟩ | ⟨h1, _⟩ | ⟨_, _, h1⟩
        · exact absurd h (ex1.1 (m1 h1))
        · exact h1
        · exact absurd h h1
      · intro hj2
        rcases hj with ⟨h, _⟩ | ⟨_, _, h⟩ | ⟨h, _⟩
        · omega
        · exact h
        · omega
  · show (J2 (fun q => st s q = 2) n ↔ _) ∧ (¬ J2 (fun q => st s q ≠ 1) n ↔ _)
    rw [← ex2]
    constructor
    · constructor
      · intro h
        rcases hj with ⟨_, h1⟩ | ⟨h1, _⟩ | ⟨_, _, h1⟩
        · exact absurd h (ex1.1 (m1 h1))
        · exact h1
        · exact absurd h h1
      · intro hj2
        rcases hj with ⟨h, _⟩ | ⟨_, _, h⟩ | ⟨h, _⟩
        · omega
        · exact h
        · omega
    · constructor
      · intro h; rcases hj with ⟨h1, _⟩ | ⟨_, h1, _⟩ | ⟨_, h1, _⟩
        · exact h1
        · exact absurd h h1
        · exact absurd h h1
      · intro hj1
        rcases hj with ⟨_, h⟩ | ⟨h, _⟩ | ⟨h, _⟩
        · exact h
        · omega
        · omega
/-- a full board is joined by one. -/
theorem full_join {n j : Nat} {s : List Nat} (hn : 1 ≤ n) (hs : ∀ a, a < n * n → st s a = 1 ∨ st s a = 2) (hj : JoinI n s j) : j = 1 ∨ j = 2 := by
  rcases hj with ⟨h, _⟩ | ⟨h, _⟩ | ⟨_, h1, h2⟩
  · exact .inl h
  · exact .inr h
  · exfalso
    rw [hex_one hn] at h1
    refine h1 fun h3 => h2 ?_
    obtain ⟨a, b, hp, ha, hb⟩ := h3
    refine ⟨a, b, ?_, ha, hb⟩
    clear ha hb
    induction hp with
    | refl k1 k2 => exact .refl ((hs _ k2).resolve_left k1) k2
    | step k1 k2 k3 ih => exact ih.step k2 ((hs _ k2.2.1).resolve_left k3)
/-- a sign more. -/
theorem short_more {n w k : Nat} {s : List Nat} {r m : Int} (hk : st s k = 0) (hkl : k < s.length) (h : ShortI n w s r) (hr : 1 ≤ r) (h' : ShortI n w (s.set k w) m) (hw : w = 1 ∨ w = 2) : m = r ∨ m = r - 1 := by
  have hst : ∀ q, st (s.set k w) q = if q = k then w else st s q := fun q => by
    unfold st
    rw [List.getElem?_set]
    by_cases e : k = q
    · subst e; simp [hkl]
    · rw [if_neg e, if_neg (fun h => e h.symm)]
  have up : ∀ {p c : Nat}, Rc n w s p c → ∃ c', c' ≤ c ∧ Rc n w (s.set k w) p c' := by
    intro p c hc
    have ok : ∀ q, st s q ≠ 3 - w → st (s.set k w) q ≠ 3 - w := fun q h => by rw [hst]; split <;> omega
    have le : ∀ q, costS (s.set k w) q ≤ costS s q := fun q => by
      unfold costS; rw [hst]
      split
      · rename_i e; subst e; omega
      · exact Nat.le_refl _
    induction hc with
    | start h1 h2 h3 => exact ⟨_, le _, .start h1 h2 (ok _ h3)⟩
    | step h1 h2 h3 ih =>
      rename_i p q c
      obtain ⟨c', a, b⟩ := ih
      exact ⟨_, by have := le q; omega, b.step h2 (ok _ h3)⟩
  have dn : ∀ {p c : Nat}, Rc n w (s.set k w) p c → (∃ c', c' ≤ c ∧ Rc n w s p c') ∨ ((∃ c', c' ≤ c + 1 ∧ Rc n w s p c') ∧ ∃ e, e ≤ c + 1 ∧ Rc n w s k e) := by
    intro p c hc
    have ok : ∀ q, st (s.set k w) q ≠ 3 - w → st s q ≠ 3 - w := fun q h => by
      rw [hst] at h; split at h
      · rename_i e; subst e; omega
      · exact h
    have cq : ∀ q, q ≠ k → costS (s.set k w) q = costS s q := fun q h => by unfold costS; rw [hst, if_neg h]
    have ck : costS (s.set k w) k = 0 ∧ costS s k = 1 := by unfold costS; rw [hst, if_pos rfl, hk]; omega
    induction hc with
    | start h1 h2 h3 =>
      rename_i p
      by_cases e : p = k
      · subst e
        right
        have := Rc.start (s := s) h1 h2 (ok _ h3)
        exact ⟨⟨_, by omega, this⟩, _, by omega, this⟩
      · exact .inl ⟨_, by rw [cq _ e]; exact Nat.le_refl _, .start h1 h2 (ok _ h3)⟩
    | step h1 h2 h3 ih =>
      rename_i p q c
      by_cases e : q = k
      · subst e
        right
        rcases ih with ⟨c', a, b⟩ | ⟨_, e, a, b⟩
        · have := b.step h2 (ok _ h3)
          exact ⟨⟨_, by omega, this⟩, _, by omega, this⟩
        · exact ⟨⟨_, by omega, b⟩, _, by omega, b⟩
      · have hcq := cq q e
        rcases ih with ⟨c', a, b⟩ | ⟨⟨c', a, b⟩, f, d, g⟩
        · exact .inl ⟨_, by omega, b.step h2 (ok _ h3)⟩
        · exact .inr ⟨⟨_, by omega, b.step h2 (ok _ h3)⟩, f, by omega, g⟩
  rcases h with ⟨h, _⟩ | ⟨c, rfl, ⟨p, hp, hl⟩, hmin⟩
  · omega
  · obtain ⟨c', hc', hp'⟩ := up hp
    rcases h' with ⟨_, h'⟩ | ⟨d, rfl, ⟨q, hq, hl'⟩, hmin'⟩
    · exact absurd hl (h' _ _ hp')
    · have h1 := hmin' _ _ hp' hl
      rcases dn hq with ⟨e, he, h3⟩ | ⟨⟨e, he, h3⟩, _⟩
      · have := hmin _ _ h3 hl'; omega
      · have := hmin _ _ h3 hl'; omega
end Go.Proofs.Ytcibkchfdiijfaa
