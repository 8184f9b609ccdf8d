import Derived.Test.YtcibkchfdiijfaaHxU
/- Hex, plain: who wins a board; a sign more is never a harm; no conditions. -/
namespace Go.Proofs.Ytcibkchfdiijfaa

/-- the empty places. -/
def opn (n : Nat) (s : List Nat) : Nat := (List.range (n * n)).countP fun i => st s i == 0
theorem st_set {s : List Nat} {k v j : Nat} (hk : k < s.length) : st (s.set k v) j = if j = k then v else st s j := by
  unfold st
  rw [List.getElem?_set]
  by_cases e : k = j
  · subst e; simp [hk]
  · rw [if_neg e, if_neg (fun h => e h.symm)]
theorem countP_flip {p q : Nat → Bool} {k : Nat} : ∀ N, k < N → p k = true → q k = false → (∀ i, i ≠ k → p i = q i) → (List.range N).countP p = (List.range N).countP q + 1
  | 0, h, _, _, _ => by omega
  | N + 1, h, h1, h2, h3 => by
    rw [List.range_succ, List.countP_append, List.countP_append]
    simp only [List.countP_cons, List.countP_nil]
    by_cases e : k = N
    · subst e
      have : (List.range k).countP p = (List.range k).countP q := List.countP_congr fun i hi => by rw [h3 i (by have := List.mem_range.1 hi; omega)]
      rw [this, h1, h2]; simp
    · have ih := countP_flip N (by omega) h1 h2 h3
      rw [ih, h3 N (fun h => e h.symm)]; omega
theorem opn_set {n k v : Nat} {s : List Nat} (hl : s.length = n * n) (hk : k < n * n) (h0 : st s k = 0) (hv : v ≠ 0) : opn n s = opn n (s.set k v) + 1 := by
  unfold opn
  refine countP_flip _ hk (by simp [h0]) ?_ fun i hi => ?_
  · rw [st_set (by omega), if_pos rfl]; simp [hv]
  · rw [st_set (by omega), if_neg hi]
/-- w wins board s, p being to move; e places are empty. -/
def Wn (n w : Nat) : Nat → List Nat → Nat → Prop
  | 0, s, _ => JW n w (fun a => st s a = w)
  | e + 1, s, p => JW n w (fun a => st s a = w) ∨ (¬ JW n (3 - w) (fun a => st s a = 3 - w) ∧ ((p = w ∧ ∃ k, k < n * n ∧ st s k = 0 ∧ Wn n w e (s.set k w) (3 - w)) ∨ (p = 3 - w ∧ ∀ k, k < n * n → st s k = 0 → Wn n w e (s.set k (3 - w)) w)))
structure Bd (n : Nat) (s : List Nat) : Prop where
  n1 : 1 ≤ n
  len : s.length = n * n
  le : ∀ j, st s j ≤ 2
theorem Bd.set {n k v : Nat} {s : List Nat} (h : Bd n s) (hk : k < n * n) (hv : v ≤ 2) : Bd n (s.set k v) :=
  ⟨h.n1, by rw [List.length_set]; exact h.len, fun j => by rw [st_set (by rw [h.len]; exact hk)]; split; exact hv; exact h.le j⟩
theorem jw_mono {n w : Nat} {A B : Nat → Prop} (h : ∀ a, A a → B a) (hA : JW n w A) : JW n w B := by
  unfold JW at *
  split at hA
  · rename_i e; rw [if_pos e]; exact hA.mono h
  · rename_i e; rw [if_neg e]; exact hA.mono h
theorem jw_not {n w : Nat} {s : List Nat} (h : Bd n s) (hw : w = 1 ∨ w = 2) (h1 : JW n w (fun a => st s a = w)) : ¬ JW n (3 - w) (fun a => st s a = 3 - w) := by
  have key : J1 (fun a => st s a = 1) n → ¬ J2 (fun a => st s a = 2) n := fun a b => (hex_one h.n1 _).1 a (b.mono fun x (hx : st s x = 2) => by show ¬ st s x = 1; omega)
  rcases hw with rfl | rfl
  · exact key h1
  · exact fun h2 => key h2 h1
theorem jw_full {n w : Nat} {s : List Nat} (h : Bd n s) (hw : w = 1 ∨ w = 2) (h0 : opn n s = 0) (h1 : ¬ JW n w (fun a => st s a = w)) : JW n (3 - w) (fun a => st s a = 3 - w) := by
  have hs : ∀ a, a < n * n → st s a = 1 ∨ st s a = 2 := fun a ha => by
    have := h.le a
    by_cases e : st s a = 0
    · have := List.countP_eq_zero.1 h0 a (List.mem_range.2 ha)
      simp [e] at this
    · omega
  have key : J1 (fun a => st s a = 1) n ∨ J2 (fun a => st s a = 2) n := by
    by_cases h1 : J1 (fun a => st s a = 1) n
    · exact .inl h1
    · by_cases h2 : J2 (fun a => st s a = 2) n
      · exact .inr h2
      · have := full_join h.n1 hs (j := 0) (.inr (.inr ⟨rfl, h1, h2⟩))
        omega
  rcases hw with rfl | rfl
  · exact key.resolve_left h1
  · exact key.resolve_right h1
/-- just one wins. -/
theorem wn_one {n w p : Nat} (hw : w = 1 ∨ w = 2) (hp : p = 1 ∨ p = 2) : ∀ e s, Bd n s → opn n s = e → (Wn n w e s p ↔ ¬ Wn n (3 - w) e s p) := by
  intro e
  induction e generalizing p with
  | zero =>
    intro s h he
    unfold Wn
    constructor
    · exact jw_not h hw
    · intro h1
      have hw' : (3 - w = 1 ∨ 3 - w = 2) := by omega
      have := jw_full h hw' he h1
      rwa [show 3 - (3 - w) = w by omega] at this
  | succ e ih =>
    intro s h he
    have h33 : 3 - (3 - w) = w := by omega
    have hw' : (3 - w = 1 ∨ 3 - w = 2) := by omega
    unfold Wn
    rw [h33]
    by_cases h1 : JW n w (fun a => st s a = w)
    · have := jw_not h hw h1
      constructor
      · rintro _ (h2 | ⟨h2, _⟩)
        · exact this h2
        · exact h2 h1
      · exact fun _ => .inl h1
    · by_cases h2 : JW n (3 - w) (fun a => st s a = 3 - w)
      · constructor
        · rintro (h3 | ⟨h3, _⟩)
          · exact absurd h3 h1
          · exact absurd h2 h3
        · intro h3; exact absurd (.inl h2) h3
      · have step : ∀ k v, v = 1 ∨ v = 2 → k < n * n → st s k = 0 → (Wn n w e (s.set k v) (3 - v) ↔ ¬ Wn n (3 - w) e (s.set k v) (3 - v)) := fun k v hv hk h0 =>
          ih (by omega) _ (h.set hk (by omega)) (by have := opn_set (v := v) h.len hk h0 (by omega); omega)
        by_cases hpw : p = w
        · subst hpw
          constructor
          · rintro (h3 | ⟨_, ⟨_, k, hk, h0, h4⟩ | ⟨h4, _⟩⟩)
            · exact absurd h3 h1
            · rintro (h5 | ⟨_, ⟨h5, _⟩ | ⟨_, h5⟩⟩)
              · exact h2 h5
              · omega
              · exact (step k p hw hk h0).1 h4 (h5 k hk h0)
            · omega
          · intro h3
            refine .inr ⟨h2, .inl ⟨rfl, ?_⟩⟩
            by_cases hex : ∃ k, k < n * n ∧ st s k = 0 ∧ Wn n p e (s.set k p) (3 - p)
            · exact hex
            · exfalso
              refine h3 (.inr ⟨h1, .inr ⟨rfl, fun k hk h0 => ?_⟩⟩)
              by_cases h4 : Wn n (3 - p) e (s.set k p) (3 - p)
              · exact h4
              · exact absurd ⟨k, hk, h0, (step k p hw hk h0).2 h4⟩ hex
        · have hpw' : p = 3 - w := by omega
          have hq : ∀ k, s.set k (3 - w) = s.set k p := fun k => by rw [hpw']
          constructor
          · rintro (h3 | ⟨_, ⟨h4, _⟩ | ⟨_, h4⟩⟩)
            · exact absurd h3 h1
            · exact absurd h4 hpw
            · rintro (h5 | ⟨_, ⟨_, k, hk, h0, h5⟩ | ⟨h5, _⟩⟩)
              · exact h2 h5
              · have := (step k (3 - w) hw' hk h0).1
                rw [h33] at this
                exact this (h4 k hk h0) h5
              · exact hpw h5
          · intro h3
            refine .inr ⟨h2, .inr ⟨hpw', fun k hk h0 => ?_⟩⟩
            have := (step k (3 - w) hw' hk h0).2
            rw [h33] at this
            refine this fun h5 => h3 (.inr ⟨h1, .inl ⟨hpw', k, hk, h0, h5⟩⟩)
/-- a sign more is never a harm. -/
theorem wn_more {n w : Nat} (hw : w = 1 ∨ w = 2) : ∀ e s p k, Bd n s → opn n s = e + 1 → (p = 1 ∨ p = 2) → k < n * n → st s k = 0 → Wn n w (e + 1) s p → Wn n w e (s.set k w) p := by
  intro e
  induction e with
  | zero =>
    intro s p k h he hp hk h0 hW
    have hB := h.set (v := w) hk (by omega)
    have ho : opn n (s.set k w) = 0 := by have := opn_set (v := w) h.len hk h0 (by omega); omega
    have mono : JW n w (fun a => st s a = w) → JW n w (fun a => st (s.set k w) a = w) := jw_mono fun a (ha : st s a = w) => by
      show st (s.set k w) a = w
      rw [st_set (by rw [h.len]; exact hk)]; split <;> simp_all
    unfold Wn
    by_cases h1 : JW n w (fun a => st (s.set k w) a = w)
    · exact h1
    · exfalso
      have h2 := jw_full hB hw ho h1
      have hop : JW n (3 - w) (fun a => st s a = 3 - w) := jw_mono (fun a (ha : st (s.set k w) a = 3 - w) => by
        show st s a = 3 - w
        rw [st_set (by rw [h.len]; exact hk)] at ha
        split at ha
        · omega
        · exact ha) h2
      unfold Wn at hW
      rcases hW with h3 | ⟨h3, _⟩
      · exact h1 (mono h3)
      · exact h3 hop
  | succ e ih =>
    intro s p k h he hp hk h0 hW
    have hkl : k < s.length := by rw [h.len]; exact hk
    have hB := h.set (v := w) hk (by omega)
    have ho : opn n (s.set k w) = e + 1 := by have := opn_set (v := w) h.len hk h0 (by omega); omega
    have mono : JW n w (fun a => st s a = w) → JW n w (fun a => st (s.set k w) a = w) := jw_mono fun a (ha : st s a = w) => by
      show st (s.set k w) a = w
      rw [st_set hkl]; split <;> simp_all
    have hop : JW n (3 - w) (fun a => st (s.set k w) a = 3 - w) → JW n (3 - w) (fun a => st s a = 3 - w) := jw_mono fun a (ha : st (s.set k w) a = 3 - w) => by
      show st s a = 3 - w
      rw [st_set hkl] at ha
      split at ha
      · omega
      · exact ha
    have comm : ∀ m v, m ≠ k → (s.set m v).set k w = (s.set k w).set m v := fun m v hm => List.set_comm _ _ hm
    have emp : ∀ m, m ≠ k → (st (s.set k w) m = 0 ↔ st s m = 0) := fun m hm => by rw [st_set hkl, if_neg hm]
    have next : ∀ m v, v = 1 ∨ v = 2 → m < n * n → m ≠ k → st s m = 0 → ∀ q, q = 1 ∨ q = 2 → Wn n w (e + 1) (s.set m v) q → Wn n w e ((s.set k w).set m v) q := fun m v hv hm hmk hm0 q hq hW => by
      have hb := h.set (v := v) hm (by omega)
      have hom := opn_set (v := v) h.len hm hm0 (by omega)
      have := ih (s.set m v) q k hb (by omega) hq hk (by rw [st_set (by rw [h.len]; exact hm), if_neg (fun h => hmk h.symm)]; exact h0) hW
      rwa [comm m v hmk] at this
    unfold Wn at hW
    show JW n w (fun a => st (s.set k w) a = w) ∨ _
    by_cases h1 : JW n w (fun a => st (s.set k w) a = w)
    · exact .inl h1
    · rcases hW with h3 | ⟨h3, h4⟩
      · exact absurd (mono h3) h1
      · refine .inr ⟨fun h5 => h3 (hop h5), ?_⟩
        rcases h4 with ⟨rfl, m, hm, hm0, h4⟩ | ⟨rfl, h4⟩
        · left
          refine ⟨rfl, ?_⟩
          by_cases hmk : m = k
          · subst hmk
            -- the sign was the winning move: another place serves as well
            have hex : ∃ m2, m2 < n * n ∧ st (s.set m p) m2 = 0 := by
              by_cases hex : ∃ m2, m2 < n * n ∧ st (s.set m p) m2 = 0
              · exact hex
              · exfalso
                have : opn n (s.set m p) = 0 := List.countP_eq_zero.2 fun i hi => by
                  have hi' := List.mem_range.1 hi
                  have : st (s.set m p) i ≠ 0 := fun e => hex ⟨i, hi', e⟩
                  simp [this]
                omega
            obtain ⟨m2, hm2, hm20⟩ := hex
            exact ⟨m2, hm2, hm20, ih (s.set m p) (3 - p) m2 hB ho (by omega) hm2 hm20 h4⟩
          · exact ⟨m, hm, (emp m hmk).2 hm0, next m p hw hm hmk hm0 (3 - p) (by omega) h4⟩
        · right
          refine ⟨rfl, fun m hm hm0 => ?_⟩
          have hmk : m ≠ k := fun e => by subst e; rw [st_set hkl, if_pos rfl] at hm0; omega
          exact next m (3 - w) (by omega) hm hmk ((emp m hmk).1 hm0) w hw (h4 m hm ((emp m hmk).1 hm0))
end Go.Proofs.Ytcibkchfdiijfaa
