/- Plain laws of a stone that is put: what it takes, and that each group has liberties then; no program's step in sight. -/
import Derived.Test.YtefjliblaeadfaaGrp
namespace Go.Proofs.Ytefjliblaeadfaa

def clearL (s l : List Nat) : List Nat := l.foldl (fun s t => s.set t 0) s
theorem clearL_len (l : List Nat) : ∀ s, (clearL s l).length = s.length := by
  induction l with
  | nil => intro s; rfl
  | cons t l ih => intro s; show (clearL (s.set t 0) l).length = _; rw [ih, List.length_set]
theorem clearL_snoc (s l : List Nat) (t : Nat) : clearL s (l ++ [t]) = (clearL s l).set t 0 := by unfold clearL; rw [List.foldl_append]; rfl
theorem clearL_at (l : List Nat) : ∀ (s : List Nat) (k : Nat), (∀ t ∈ l, t < s.length) → st (clearL s l) k = if k ∈ l then 0 else st s k := by
  induction l with
  | nil => intro s k _; simp [clearL]
  | cons t l ih =>
    intro s k h
    show st (clearL (s.set t 0) l) k = _
    rw [ih _ _ (fun x hx => by rw [List.length_set]; exact h x (by simp [hx])), st_set _ _ _ _ (h t (by simp))]
    by_cases h1 : k ∈ l
    · simp [h1]
    · by_cases h2 : k = t <;> simp [h1, h2]
theorem st_ext {s t : List Nat} (hl : s.length = t.length) (h : ∀ k, k < s.length → st s k = st t k) : s = t := by
  apply List.ext_getElem hl
  intro k h1 h2
  have := h k h1
  unfold st at this
  rw [List.getElem?_eq_getElem h1, List.getElem?_eq_getElem h2] at this
  exact this
theorem clearL_perm {s l m : List Nat} (h : l.Perm m) (hl : ∀ t ∈ l, t < s.length) : clearL s l = clearL s m := by
  refine st_ext (by rw [clearL_len, clearL_len]) fun k _ => ?_
  rw [clearL_at _ _ _ hl, clearL_at _ _ _ (fun t ht => hl t (h.mem_iff.2 ht))]
  simp only [h.mem_iff]
theorem clearL_le (s l : List Nat) (hl : ∀ t ∈ l, t < s.length) (hs : ∀ j, st s j ≤ 2) : ∀ j, st (clearL s l) j ≤ 2 := fun j => by
  rw [clearL_at _ _ _ hl]; split
  · omega
  · exact hs j
/-- one place of the board looked at: is there a group of o without liberties? -/
def stepP (a o : Nat) (z : List Nat × Nat) (p : Nat) : List Nat × Nat :=
  if st z.1 p = o then (if (grpS z.1 a p).2 = [] then (clearL z.1 (grpS z.1 a p).1, z.2 + (grpS z.1 a p).1.length) else z) else z
def putN (a o : Nat) (s : List Nat) (k : Nat) : List Nat × Nat := (List.range k).foldl (stepP a o) (s, 0)
theorem putN_succ (a o : Nat) (s : List Nat) (k : Nat) : putN a o s (k + 1) = stepP a o (putN a o s k) k := by simp [putN, List.range_succ]
/-- a stone put: the cells, how many were taken, and what is wrong. -/
def putS (s : List Nat) (a who at_ : Nat) : List Nat × Nat × Nat :=
  if st s at_ ≠ 0 then ([], 0, 6) else if (grpS (putN a (3 - who) (s.set at_ who) s.length).1 a at_).2 = [] then ([], 0, 8) else ((putN a (3 - who) (s.set at_ who) s.length).1, (putN a (3 - who) (s.set at_ who) s.length).2, 0)

section
variable {a b : Nat}
theorem grp_lt {s : List Nat} {p : Nat} (hab : s.length = a * b) (hp : p < s.length) : ∀ t ∈ (grpS s a p).1, t < s.length := fun t ht => (spread_ok (so := fun v => v == st s p) hab hp).lt t (.inl ht)
/-- what holds while stones are taken. -/
structure PutI (a b o : Nat) (s : List Nat) (k : Nat) (z : List Nat × Nat) : Prop where
  len : z.1.length = a * b
  old : ∀ q, st z.1 q = st s q ∨ (st s q = o ∧ st z.1 q = 0)
  cnt : z.2 + (z.1.countP (· != 0)) = s.countP (· != 0)
theorem countP_set {s : List Nat} {t : Nat} (ht : t < s.length) (h : st s t ≠ 0) : (s.set t 0).countP (· != 0) + 1 = s.countP (· != 0) := by
  have e : s[t] = st s t := by unfold st; rw [List.getElem?_eq_getElem ht]; rfl
  have h2 := List.countP_set (p := (· != 0)) (a := 0) ht
  have hpos : 0 < s.countP (· != 0) := List.countP_pos_iff.2 ⟨s[t], List.getElem_mem ht, by rw [e]; simpa using h⟩
  rw [e] at h2
  have h3 : ((st s t != 0) = true) := by simpa using h
  rw [if_pos h3] at h2
  simp at h2
  omega
theorem countP_clear (l : List Nat) : ∀ (s : List Nat), l.Nodup → (∀ t ∈ l, t < s.length) → (∀ t ∈ l, st s t ≠ 0) → (clearL s l).countP (· != 0) + l.length = s.countP (· != 0) := by
  induction l with
  | nil => intro s _ _ _; rfl
  | cons t l ih =>
    intro s hn hl h0
    have hn' := List.nodup_cons.1 hn
    show (clearL (s.set t 0) l).countP _ + _ = _
    have h1 := ih (s.set t 0) hn'.2 (fun x hx => by rw [List.length_set]; exact hl x (by simp [hx])) (fun x hx => by
      rw [st_set _ _ _ _ (hl t (by simp)), if_neg (by intro e; rw [e] at hx; exact hn'.1 hx)]; exact h0 x (by simp [hx]))
    have h2 := countP_set (hl t (by simp)) (h0 t (by simp))
    simp only [List.length_cons]; omega
theorem grp_col {s : List Nat} {p t : Nat} (hab : s.length = a * b) (hp : p < s.length) (ht : t ∈ (grpS s a p).1) : st s t = st s p := by
  rcases (spread_ok (so := fun v => v == st s p) hab hp).so1 t ht with e | e
  · rw [e]
  · simpa using e
theorem PutI.step {o k : Nat} {s : List Nat} {z : List Nat × Nat} (ho : o ≠ 0) (h : PutI a b o s k z) (hk : k < a * b) : PutI a b o s (k + 1) (stepP a o z k) := by
  unfold stepP
  by_cases h1 : st z.1 k = o
  · rw [if_pos h1]
    by_cases h2 : (grpS z.1 a k).2 = []
    · rw [if_pos h2]
      have hkl : k < z.1.length := by rw [h.len]; exact hk
      have hlt := grp_lt h.len hkl
      have hsp := spread_ok (so := fun v => v == st z.1 k) h.len hkl
      refine ⟨by rw [clearL_len]; exact h.len, fun q => ?_, ?_⟩
      · rw [clearL_at _ _ _ hlt]
        by_cases hq : q ∈ (grpS z.1 a k).1
        · rw [if_pos hq]
          have hc := grp_col h.len hkl hq
          rw [h1] at hc
          rcases h.old q with e | ⟨_, e⟩
          · right; exact ⟨by rw [← e]; exact hc, rfl⟩
          · rw [hc] at e; exact absurd e ho
        · rw [if_neg hq]; exact h.old q
      · have hnd : (grpS z.1 a k).1.Nodup := (List.nodup_append.1 hsp.nd).1
        have := countP_clear _ z.1 hnd hlt (fun t ht => by rw [grp_col h.len hkl ht, h1]; exact ho)
        have := h.cnt
        simp only
        omega
    · rw [if_neg h2]; exact ⟨h.len, h.old, h.cnt⟩
  · rw [if_neg h1]; exact ⟨h.len, h.old, h.cnt⟩
theorem putN_I {o : Nat} {s : List Nat} (ho : o ≠ 0) (hs : s.length = a * b) : ∀ k, k ≤ a * b → PutI a b o s k (putN a o s k) := by
  intro k
  induction k with
  | zero => exact fun _ => ⟨hs, fun _ => .inl rfl, by simp [putN]⟩
  | succ k ih => intro hk; rw [putN_succ]; exact (ih (by omega)).step ho (by omega)
theorem putN_le {o : Nat} {s : List Nat} (ho : o ≠ 0) (hs : s.length = a * b) (h2 : ∀ j, st s j ≤ 2) (k : Nat) (hk : k ≤ a * b) : ∀ j, st (putN a o s k).1 j ≤ 2 := fun j => by
  rcases (putN_I ho hs k hk).old j with e | ⟨_, e⟩
  · rw [e]; exact h2 j
  · rw [e]; omega

/-- from a place to another by stones of one colour. -/
inductive Conn (s : List Nat) (a c : Nat) (p : Nat) : Nat → Prop where
  | refl : Conn s a c p p
  | step {q t : Nat} : Conn s a c p q → t ∈ nearL a s.length q → st s t = c → Conn s a c p t
/-- a place's group has a liberty. -/
def Lib1 (s : List Nat) (a p : Nat) : Prop := ∃ q, Conn s a (st s p) p q ∧ ∃ t ∈ nearL a s.length q, st s t = 0
theorem Conn.lt {s : List Nat} {c p q : Nat} (hab : s.length = a * b) (hp : p < s.length) (h : Conn s a c p q) : q < s.length := by
  induction h with
  | refl => exact hp
  | step _ ht _ ih => rw [hab] at ht ih ⊢; exact near_lt ih ht
theorem Conn.col {s : List Nat} {c p q : Nat} (hp : st s p = c) (h : Conn s a c p q) : st s q = c := by
  cases h with
  | refl => exact hp
  | step _ _ h => exact h
theorem Conn.trans {s : List Nat} {c p q r : Nat} (h1 : Conn s a c p q) (h2 : Conn s a c q r) : Conn s a c p r := by
  induction h2 with
  | refl => exact h1
  | step _ h3 h4 ih => exact ih.step h3 h4
theorem Conn.symm {s : List Nat} {c p q : Nat} (hab : s.length = a * b) (hp : p < s.length) (hc : st s p = c) (h : Conn s a c p q) : Conn s a c q p := by
  induction h with
  | refl => exact .refl
  | step h1 h2 h3 ih =>
    have hq := h1.lt hab hp
    have h4 := near_sym (by rw [← hab]; exact hq) (by rw [← hab]; exact h2)
    exact (Conn.step .refl (by rw [hab]; exact h4) (h1.col hc)).trans ih
/-- the group that is told is all that is connected. -/
theorem grp_conn {s : List Nat} {p q : Nat} (hab : s.length = a * b) (hp : p < s.length) : q ∈ (grpS s a p).1 ↔ Conn s a (st s p) p q := by
  have S := spread_ok (so := fun v => v == st s p) hab hp
  constructor
  · exact S.con (fun q => Conn s a (st s p) p q) .refl (fun x hx _ t ht hs => hx.step ht (by simpa using hs)) q
  · intro h
    induction h with
    | refl => exact S.f0
    | step _ h2 h3 ih =>
      rcases S.cl _ ih _ h2 with h | h
      · exact h
      · have := S.so2 _ h; simp [h3] at this
theorem lib_iff {s : List Nat} {p : Nat} (hab : s.length = a * b) (hp : p < s.length) (h0 : st s p ≠ 0) : (grpS s a p).2 ≠ [] ↔ Lib1 s a p := by
  have S := spread_ok (so := fun v => v == st s p) hab hp
  constructor
  · intro h
    obtain ⟨t, ht⟩ := List.exists_mem_of_ne_nil _ h
    have ht := List.mem_filter.1 ht
    obtain ⟨q, hq, hn⟩ := S.bn t ht.1
    exact ⟨q, (grp_conn hab hp).1 hq, t, hn, by simpa using ht.2⟩
  · rintro ⟨q, hq, t, ht, h1⟩ he
    have hq2 := (grp_conn hab hp).2 hq
    have : t ∈ (grpS s a p).2 := by
      rcases S.cl q hq2 t ht with h | h
      · exact absurd ((grp_col hab hp h).symm.trans h1) h0
      · exact List.mem_filter.2 ⟨h, by simpa using h1⟩
    rw [he] at this; simp at this
/-- stones of o that were looked at and stand have liberties. -/
theorem putN_lib {o : Nat} {s : List Nat} (ho : o ≠ 0) (hs : s.length = a * b) : ∀ k, k ≤ a * b → ∀ p, p < k → st (putN a o s k).1 p = o → Lib1 (putN a o s k).1 a p := by
  intro k
  induction k with
  | zero => intro _ p hp; omega
  | succ k ih =>
    intro hk p hp hpo
    have I := putN_I ho hs k (by omega)
    rw [putN_succ] at hpo ⊢
    generalize putN a o s k = z at *
    unfold stepP at hpo ⊢
    have hkl : k < z.1.length := by rw [I.len]; omega
    by_cases h1 : st z.1 k = o
    · rw [if_pos h1] at hpo ⊢
      by_cases h2 : (grpS z.1 a k).2 = []
      · rw [if_pos h2] at hpo ⊢
        have hlt := grp_lt I.len hkl
        simp only at hpo ⊢
        rw [clearL_at _ _ _ hlt] at hpo
        by_cases hpg : p ∈ (grpS z.1 a k).1
        · rw [if_pos hpg] at hpo; exact absurd hpo.symm ho
        · rw [if_neg hpg] at hpo
          have hpk : p < k := by
            rcases Nat.lt_or_ge p k with h | h
            · exact h
            · have : p = k := by omega
              subst this
              exact absurd ((grp_conn I.len hkl).2 .refl) hpg
          obtain ⟨q, hq, t, ht, ht0⟩ := ih (by omega) p hpk hpo
          have hst : ∀ x, st (clearL z.1 (grpS z.1 a k).1) x = if x ∈ (grpS z.1 a k).1 then 0 else st z.1 x := fun x => clearL_at _ _ _ hlt
          have key : ∀ x, Conn z.1 a (st z.1 p) p x → x ∉ (grpS z.1 a k).1 ∧ Conn (clearL z.1 (grpS z.1 a k).1) a (st z.1 p) p x := by
            intro x hx
            induction hx with
            | refl => exact ⟨hpg, .refl⟩
            | step hy1 hy2 hy3 ihx =>
              rename_i y x'
              have hyl := hy1.lt I.len (by rw [I.len]; omega)
              have hx'n : x' ∉ (grpS z.1 a k).1 := by
                intro hm
                have c1 := (grp_conn I.len hkl).1 hm
                have hys := hy1.col rfl
                have hn := near_sym (by rw [← I.len]; exact hyl) (by rw [← I.len]; exact hy2)
                have c2 := c1.step (by rw [I.len]; exact hn) (by rw [hys, hpo, h1])
                exact ihx.1 ((grp_conn I.len hkl).2 c2)
              refine ⟨hx'n, ihx.2.step (by rw [clearL_len]; exact hy2) ?_⟩
              rw [hst, if_neg hx'n]; exact hy3
          have hk2 := key q hq
          refine ⟨q, ?_, t, by rw [clearL_len]; exact ht, ?_⟩
          · rw [hst, if_neg hpg]; exact hk2.2
          · rw [hst]; split
            · rfl
            · exact ht0
      · rw [if_neg h2] at hpo ⊢
        by_cases hpk : p < k
        · exact ih (by omega) p hpk hpo
        · have : p = k := by omega
          subst this
          exact (lib_iff I.len hkl (by rw [h1]; exact ho)).1 h2
    · rw [if_neg h1] at hpo ⊢
      have hpk : p < k := by
        rcases Nat.lt_or_ge p k with h | h
        · exact h
        · have : p = k := by omega
          subst this; exact absurd hpo h1
      exact ih (by omega) p hpk hpo
/-- each group has liberties. -/
def Free (s : List Nat) (a : Nat) : Prop := ∀ p, p < s.length → st s p ≠ 0 → Lib1 s a p
/-- where each group had liberties each has, behind a stone that was put. -/
theorem put_free {s : List Nat} {who at_ : Nat} (hs : s.length = a * b) (hat : at_ < s.length) (hw : who = 1 ∨ who = 2) (h2 : ∀ j, st s j ≤ 2) (hf : Free s a) (h : (putS s a who at_).2.2 = 0) :
    Free (putS s a who at_).1 a ∧ (putS s a who at_).1.length = a * b ∧ (∀ j, st (putS s a who at_).1 j ≤ 2) ∧ (putS s a who at_).2.1 + ((putS s a who at_).1.countP (· != 0)) = s.countP (· != 0) + 1 := by
  unfold putS at *
  by_cases h0 : st s at_ ≠ 0
  · rw [if_pos h0] at h; simp at h
  · rw [if_neg h0] at h ⊢
    have h0 : st s at_ = 0 := by simpa using h0
    have ho : 3 - who ≠ 0 := by omega
    have hs1 : (s.set at_ who).length = a * b := by rw [List.length_set]; exact hs
    have I := putN_I ho hs1 (a * b) (Nat.le_refl _)
    have L := putN_lib ho hs1 (a * b) (Nat.le_refl _)
    rw [hs] at h ⊢
    have h3 : ∀ j, st (s.set at_ who) j ≤ 2 := fun j => by rw [st_set _ _ _ _ hat]; split; omega; exact h2 j
    have hle := putN_le ho hs1 h3 (a * b) (Nat.le_refl _)
    generalize putN a (3 - who) (s.set at_ who) (a * b) = z at *
    by_cases h4 : (grpS z.1 a at_).2 = []
    · rw [if_pos h4] at h; simp at h
    · rw [if_neg h4] at h ⊢
      have hatz : at_ < z.1.length := by rw [I.len, ← hs]; exact hat
      have hsat : st (s.set at_ who) at_ = who := by rw [st_set _ _ _ _ hat, if_pos rfl]
      have hzat : st z.1 at_ = who := by
        rcases I.old at_ with e | ⟨e, _⟩
        · rw [e, hsat]
        · rw [hsat] at e; omega
      have hwz : ∀ q, st z.1 q = who → st (s.set at_ who) q = who := fun q hq => by
        rcases I.old q with e | ⟨_, e⟩
        · rw [← e]; exact hq
        · rw [hq] at e; omega
      have hwz2 : ∀ q, st (s.set at_ who) q = who → st z.1 q = who := fun q hq => by
        rcases I.old q with e | ⟨e, _⟩
        · rw [e]; exact hq
        · rw [hq] at e; omega
      have hlat : Lib1 z.1 a at_ := (lib_iff I.len hatz (by rw [hzat]; omega)).1 h4
      refine ⟨fun p hp hp0 => ?_, I.len, hle, ?_⟩
      · simp only at hp hp0 ⊢
        by_cases hpo : st z.1 p = 3 - who
        · exact L p (by rw [← I.len]; exact hp) hpo
        · have hpw : st z.1 p = who := by have := hle p; omega
          by_cases hc : Conn z.1 a who p at_
          · obtain ⟨q, hq, t, ht, ht0⟩ := hlat
            rw [hzat] at hq
            exact ⟨q, by rw [hpw]; exact hc.trans hq, t, ht, ht0⟩
          · have hpat : p ≠ at_ := by intro e; subst e; exact hc .refl
            have hps : st s p = who := by have := hwz p hpw; rwa [st_set _ _ _ _ hat, if_neg hpat] at this
            obtain ⟨q, hq, t, ht, ht0⟩ := hf p (by rw [hs, ← I.len]; exact hp) (by rw [hps]; omega)
            rw [hps] at hq
            have key : ∀ x, Conn s a who p x → Conn z.1 a who p x := by
              intro x hx
              induction hx with
              | refl => exact .refl
              | step _ hy2 hy3 ihx =>
                refine ihx.step (by rw [I.len, ← hs]; exact hy2) (hwz2 _ ?_)
                rw [st_set _ _ _ _ hat]; split
                · rfl
                · exact hy3
            have hq2 := key q hq
            refine ⟨q, by rw [hpw]; exact hq2, t, by rw [I.len, ← hs]; exact ht, ?_⟩
            by_cases ht2 : t = at_
            · exfalso; subst ht2
              exact hc (hq2.step (by rw [I.len, ← hs]; exact ht) hzat)
            · rcases I.old t with e | ⟨_, e⟩
              · rw [e, st_set _ _ _ _ hat, if_neg ht2]; exact ht0
              · exact e
      · have := I.cnt
        have h5 := List.countP_set (p := (· != 0)) (a := who) (l := s) hat
        have e : s[at_] = st s at_ := by unfold st; rw [List.getElem?_eq_getElem hat]; rfl
        rw [e, h0] at h5
        have h6 : (who != 0) = true := by simp; omega
        rw [h6] at h5
        simp at h5
        simp only
        omega
end
end Go.Proofs.Ytefjliblaeadfaa
