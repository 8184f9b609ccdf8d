/- Plain laws of what nobody can take (two vital regions each): it stays, whatever the other plays; no program's step in sight. -/
import Derived.Test.YtefjliblaeadfaaPPl
namespace Go.Proofs.Ytefjliblaeadfaa

abbrev Pt := List Nat × List Nat
def pAt (l : List Pt) (i : Nat) : Pt := l[i]?.getD ([], [])
/-- the roots of the parts, as they are found. -/
def rootStep (so : Nat → Bool) (s : List Nat) (a : Nat) (rs : List Nat) (k : Nat) : List Nat := if so (st s k) && rs.all (fun r => !(spread so s a r).inn.contains k) then rs ++ [k] else rs
def rootsN (so : Nat → Bool) (s : List Nat) (a k : Nat) : List Nat := (List.range k).foldl (rootStep so s a) []
theorem rootsN_succ (so : Nat → Bool) (s : List Nat) (a k : Nat) : rootsN so s a (k + 1) = rootStep so s a (rootsN so s a k) k := by simp [rootsN, List.range_succ]
/-- the parts that a list of roots stands for. -/
def PtsOf (so : Nat → Bool) (s : List Nat) (a : Nat) (rs : List Nat) (ps : List Pt) : Prop :=
  ps.length = rs.length ∧ ∀ i, i < rs.length → (pAt ps i).1.Perm (spread so s a (st rs i)).inn ∧ (pAt ps i).2.Perm (spread so s a (st rs i)).bd
structure RtI (so : Nat → Bool) (s : List Nat) (a k : Nat) (rs : List Nat) : Prop where
  lt : ∀ i, i < rs.length → st rs i < k ∧ so (st s (st rs i)) = true
  cov : ∀ q, q < k → so (st s q) = true → ∃ i, i < rs.length ∧ q ∈ (spread so s a (st rs i)).inn
  fr : ∀ i j, i < j → j < rs.length → st rs j ∉ (spread so s a (st rs i)).inn
theorem st_snoc_lt (l : List Nat) (x i : Nat) (h : i < l.length) : st (l ++ [x]) i = st l i := by unfold st; rw [List.getElem?_append_left h]
theorem st_snoc (l : List Nat) (x : Nat) : st (l ++ [x]) l.length = x := by unfold st; simp
theorem st_mem {l : List Nat} {i : Nat} (h : i < l.length) : st l i ∈ l := by unfold st; rw [List.getElem?_eq_getElem h]; exact List.getElem_mem h
theorem mem_st {l : List Nat} {x : Nat} (h : x ∈ l) : ∃ i, i < l.length ∧ st l i = x := by
  obtain ⟨m, hm, e⟩ := List.mem_iff_getElem.1 h
  exact ⟨m, hm, by unfold st; rw [List.getElem?_eq_getElem hm]; exact e⟩
theorem all_no {so : Nat → Bool} {s : List Nat} {a k : Nat} {rs : List Nat} : rs.all (fun r => !(spread so s a r).inn.contains k) = true ↔ ∀ i, i < rs.length → k ∉ (spread so s a (st rs i)).inn := by
  rw [List.all_eq_true]
  constructor
  · intro h i hi hk
    have := h _ (st_mem hi)
    simp at this
    exact this hk
  · intro h r hr
    obtain ⟨i, hi, rfl⟩ := mem_st hr
    simpa using h i hi
theorem rootsN_I {so : Nat → Bool} {s : List Nat} {a b : Nat} (hab : s.length = a * b) : ∀ k, k ≤ s.length → RtI so s a k (rootsN so s a k) := by
  intro k
  induction k with
  | zero => exact fun _ => ⟨fun i hi => by simp [rootsN] at hi, fun q hq => by omega, fun i j _ hj => by simp [rootsN] at hj⟩
  | succ k ih =>
    intro hk
    have I := ih (by omega)
    rw [rootsN_succ]
    unfold rootStep
    generalize rootsN so s a k = rs at *
    by_cases hs : so (st s k) = true
    · by_cases ha : rs.all (fun r => !(spread so s a r).inn.contains k) = true
      · rw [if_pos (by rw [hs, ha]; rfl)]
        refine ⟨fun i hi => ?_, fun q hq h1 => ?_, fun i j hij hj => ?_⟩
        · rw [List.length_append, List.length_singleton] at hi
          by_cases e : i < rs.length
          · rw [st_snoc_lt _ _ _ e]; have := I.lt i e; exact ⟨by omega, this.2⟩
          · have e : i = rs.length := by omega
            rw [e, st_snoc]; exact ⟨by omega, hs⟩
        · by_cases e : q = k
          · refine ⟨rs.length, by simp, ?_⟩
            rw [st_snoc, e]; exact (spread_ok hab (by omega)).f0
          · obtain ⟨i, hi, h⟩ := I.cov q (by omega) h1
            exact ⟨i, by simp; omega, by rw [st_snoc_lt _ _ _ hi]; exact h⟩
        · rw [List.length_append, List.length_singleton] at hj
          rw [st_snoc_lt _ _ i (by omega)]
          by_cases e : j < rs.length
          · rw [st_snoc_lt _ _ _ e]; exact I.fr i j hij e
          · have e : j = rs.length := by omega
            rw [e, st_snoc]; exact all_no.1 ha i (by omega)
      · rw [if_neg (by rw [hs]; simpa using ha)]
        refine ⟨fun i hi => ⟨by have := (I.lt i hi).1; omega, (I.lt i hi).2⟩, fun q hq h1 => ?_, I.fr⟩
        by_cases e : q = k
        · subst e
          have : ¬ ∀ i, i < rs.length → q ∉ (spread so s a (st rs i)).inn := fun h => ha (all_no.2 h)
          simp only [Classical.not_forall] at this
          obtain ⟨i, hi, h⟩ := this
          exact ⟨i, hi, Classical.not_not.1 h⟩
        · exact I.cov q (by omega) h1
    · rw [if_neg (by simp [hs])]
      refine ⟨fun i hi => ⟨by have := (I.lt i hi).1; omega, (I.lt i hi).2⟩, fun q hq h1 => ?_, I.fr⟩
      by_cases e : q = k
      · subst e; exact absurd h1 hs
      · exact I.cov q (by omega) h1
/-- what is spread from a place that is so is so. -/
theorem inn_so {so : Nat → Bool} {s : List Nat} {a b r : Nat} (hab : s.length = a * b) (hr : r < s.length) (h : so (st s r) = true) : ∀ t ∈ (spread so s a r).inn, so (st s t) = true := fun t ht => by
  rcases (spread_ok hab hr).so1 t ht with e | e
  · rw [e]; exact h
  · exact e
/-- two parts share no place. -/
theorem comp_disj {so : Nat → Bool} {s : List Nat} {a b r1 r2 : Nat} (hab : s.length = a * b) (h1 : r1 < s.length) (h2 : r2 < s.length) (k2 : so (st s r2) = true) (hf : r2 ∉ (spread so s a r1).inn) :
    ∀ t ∈ (spread so s a r2).inn, t ∉ (spread so s a r1).inn := fun t ht => by
  have S1 := spread_ok (so := so) hab h1
  refine ((spread_ok (so := so) hab h2).con (fun q => so (st s q) = true ∧ q ∉ (spread so s a r1).inn) ⟨k2, hf⟩ (fun p hp hpl t ht hs => ⟨hs, fun hti => ?_⟩) t ht).2
  have hn := near_sym (by rw [← hab]; exact hpl) (by rw [← hab]; exact ht)
  rcases S1.cl t hti p (by rw [hab]; exact hn) with h | h
  · exact hp.2 h
  · have := S1.so2 p h; rw [hp.1] at this; cases this

/-- is a region vital to a group? do they touch? -/
def vitalS (s : List Nat) (r g : Pt) : Bool := r.1.any (fun p => st s p == 0) && r.1.all (fun p => !(st s p == 0) || g.2.contains p)
def touchS (r g : Pt) : Bool := r.2.any (fun p => g.1.contains p)
def cntN (V : Nat → Nat → Bool) (v : List Bool) (i k : Nat) : Nat := (List.range k).countP (fun j => !bAt v j && V j i)
theorem cntN_succ (V : Nat → Nat → Bool) (v : List Bool) (i k : Nat) : cntN V v i (k + 1) = cntN V v i k + if (!bAt v k && V k i) = true then 1 else 0 := by
  unfold cntN; rw [List.range_succ, List.countP_append]; simp [List.countP_cons]
theorem cntN_le (V : Nat → Nat → Bool) (v : List Bool) (i k : Nat) : cntN V v i k ≤ k := by
  unfold cntN; have : ((List.range k).countP (fun j => !bAt v j && V j i)) ≤ (List.range k).length := List.countP_le_length
  simpa using this
theorem cntN_two {V : Nat → Nat → Bool} {v : List Bool} {i : Nat} : ∀ k, 2 ≤ cntN V v i k → ∃ x y, x < y ∧ y < k ∧ bAt v x = false ∧ V x i = true ∧ bAt v y = false ∧ V y i = true := by
  have one : ∀ k, 1 ≤ cntN V v i k → ∃ x, x < k ∧ bAt v x = false ∧ V x i = true := by
    intro k
    induction k with
    | zero => intro h; simp [cntN] at h
    | succ k ih =>
      intro h
      rw [cntN_succ] at h
      by_cases e : (!bAt v k && V k i) = true
      · simp at e; exact ⟨k, by omega, e.1, e.2⟩
      · rw [if_neg e] at h
        obtain ⟨x, hx, h1⟩ := ih (by omega)
        exact ⟨x, by omega, h1⟩
  intro k
  induction k with
  | zero => intro h; simp [cntN] at h
  | succ k ih =>
    intro h
    rw [cntN_succ] at h
    by_cases e : (!bAt v k && V k i) = true
    · rw [if_pos e] at h
      obtain ⟨x, hx, h1, h2⟩ := one k (by omega)
      simp at e
      exact ⟨x, k, hx, by omega, h1, h2, e.1, e.2⟩
    · rw [if_neg e] at h
      obtain ⟨x, y, h1, h2, h3⟩ := ih (by omega)
      exact ⟨x, y, h1, by omega, h3⟩
def markStep (T : Nat → Nat → Bool) (i : Nat) (v : List Bool) (j : Nat) : List Bool := if T j i then v.set j true else v
def markN (T : Nat → Nat → Bool) (i : Nat) (v : List Bool) (k : Nat) : List Bool := (List.range k).foldl (markStep T i) v
theorem markN_succ (T : Nat → Nat → Bool) (i : Nat) (v : List Bool) (k : Nat) : markN T i v (k + 1) = markStep T i (markN T i v k) k := by simp [markN, List.range_succ]
theorem markN_len (T : Nat → Nat → Bool) (i : Nat) (v : List Bool) : ∀ k, (markN T i v k).length = v.length := by
  intro k
  induction k with
  | zero => rfl
  | succ k ih => rw [markN_succ]; unfold markStep; split <;> simp [ih]
theorem markN_at (T : Nat → Nat → Bool) (i : Nat) (v : List Bool) : ∀ k, k ≤ v.length → ∀ j, (bAt v j = true → bAt (markN T i v k) j = true) ∧ (j < k → T j i = true → bAt (markN T i v k) j = true) := by
  intro k
  induction k with
  | zero => exact fun _ j => ⟨fun h => h, fun h => by omega⟩
  | succ k ih =>
    intro hk j
    obtain ⟨h1, h2⟩ := ih (by omega) j
    rw [markN_succ]
    unfold markStep
    by_cases e : T k i = true
    · rw [if_pos e, bAt_set _ _ _ (by rw [markN_len]; omega)]
      refine ⟨fun h => by simp [h1 h], fun hj ht => ?_⟩
      by_cases ek : j = k
      · simp [ek]
      · simp [h2 (by omega) ht]
    · rw [if_neg e]
      refine ⟨h1, fun hj ht => ?_⟩
      by_cases ek : j = k
      · rw [ek] at ht; exact absurd ht e
      · exact h2 (by omega) ht
/-- what is alive is looked for, till nothing changes. -/
def aloop (m rn : Nat) (V T : Nat → Nat → Bool) : Nat → Nat → List Bool → List Bool → List Bool × List Bool
  | 0, _, u, v => (u, v)
  | f + 1, i, u, v => if i < m then (if bAt u i = true ∨ 2 ≤ cntN V v i rn then aloop m rn V T f (i + 1) u v else aloop m rn V T f 0 (u.set i true) (markN T i v rn)) else (u, v)
def falses (u : List Bool) : Nat := u.countP (!·)
theorem falses_set {u : List Bool} {i : Nat} (h : i < u.length) (h0 : bAt u i = false) : falses (u.set i true) + 1 = falses u := by
  have e : u[i] = false := by unfold bAt at h0; rw [List.getElem?_eq_getElem h] at h0; exact h0
  have h2 := List.countP_set (p := (!·)) (a := true) h
  rw [e] at h2
  have hpos : 0 < u.countP (!·) := List.countP_pos_iff.2 ⟨u[i], List.getElem_mem h, by rw [e]; rfl⟩
  unfold falses
  simp at h2
  omega
structure AlI (m rn : Nat) (T : Nat → Nat → Bool) (u v : List Bool) : Prop where
  ul : u.length = m
  vl : v.length = rn
  tch : ∀ i j, i < m → j < rn → bAt u i = true → T j i = true → bAt v j = true
structure AlF (m rn : Nat) (V T : Nat → Nat → Bool) (u v : List Bool) : Prop extends AlI m rn T u v where
  liv : ∀ i, i < m → bAt u i = false → 2 ≤ cntN V v i rn
theorem AlI.mark {m rn i : Nat} {T : Nat → Nat → Bool} {u v : List Bool} (h : AlI m rn T u v) (hi : i < m) : AlI m rn T (u.set i true) (markN T i v rn) := by
  refine ⟨by simp [h.ul], by rw [markN_len]; exact h.vl, fun x j hx hj hu ht => ?_⟩
  obtain ⟨h1, h2⟩ := markN_at T i v rn (by rw [h.vl]; exact Nat.le_refl _) j
  rw [bAt_set _ _ _ (by rw [h.ul]; exact hi)] at hu
  by_cases e : x = i
  · rw [e] at ht; exact h2 hj ht
  · simp [e] at hu; exact h1 (h.tch x j hx hj hu ht)
theorem aloop_F {m rn : Nat} {V T : Nat → Nat → Bool} : ∀ f i (u v : List Bool), falses u * (m + 1) + (m - i) ≤ f → i ≤ m → AlI m rn T u v → (∀ x, x < i → bAt u x = true ∨ 2 ≤ cntN V v x rn) →
    AlF m rn V T (aloop m rn V T f i u v).1 (aloop m rn V T f i u v).2 := by
  intro f
  induction f with
  | zero =>
    intro i u v hf hi h hp
    refine ⟨h, fun x hx h0 => ?_⟩
    replace h0 : bAt u x = false := h0
    rcases hp x (by omega) with e | e
    · rw [h0] at e; cases e
    · exact e
  | succ f ih =>
    intro i u v hf hi h hp
    rw [aloop]
    by_cases hm : i < m
    · rw [if_pos hm]
      by_cases hc : bAt u i = true ∨ 2 ≤ cntN V v i rn
      · rw [if_pos hc]
        refine ih (i + 1) u v (by omega) hm h fun x hx => ?_
        by_cases e : x = i
        · rw [e]; exact hc
        · exact hp x (by omega)
      · rw [if_neg hc]
        have h0 : bAt u i = false := by
          cases e : bAt u i
          · rfl
          · exact absurd (.inl e) hc
        have hfs := falses_set (u := u) (i := i) (by rw [h.ul]; exact hm) h0
        have hmul : falses u * (m + 1) = falses (u.set i true) * (m + 1) + (m + 1) := by rw [← hfs, Nat.add_mul, Nat.one_mul]
        exact ih 0 _ _ (by omega) (Nat.zero_le _) (h.mark hm) fun x hx => by omega
    · rw [if_neg hm]
      refine ⟨h, fun x hx h0 => ?_⟩
      rcases hp x (by omega) with e | e
      · rw [h0] at e; cases e
      · exact e
/-- the places of what is alive. -/
def alN (gs : List Pt) (u : List Bool) (k : Nat) : List Nat := (List.range k).flatMap fun i => if bAt u i then [] else (pAt gs i).1
theorem alN_succ (gs : List Pt) (u : List Bool) (k : Nat) : alN gs u (k + 1) = alN gs u k ++ if bAt u k then [] else (pAt gs k).1 := by simp [alN, List.range_succ]
theorem alN_mem {gs : List Pt} {u : List Bool} {k q : Nat} (h : q ∈ alN gs u k) : ∃ i, i < k ∧ bAt u i = false ∧ q ∈ (pAt gs i).1 := by
  unfold alN at h
  obtain ⟨i, hi, hq⟩ := List.mem_flatMap.1 h
  split at hq
  · simp at hq
  · rename_i h0
    exact ⟨i, List.mem_range.1 hi, by simpa using h0, hq⟩
end Go.Proofs.Ytefjliblaeadfaa
