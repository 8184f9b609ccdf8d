/- Plain laws on the search that tells how far each place is; conditions: none. -/
import Derived.Test.YtebgliipeaelhaaDoorWlp
namespace Go.Proofs.YtebgliipeaelhaaDoor

def fa (far : List Int) (q : Nat) : Int := far[q]?.getD 0
def negs : List Int → Nat
  | [] => 0
  | v :: l => (if v < 0 then 1 else 0) + negs l
theorem fa_set (l : List Int) (q : Nat) (v : Int) (j : Nat) (hq : q < l.length) : fa (l.set q v) j = if j = q then v else fa l j := by
  unfold fa
  by_cases h : j = q
  · subst h; rw [List.getElem?_set_self hq, if_pos rfl]; rfl
  · rw [List.getElem?_set_ne (by omega), if_neg h]
theorem negs_set (l : List Int) (q : Nat) (v : Int) (hq : q < l.length) (h : fa l q < 0) (hv : 0 ≤ v) : negs (l.set q v) + 1 = negs l := by
  induction l generalizing q with
  | nil => simp at hq
  | cons y l ih =>
    cases q with
    | zero =>
      simp only [fa, List.getElem?_cons_zero, Option.getD_some] at h
      simp only [List.set_cons_zero, negs]
      rw [if_neg (by omega), if_pos h]; omega
    | succ q =>
      have := ih q (by simpa using hq) (by simpa [fa] using h)
      simp only [List.set_cons_succ, negs]
      omega
theorem negs_rep (n : Nat) : negs (List.replicate n (-1)) = n := by
  induction n with
  | zero => rfl
  | succ n ih => rw [List.replicate_succ, negs, ih]; simp; omega

/-- between two rounds of the search: the queue Q. -/
structure BI (a b x m : Nat) (far : List Int) (Q : List Nat) : Prop where
  len : far.length = a * b
  x0 : fa far x = 0
  inQ : ∀ q ∈ Q, q < a * b ∧ 0 ≤ fa far q
  par : ∀ q, q < a * b → 0 ≤ fa far q → (colr a x + colr a q) % 2 = (fa far q).toNat % 2
  clo : ∀ p, p < a * b → 0 ≤ fa far p → p ∉ Q → ∀ q ∈ nb a b p, 0 ≤ fa far q ∧ fa far q ≤ fa far p + 1
  srt : Q.Pairwise (fun p q => fa far p ≤ fa far q)
  bnd : ∀ h t, Q = h :: t → ∀ q, q < a * b → fa far q ≤ fa far h + 1
  mea : Q.length + negs far = m
  cap : ∀ q, q < a * b → fa far q + m ≤ a * b
/-- within a round: i of the next places of p are done. -/
structure BJ (a b x m i : Nat) (far : List Int) (p : Nat) (T : List Nat) : Prop where
  len : far.length = a * b
  x0 : fa far x = 0
  inQ : ∀ q ∈ p :: T, q < a * b ∧ 0 ≤ fa far q
  par : ∀ q, q < a * b → 0 ≤ fa far q → (colr a x + colr a q) % 2 = (fa far q).toNat % 2
  clo : ∀ r, r < a * b → 0 ≤ fa far r → r ∉ p :: T → ∀ q ∈ nb a b r, 0 ≤ fa far q ∧ fa far q ≤ fa far r + 1
  don : ∀ j, j < i → 0 ≤ fa far (st (nb a b p) j) ∧ fa far (st (nb a b p) j) ≤ fa far p + 1
  srt : (p :: T).Pairwise (fun p q => fa far p ≤ fa far q)
  bnd : ∀ q, q < a * b → fa far q ≤ fa far p + 1
  mea : T.length + 1 + negs far = m
  cap : fa far p + m ≤ a * b
theorem BI.start {a b x : Nat} (hx : x < a * b) : BI a b x (a * b) ((List.replicate (a * b) (-1)).set x 0) [x] := by
  have hl : x < (List.replicate (a * b) (-1 : Int)).length := by simpa using hx
  have hf : ∀ j, j < a * b → fa ((List.replicate (a * b) (-1)).set x 0) j = if j = x then 0 else -1 := fun j hj => by
    rw [fa_set _ _ _ _ hl]
    by_cases h : j = x
    · rw [if_pos h, if_pos h]
    · rw [if_neg h, if_neg h]; unfold fa; simp [hj]
  have hx0 := hf x hx
  rw [if_pos rfl] at hx0
  have hpos : ∀ j, j < a * b → 0 ≤ fa ((List.replicate (a * b) (-1)).set x 0) j → j = x := fun j hj h => by
    rw [hf j hj] at h
    by_cases e : j = x
    · exact e
    · rw [if_neg e] at h; omega
  refine ⟨by simp, hx0, fun q hq => ?_, fun q hq h => ?_, fun p hp h hn => ?_, by simp, fun h t e q hq => ?_, ?_, fun q hq => ?_⟩
  · rw [List.mem_singleton] at hq; subst hq; exact ⟨hx, by rw [hx0]; omega⟩
  · rw [hpos q hq h, hx0]; show _ = 0; omega
  · exact absurd (hpos p hp h) (by simpa using hn)
  · injection e with e1 e2
    subst e1
    rw [hx0, hf q hq]; split <;> omega
  · have := negs_set (List.replicate (a * b) (-1)) x 0 hl (by unfold fa; simp [hx]) (by omega)
    rw [negs_rep] at this
    simp only [List.length_singleton]; omega
  · rw [hf q hq]; split <;> omega
theorem BI.open {a b x m : Nat} {far : List Int} {p : Nat} {T : List Nat} (h : BI a b x m far (p :: T)) : BJ a b x m 0 far p T :=
  ⟨h.len, h.x0, h.inQ, h.par, h.clo, fun j hj => absurd hj (by omega), h.srt, h.bnd p T rfl, by have := h.mea; simpa using this, h.cap p (h.inQ p (by simp)).1⟩
theorem BJ.old {a b x m i : Nat} {far : List Int} {p : Nat} {T : List Nat} (h : BJ a b x m i far p T) (hi : i < (nb a b p).length) (hq : 0 ≤ fa far (st (nb a b p) i)) : BJ a b x m (i + 1) far p T := by
  have hm : st (nb a b p) i ∈ nb a b p := by unfold st; rw [List.getElem?_eq_getElem hi]; exact List.getElem_mem hi
  refine ⟨h.len, h.x0, h.inQ, h.par, h.clo, fun j hj => ?_, h.srt, h.bnd, h.mea, h.cap⟩
  by_cases e : j = i
  · subst e; exact ⟨hq, h.bnd _ (nb_lt 8 hm)⟩
  · exact h.don j (by omega)
theorem BJ.new {a b x m i : Nat} {far : List Int} {p : Nat} {T : List Nat} (ha : a ≤ 8) (hb : b ≤ 8) (h : BJ a b x m i far p T) (hi : i < (nb a b p).length) (hq : fa far (st (nb a b p) i) < 0) :
    BJ a b x m (i + 1) (far.set (st (nb a b p) i) (fa far p + 1)) p (T ++ [st (nb a b p) i]) := by
  have hm : st (nb a b p) i ∈ nb a b p := by unfold st; rw [List.getElem?_eq_getElem hi]; exact List.getElem_mem hi
  obtain ⟨hp1, hp2⟩ := h.inQ p (by simp)
  generalize hqe : st (nb a b p) i = q at *
  have hql : q < a * b := nb_lt 8 hm
  have hf := fun j => fa_set far q (fa far p + 1) j (by rw [h.len]; exact hql)
  have hkeep : ∀ j, 0 ≤ fa far j → fa (far.set q (fa far p + 1)) j = fa far j := fun j hj => by
    rw [hf j, if_neg (by intro e; subst e; omega)]
  have hmono : ∀ j, fa far j ≤ fa (far.set q (fa far p + 1)) j := fun j => by
    rw [hf j]; split
    · rename_i e; subst e; omega
    · exact Int.le_refl _
  have hpk := hkeep p hp2
  refine ⟨by rw [List.length_set]; exact h.len, by rw [hkeep x (by rw [h.x0]; omega)]; exact h.x0, fun j hj => ?_, fun j hj1 hj2 => ?_, fun r hr1 hr2 hr3 s hs => ?_, fun j hj => ?_, ?_, fun j hj => ?_, ?_, by rw [hpk]; exact h.cap⟩
  · rw [← List.cons_append, List.mem_append] at hj
    rcases hj with hj | hj
    · obtain ⟨h1, h2⟩ := h.inQ j hj; exact ⟨h1, by rw [hkeep j h2]; exact h2⟩
    · rw [List.mem_singleton] at hj; subst hj; exact ⟨hql, by rw [hf j, if_pos rfl]; omega⟩
  · rw [hf j] at hj2 ⊢
    by_cases e : j = q
    · rw [if_pos e]; subst e
      have h1 := h.par p hp1 hp2
      have h2 := nb_col ha hb hp1 hm
      have h3 : (fa far p + 1).toNat = (fa far p).toNat + 1 := by omega
      rw [h3]; omega
    · rw [if_neg e] at hj2 ⊢; exact h.par j hj1 hj2
  · have hrq : r ≠ q := by intro e; subst e; exact hr3 (by simp)
    rw [hf r, if_neg hrq] at hr2 ⊢
    obtain ⟨h1, h2⟩ := h.clo r hr1 hr2 (by intro e; exact hr3 (by rw [← List.cons_append, List.mem_append]; exact .inl e)) s hs
    rw [hkeep s h1]; exact ⟨h1, h2⟩
  · rw [hpk]
    by_cases e : j = i
    · subst e; rw [hqe, hf q, if_pos rfl]; omega
    · obtain ⟨h1, h2⟩ := h.don j (by omega); rw [hkeep _ h1]; exact ⟨h1, h2⟩
  · rw [← List.cons_append, List.pairwise_append]
    refine ⟨h.srt.imp_of_mem fun {c d} hc hd hcd => ?_, by simp, fun c hc d hd => ?_⟩
    · rw [hkeep c (h.inQ c hc).2, hkeep d (h.inQ d hd).2]; exact hcd
    · rw [List.mem_singleton] at hd; subst hd
      rw [hkeep c (h.inQ c hc).2, hf d, if_pos rfl]
      exact h.bnd c (h.inQ c hc).1
  · rw [hpk, hf j]
    split
    · omega
    · exact h.bnd j hj
  · have := negs_set far q (fa far p + 1) (by rw [h.len]; exact hql) hq (by omega)
    have := h.mea
    simp only [List.length_append, List.length_singleton]; omega
theorem BJ.close {a b x m : Nat} {far : List Int} {p : Nat} {T : List Nat} (h : BJ a b x m (nb a b p).length far p T) : BI a b x (m - 1) far T := by
  have hmm := h.mea
  refine ⟨h.len, h.x0, fun q hq => h.inQ q (by simp [hq]), h.par, fun r hr1 hr2 hr3 s hs => ?_, (List.pairwise_cons.1 h.srt).2, fun g t e q hq => ?_, by omega, fun q hq => ?_⟩
  · by_cases e : r = p
    · subst e
      obtain ⟨j, hj, rfl⟩ := List.mem_iff_getElem.1 hs
      have := h.don j hj
      unfold st at this
      rw [List.getElem?_eq_getElem hj] at this
      exact this
    · exact h.clo r hr1 hr2 (by simp [e, hr3]) s hs
  · have h1 := h.bnd q hq
    have h2 := (List.pairwise_cons.1 h.srt).1 g (by rw [e]; simp)
    omega
  · have h1 := h.bnd q hq
    have h2 := h.cap
    omega
/-- what the search has told when it is over. -/
structure FarOk (a b x : Nat) (far : List Int) : Prop where
  len : far.length = a * b
  x0 : fa far x = 0
  par : ∀ q, q < a * b → 0 ≤ fa far q → (colr a x + colr a q) % 2 = (fa far q).toNat % 2
  clo : ∀ p, p < a * b → 0 ≤ fa far p → ∀ q ∈ nb a b p, 0 ≤ fa far q ∧ fa far q ≤ fa far p + 1
theorem BI.over {a b x m : Nat} {far : List Int} (h : BI a b x m far []) : FarOk a b x far := ⟨h.len, h.x0, h.par, fun p h1 h2 q hq => h.clo p h1 h2 (by simp) q hq⟩
theorem FarOk.walk {a b x : Nat} {far : List Int} (h : FarOk a b x far) (hx : x < a * b) : ∀ t y, y < a * b → 0 < uW a b x t y → 0 ≤ fa far y ∧ fa far y ≤ t := by
  intro t
  induction t with
  | zero =>
    intro y hy hp
    rw [uW_zero a b x y hx] at hp
    by_cases e : y = x
    · subst e; rw [h.x0]; omega
    · rw [if_neg e] at hp; omega
  | succ t ih =>
    intro y hy hp
    obtain ⟨p, h1, h2, h3⟩ := uW_pos hp
    obtain ⟨h4, h5⟩ := ih p h1 h2
    obtain ⟨h6, h7⟩ := h.clo p h1 h4 y h3
    push_cast
    omega
end Go.Proofs.YtebgliipeaelhaaDoor
