/- Plain laws of areas: each place is counted once; no program in sight. -/
import Derived.Test.YtefjliblaeadfaaPPl
namespace Go.Proofs.Ytefjliblaeadfaa

def markL (d : List Bool) (l : List Nat) : List Bool := l.foldl (fun d t => d.set t true) d
theorem markL_len (l : List Nat) : ∀ d, (markL d l).length = d.length := by
  induction l with
  | nil => intro d; rfl
  | cons t l ih => intro d; show (markL (d.set t true) l).length = _; rw [ih, List.length_set]
theorem markL_snoc (d : List Bool) (l : List Nat) (t : Nat) : markL d (l ++ [t]) = (markL d l).set t true := by unfold markL; rw [List.foldl_append]; rfl
theorem markL_at (l : List Nat) : ∀ (d : List Bool) (k : Nat), (∀ t ∈ l, t < d.length) → (bAt (markL d l) k = true ↔ k ∈ l ∨ bAt d k = true) := by
  induction l with
  | nil => intro d k _; simp [markL]
  | cons t l ih =>
    intro d k h
    show bAt (markL (d.set t true) l) k = true ↔ _
    rw [ih _ _ (fun x hx => by rw [List.length_set]; exact h x (by simp [hx])), bAt_set _ _ _ (h t (by simp))]
    simp only [Bool.or_eq_true, decide_eq_true_eq, List.mem_cons]
    constructor
    · rintro (h | h | h)
      · exact .inl (.inr h)
      · exact .inl (.inl h)
      · exact .inr h
    · rintro ((h | h) | h)
      · exact .inr (.inl h)
      · exact .inl h
      · exact .inr (.inr h)
theorem count_set {d : List Bool} {t : Nat} (ht : t < d.length) (h : bAt d t = false) : (d.set t true).countP id = d.countP id + 1 := by
  have e : d[t] = false := by unfold bAt at h; rw [List.getElem?_eq_getElem ht] at h; exact h
  have h2 := List.countP_set (p := id) (a := true) ht
  rw [e] at h2
  simpa using h2
theorem count_mark (l : List Nat) : ∀ (d : List Bool), l.Nodup → (∀ t ∈ l, t < d.length) → (∀ t ∈ l, bAt d t = false) → (markL d l).countP id = d.countP id + l.length := by
  induction l with
  | nil => intro d _ _ _; rfl
  | cons t l ih =>
    intro d hn hl h0
    have hn' := List.nodup_cons.1 hn
    show (markL (d.set t true) l).countP _ = _
    rw [ih (d.set t true) hn'.2 (fun x hx => by rw [List.length_set]; exact hl x (by simp [hx])) (fun x hx => by
      rw [bAt_set _ _ _ (hl t (by simp)), h0 x (by simp [hx])]
      have : x ≠ t := by intro e; rw [e] at hx; exact hn'.1 hx
      simp [this]), count_set (hl t (by simp)) (h0 t (by simp))]
    simp only [List.length_cons]; omega
/-- what holds while areas are counted. -/
structure ArI (a b : Nat) (s : List Nat) (k m : Nat) (d : List Bool) : Prop where
  dl : d.length = a * b
  d0 : ∀ q, bAt d q = true → q < a * b ∧ st s q = 0
  cl : ∀ q, bAt d q = true → ∀ t ∈ nearL a s.length q, st s t = 0 → bAt d t = true
  cov : ∀ q, q < k → st s q = 0 → bAt d q = true
  cnt : m = (s.take k).countP (· != 0) + d.countP id
section
variable {a b : Nat} {s : List Nat}
theorem ArI.zero : ArI a b s 0 0 (List.replicate (a * b) false) :=
  ⟨by simp, fun q h => (by rw [bAt_rep] at h; exact absurd h (by simp)), fun q h => (by rw [bAt_rep] at h; exact absurd h (by simp)), fun q h => absurd h (by omega), by simp [List.countP_replicate]⟩
theorem take_count {k : Nat} (hk : k < s.length) : (s.take (k + 1)).countP (· != 0) = (s.take k).countP (· != 0) + if st s k = 0 then 0 else 1 := by
  have e : s[k] = st s k := by unfold st; rw [List.getElem?_eq_getElem hk]; rfl
  rw [List.take_succ_eq_append_getElem hk, List.countP_append, e]
  by_cases h : st s k = 0 <;> simp [h]
theorem ArI.stone {k m : Nat} {d : List Bool} (h : ArI a b s k m d) (hk : k < s.length) (h0 : st s k ≠ 0) : ArI a b s (k + 1) (m + 1) d :=
  ⟨h.dl, h.d0, h.cl, fun q hq h1 => by
    by_cases e : q = k
    · subst e; exact absurd h1 h0
    · exact h.cov q (by omega) h1, by rw [take_count hk, if_neg h0]; have := h.cnt; omega⟩
theorem ArI.skip {k m : Nat} {d : List Bool} (h : ArI a b s k m d) (hk : k < s.length) (h0 : st s k = 0) (hd : bAt d k = true) : ArI a b s (k + 1) m d :=
  ⟨h.dl, h.d0, h.cl, fun q hq h1 => by
    by_cases e : q = k
    · subst e; exact hd
    · exact h.cov q (by omega) h1, by rw [take_count hk, if_pos h0]; have := h.cnt; omega⟩
theorem ArI.region {k m : Nat} {d : List Bool} {l : List Nat} (h : ArI a b s k m d) (hs : s.length = a * b) (hk : k < s.length) (h0 : st s k = 0) (hd : bAt d k = false) (hl : l.Perm (spread (fun v => v == 0) s a k).inn) : ArI a b s (k + 1) (m + l.length) (markL d l) := by
  have S := spread_ok (so := fun v => v == 0) hs hk
  have hm : ∀ t, t ∈ l ↔ t ∈ (spread (fun v => v == 0) s a k).inn := fun t => hl.mem_iff
  have hlt : ∀ t ∈ l, t < d.length := fun t ht => by rw [h.dl, ← hs]; exact S.lt t (.inl ((hm t).1 ht))
  have hz : ∀ t ∈ l, st s t = 0 := fun t ht => by
    rcases S.so1 t ((hm t).1 ht) with e | e
    · rw [e]; exact h0
    · simpa using e
  have hconn : ∀ t ∈ l, Conn s a 0 k t := fun t ht => S.con (fun q => Conn s a 0 k q) .refl (fun x hx _ y hy hs => hx.step hy (by simpa using hs)) t ((hm t).1 ht)
  have hnd : ∀ t ∈ l, bAt d t = false := fun t ht => by
    cases hb : bAt d t with
    | false => rfl
    | true =>
      have hc := (hconn t ht).symm hs hk h0
      have key : ∀ x, Conn s a 0 t x → bAt d x = true := fun x hx => by
        induction hx with
        | refl => exact hb
        | step _ h2 h3 ih => exact h.cl _ ih _ h2 h3
      have := key k hc
      rw [this] at hd; cases hd
  have hnod : l.Nodup := hl.symm.nodup_iff.1 (List.nodup_append.1 S.nd).1
  refine ⟨by rw [markL_len]; exact h.dl, fun q hq => ?_, fun q hq t ht ht0 => ?_, fun q hq h1 => ?_, ?_⟩
  · rcases (markL_at l d q hlt).1 hq with e | e
    · exact ⟨by rw [← h.dl]; exact hlt q e, hz q e⟩
    · exact h.d0 q e
  · refine (markL_at l d t hlt).2 ?_
    rcases (markL_at l d q hlt).1 hq with e | e
    · left
      rcases S.cl q ((hm q).1 e) t ht with e2 | e2
      · exact (hm t).2 e2
      · have := S.so2 t e2; simp [ht0] at this
    · right; exact h.cl q e t ht ht0
  · refine (markL_at l d q hlt).2 ?_
    by_cases e : q = k
    · subst e; left; exact (hm q).2 S.f0
    · right; exact h.cov q (by omega) h1
  · rw [take_count hk, if_pos h0, count_mark l d hnod hlt hnd]
    have := h.cnt; omega
theorem ArI.all {m : Nat} {d : List Bool} (hs : s.length = a * b) (h : ArI a b s s.length m d) : m = s.length := by
  have e : d = s.map (fun v => v == 0) := by
    apply List.ext_getElem (by rw [List.length_map, h.dl, hs])
    intro i h1 h2
    have hi : i < s.length := by rw [hs, ← h.dl]; exact h1
    have e1 : bAt d i = d[i] := by unfold bAt; rw [List.getElem?_eq_getElem h1]; rfl
    have e2 : st s i = s[i] := by unfold st; rw [List.getElem?_eq_getElem hi]; rfl
    rw [List.getElem_map, ← e1, ← e2, Bool.eq_iff_iff]
    constructor
    · intro h3; simpa using (h.d0 i h3).2
    · intro h3; exact h.cov i hi (by simpa using h3)
  have h2 := h.cnt
  rw [List.take_length, e, List.countP_map] at h2
  have h3 := List.length_eq_countP_add_countP (· != 0) (l := s)
  have e4 : List.countP (id ∘ fun v => v == 0) s = List.countP (fun x => !(x != 0)) s := by
    congr 1; funext v; cases hv : (v == 0) <;> simp [bne, hv]
  rw [e4] at h2
  rw [h2, h3]
  congr 1
  apply List.countP_congr
  intro x _
  simp
end
end Go.Proofs.Ytefjliblaeadfaa
