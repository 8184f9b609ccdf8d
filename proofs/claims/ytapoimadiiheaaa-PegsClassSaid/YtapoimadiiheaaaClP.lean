/- Plain laws of classes: a board that is solved has the class of one peg at a place that is no wall; no program in sight. -/
import Derived.Test.YtapoimadiiheaaaPgJ
import Derived.Test.YtapoimadiiheaaaDoP
namespace Go.Proofs.Ytapoimadiiheaaa

/-- the pegs of a board put off, one peg put at place i. -/
def offS (s : List Nat) : List Nat := s.map fun v => if v = 1 then 0 else v
def oneS (s : List Nat) (i : Nat) : List Nat := (offS s).set i 1
theorem offS_len (s : List Nat) : (offS s).length = s.length := by simp [offS]
theorem offS_at (s : List Nat) (k : Nat) : st (offS s) k = if st s k = 1 then 0 else st s k := by
  unfold offS st
  rw [List.getElem?_map]
  by_cases h : k < s.length
  · rw [List.getElem?_eq_getElem h]; simp
  · rw [List.getElem?_eq_none (by omega)]; simp
theorem oneS_len (s : List Nat) (i : Nat) : (oneS s i).length = s.length := by simp [oneS, offS_len]
theorem oneS_at {s : List Nat} {i : Nat} (hi : i < s.length) (k : Nat) : st (oneS s i) k = if k = i then 1 else if st s k = 1 then 0 else st s k := by
  unfold oneS
  rw [st_set _ _ _ _ (by rw [offS_len]; exact hi), offS_at]
/-- jumps leave walls and what is no wall. -/
theorem do_wall {s : List Nat} {j : Jm} (hw : wfJ s.length j) (hc : canJ s j = true) (k : Nat) : (st (doJ s j) k = 2 ↔ st s k = 2) ∧ (st s k ≤ 2 → st (doJ s j) k ≤ 2) := by
  obtain ⟨h1, h2, h3, _⟩ := hw
  obtain ⟨c1, c2, c3⟩ := can_iff.1 hc
  unfold doJ
  rw [st_set _ _ _ _ (by simpa using h3), st_set _ _ _ _ (by simpa using h2), st_set _ _ _ _ h1]
  split
  · rename_i e; subst e; rw [c3]; omega
  · split
    · rename_i e; subst e; rw [c2]; omega
    · split
      · rename_i e; subst e; rw [c1]; omega
      · exact ⟨Iff.rfl, fun h => h⟩
theorem rch_wall {J : List Jm} {s t : List Nat} (hJ : ∀ j ∈ J, wfJ s.length j) (h : Rch J s t) (k : Nat) : (st t k = 2 ↔ st s k = 2) ∧ (st s k ≤ 2 → st t k ≤ 2) := by
  induction h with
  | refl => exact ⟨Iff.rfl, fun h => h⟩
  | step h1 h2 h3 ih =>
    have := do_wall (by rw [h1.len]; exact hJ _ h2) h3 k
    exact ⟨this.1.trans ih.1, fun h => this.2 (ih.2 h)⟩
theorem cnt1_one {t : List Nat} (h : cnt1 t = 1) : ∃ i, i < t.length ∧ st t i = 1 ∧ ∀ k, k < t.length → st t k = 1 → k = i := by
  have hp : 0 < t.countP (· == 1) := by unfold cnt1 at h; omega
  obtain ⟨x, hx, hx1⟩ := List.countP_pos_iff.1 hp
  obtain ⟨i, hi, rfl⟩ := List.mem_iff_getElem.1 hx
  have e : st t i = t[i] := by unfold st; rw [List.getElem?_eq_getElem hi]; rfl
  have hi1 : st t i = 1 := by rw [e]; simpa using hx1
  refine ⟨i, hi, hi1, fun k hk hk1 => ?_⟩
  rcases Nat.lt_or_ge k i with h2 | h2
  · exfalso
    have a := cnt_off hi hi1
    have b : st (t.set i 0) k = 1 := by rw [st_set _ _ _ _ hi, if_neg (by omega)]; exact hk1
    have c := cnt_off (s := t.set i 0) (i := k) (by simpa using hk) b
    omega
  · rcases Nat.lt_or_ge i k with h3 | h3
    · exfalso
      have a := cnt_off hi hi1
      have b : st (t.set i 0) k = 1 := by rw [st_set _ _ _ _ hi, if_neg (by omega)]; exact hk1
      have c := cnt_off (s := t.set i 0) (i := k) (by simpa using hk) b
      omega
    · omega
/-- a board that is solved has the class of one peg. -/
theorem solved_class {w h : Nat} {J : List Jm} {s t : List Nat} (hs : s.length = w * h) (hh : h ≤ 30) (hs2 : ∀ j, st s j ≤ 2) (hJ : ∀ j ∈ J, inJ w h s j) (hr : Rch J s t) (ht : cnt1 t = 1) :
    ∃ i, i < s.length ∧ st s i ≠ 2 ∧ clsS w (oneS s i) = clsS w s := by
  have hwf : ∀ j ∈ J, wfJ s.length j := fun j hj => inJ_wf hs (hJ j hj)
  have hl := hr.len
  obtain ⟨i, hi, hi1, hu⟩ := cnt1_one ht
  rw [hl] at hi hu
  have hwall := fun k => rch_wall hwf hr k
  refine ⟨i, hi, fun h => by have := (hwall i).1.2 h; omega, ?_⟩
  have e : oneS s i = t := by
    refine st_ext (by rw [oneS_len, hl]) fun k hk => ?_
    rw [oneS_len] at hk
    rw [oneS_at hi]
    by_cases ek : k = i
    · subst ek; rw [if_pos rfl, hi1]
    · rw [if_neg ek]
      have h1 : st t k ≠ 1 := fun h => ek (hu k hk h)
      have h2 := (hwall k).1
      have h3 := (hwall k).2 (hs2 k)
      have h4 := hs2 k
      split <;> omega
  rw [e]
  exact cls_rch (fun j hj => ⟨hwf j hj, inJ_tri hh (hJ j hj)⟩) hr
end Go.Proofs.Ytapoimadiiheaaa
