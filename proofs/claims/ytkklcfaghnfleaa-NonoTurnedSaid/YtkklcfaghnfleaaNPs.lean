/- What a push keeps, in plain words; no conditions. -/
import Derived.Test.YtkklcfaghnfleaaNCol
namespace Go.Proofs.Ytkklcfaghnfleaa
open Go.RowKit

/-- c came of c0 by what lines tell. -/
structure Ps (n m : Nat) (R C : Nat → List Nat) (c0 c : Pic) : Prop where
  rf : Rf n m c0 c
  vld : Vld n m c
  sol : ∀ s, Good n m R C s → Rf n m c0 s → Rf n m c s
theorem Ps.refl {n m : Nat} {R C : Nat → List Nat} {c : Pic} (h : Vld n m c) : Ps n m R C c c := ⟨Rf.refl _ _ _, h, fun _ _ h => h⟩
theorem Ps.row {n m : Nat} {R C : Nat → List Nat} {c0 c : Pic} (h : Ps n m R C c0 c) (hR : ∀ y, y < n → ∀ k ∈ R y, 1 ≤ k ∧ k ≤ 20) {y : Nat} (hy : y < n) : Ps n m R C c0 (updR m c y (sureAt (rowL m c y) (R y))) :=
  have hf := row_rf (ks := R y) h.vld hy
  ⟨h.rf.trans hf, hf.vld h.vld, fun s hs h0 => row_sol (fun y hy k hk => (hR y hy k hk).1) hs (h.sol s hs h0) hy⟩
theorem Ps.col {n m : Nat} {R C : Nat → List Nat} {c0 c : Pic} (h : Ps n m R C c0 c) (hC : ∀ x, x < m → ∀ k ∈ C x, 1 ≤ k ∧ k ≤ 20) {x : Nat} (hx : x < m) : Ps n m R C c0 (updC c x n (sureAt (colL n c x) (C x))) :=
  have hf := col_rf (n := n) (k := n) (ks := C x) h.vld hx
  ⟨h.rf.trans hf, hf.vld h.vld, fun s hs h0 => col_sol (fun y hy k hk => (hC y hy k hk).1) hs (h.sol s hs h0) hx⟩
theorem Ps.noR {n m : Nat} {R C : Nat → List Nat} {c0 c : Pic} (h : Ps n m R C c0 c) (hR : ∀ y, y < n → ∀ k ∈ R y, 1 ≤ k ∧ k ≤ 20) {y : Nat} (hy : y < n) (hz : WS (rowL m c y) (R y) = 0) : ∀ s, Good n m R C s → Rf n m c0 s → False := fun s hs h0 => by
  have := row_none (fun y hy k hk => (hR y hy k hk).1) hs (h.sol s hs h0) hy
  omega
theorem Ps.noC {n m : Nat} {R C : Nat → List Nat} {c0 c : Pic} (h : Ps n m R C c0 c) (hC : ∀ x, x < m → ∀ k ∈ C x, 1 ≤ k ∧ k ≤ 20) {x : Nat} (hx : x < m) (hz : WS (colL n c x) (C x) = 0) : ∀ s, Good n m R C s → Rf n m c0 s → False := fun s hs h0 => by
  have := col_none (fun y hy k hk => (hC y hy k hk).1) hs (h.sol s hs h0) hx
  omega
theorem sureN_all {m : Nat} (l : List Int) (ks : List Nat) (hl : l.length = m) : sureN l ks m = (List.range m).map (sureAt l ks) := by
  apply List.ext_getElem
  · rw [sureN_len]; simp [hl]
  · intro i h1 h2
    have hi : i < l.length := by rw [sureN_len] at h1; exact h1
    have := sureN_at l ks m i hi
    rw [if_pos (by omega), List.getElem?_eq_getElem h1] at this
    simp only [Option.getD_some] at this
    rw [this]; simp
theorem row_eq {m : Nat} {c : Pic} {y : Nat} {v : Nat → Int} (h : (List.range m).map v = rowL m c y) : updR m c y v = c := by
  funext y' x'
  unfold updR
  by_cases e : y' = y ∧ x' < m
  · obtain ⟨rfl, hx⟩ := e
    rw [if_pos ⟨rfl, hx⟩]
    have := congrArg (fun l => l[x']?) h
    simp only [rowL_at c y' hx] at this
    rw [List.getElem?_map, List.getElem?_range hx] at this
    exact Option.some.inj this
  · rw [if_neg e]
theorem row_ne {n m : Nat} {c : Pic} {y : Nat} {v : Nat → Int} (hy : y < n) (hf : Rf n m c (updR m c y v)) (h : (List.range m).map v ≠ rowL m c y) : opn n m (updR m c y v) < opn n m c := by
  have : ∃ x, x < m ∧ v x ≠ c y x := by
    apply Classical.byContradiction
    intro hno
    apply h
    unfold rowL
    refine List.map_congr_left fun x hx => Classical.byContradiction fun e => hno ⟨x, List.mem_range.1 hx, e⟩
  obtain ⟨x, hx, hne⟩ := this
  refine opn_lt hf hy hx fun e => hne ?_
  unfold updR at e
  rw [if_pos ⟨rfl, hx⟩] at e
  exact e.symm
theorem col_eq {n : Nat} {c : Pic} {x : Nat} {v : Nat → Int} (h : ∀ y, y < n → v y = c y x) : updC c x n v = c := by
  funext y' x'
  unfold updC
  by_cases e : x' = x ∧ y' < n
  · obtain ⟨rfl, hy⟩ := e
    rw [if_pos ⟨rfl, hy⟩]; exact h y' hy
  · rw [if_neg e]
theorem col_ne {n m : Nat} {c : Pic} {x : Nat} {v : Nat → Int} (hx : x < m) (hf : Rf n m c (updC c x n v)) (h : ∃ y, y < n ∧ v y ≠ c y x) : opn n m (updC c x n v) < opn n m c := by
  obtain ⟨y, hy, hne⟩ := h
  refine opn_lt hf hy hx fun e => hne ?_
  unfold updC at e
  rw [if_pos ⟨rfl, hy⟩] at e
  exact e.symm
theorem Vld.rowR {n m : Nat} {c : Pic} (h : Vld n m c) {y : Nat} (hy : y < n) : ∀ j, j < m → (rowL m c y)[j]?.getD 0 = -1 ∨ 0 ≤ (rowL m c y)[j]?.getD 0 := fun j hj => by
  rw [rowL_at c y hj]
  have := h y j hy hj
  simp only [Option.getD_some]; omega
theorem Vld.colR {n m : Nat} {c : Pic} (h : Vld n m c) {x : Nat} (hx : x < m) : ∀ j, j < n → (colL n c x)[j]?.getD 0 = -1 ∨ 0 ≤ (colL n c x)[j]?.getD 0 := fun j hj => by
  rw [colL_at c x hj]
  have := h j x hj hx
  simp only [Option.getD_some]; omega
end Go.Proofs.Ytkklcfaghnfleaa
