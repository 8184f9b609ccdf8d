/- What gameroomkeep.CribKept computes: true; conditions: the numbers fit their kind. -/
import Derived.Test.YtkakggagaplaiaaCrK
import Derived.Test.YtkakggagaplaiaaHnd
namespace Go.Proofs.Ytkakggagaplaiaa
open Go.RowKit

/-- which of six are neither x nor y. -/
def rst (x y j : Nat) : List Nat := (List.range j).filter fun i => i != x && i != y
def rstOk : Bool := (List.range 6).all fun x => (List.range 6).all fun y => x == y ||
  (decide ((rst x y 6) = [st (rst x y 6) 0, st (rst x y 6) 1, st (rst x y 6) 2, st (rst x y 6) 3]) && decide (st (rst x y 6) 0 < st (rst x y 6) 1) && decide (st (rst x y 6) 1 < st (rst x y 6) 2) && decide (st (rst x y 6) 2 < st (rst x y 6) 3) && decide (st (rst x y 6) 3 < 6))
theorem rst_ok : rstOk = true := by decide +kernel
theorem rst_at {x y : Nat} (hx : x < 6) (hy : y < 6) (hne : x ≠ y) : ∃ a b c d, rst x y 6 = [a, b, c, d] ∧ a < b ∧ b < c ∧ c < d ∧ d < 6 := by
  have h := rst_ok
  unfold rstOk at h
  rw [List.all_eq_true] at h
  have h1 := h x (by simpa using hx)
  rw [List.all_eq_true] at h1
  have h2 := h1 y (by simpa using hy)
  simp only [Bool.or_eq_true, beq_iff_eq, Bool.and_eq_true, decide_eq_true_eq] at h2
  rcases h2 with h2 | h2
  · exact absurd h2 hne
  · exact ⟨_, _, _, _, h2.1.1.1.1, h2.1.1.1.2, h2.1.1.2, h2.1.2, h2.2⟩
theorem rst_succ (x y j : Nat) : rst x y (j + 1) = rst x y j ++ if j ≠ x ∧ j ≠ y then [j] else [] := by
  unfold rst
  rw [List.range_succ, List.filter_append]
  congr 1
  by_cases h : j ≠ x ∧ j ≠ y
  · rw [if_pos h]; simp [h]
  · rw [if_neg h]
    simp only [List.filter_cons, List.filter_nil]
    rw [if_neg]
    simpa using h
theorem rst_le (x y j : Nat) : (rst x y j).length ≤ j := Nat.le_trans (List.length_filter_le _ _) (by simp)
/-- is a card among the first j. -/
def ij (h : List Nat) (s : Nat) : Nat → Bool
  | 0 => false
  | j + 1 => ij h s j || decide (st h j = s)
theorem ij_spec (h : List Nat) (s : Nat) : ∀ j, ij h s j = true ↔ ∃ i, i < j ∧ st h i = s
  | 0 => by simp [ij]
  | j + 1 => by
    rw [ij, Bool.or_eq_true, ij_spec h s j, decide_eq_true_eq]
    constructor
    · rintro (⟨i, h1, h2⟩ | h1)
      · exact ⟨i, by omega, h2⟩
      · exact ⟨j, by omega, h1⟩
    · rintro ⟨i, h1, h2⟩
      by_cases e : i = j
      · right; rw [← e]; exact h2
      · left; exact ⟨i, by omega, h2⟩
theorem inB_iff (h : List Nat) (s : Nat) : inB h s = true ↔ s ∈ h := by
  unfold inB asI
  rw [List.contains_iff_mem, List.mem_map]
  constructor
  · rintro ⟨x, hx, he⟩
    have : x = s := by omega
    rw [← this]; exact hx
  · intro hx; exact ⟨s, hx, rfl⟩
theorem ij_in {h : List Nat} {n : Nat} (hl : h.length = n) (s : Nat) : ij h s n = inB h s := by
  rw [Bool.eq_iff_iff, ij_spec, inB_iff]
  constructor
  · rintro ⟨i, h1, rfl⟩; exact st_mem (by omega)
  · intro hm
    obtain ⟨i, hi, rfl⟩ := List.mem_iff_getElem.1 hm
    exact ⟨i, by omega, by unfold st; simp [hi]⟩
theorem st_inj {h : List Nat} (hd : h.Nodup) {i j : Nat} (hi : i < h.length) (hj : j < h.length) (e : st h i = st h j) : i = j := by
  unfold st at e
  rw [List.getElem?_eq_getElem hi, List.getElem?_eq_getElem hj] at e
  exact (List.getElem_inj hd).1 e
/-- four of six, and a start that is none of them. -/
theorem cb_good {h : List Nat} {a b c d s : Nat} (hl : h.length = 6) (hd : h.Nodup) (h52 : ∀ x ∈ h, x < 52) (k1 : a < b) (k2 : b < c) (k3 : c < d) (k4 : d < 6) (hs : s < 52) (hns : inB h s = false) :
    (∀ x ∈ cb h a b c d ++ [s], x < 52) ∧ (cb h a b c d ++ [s]).Nodup := by
  have hm : ∀ i, i < 6 → st h i ∈ h := fun i hi => st_mem (by omega)
  have hn : s ∉ h := fun hm => by rw [(inB_iff h s).2 hm] at hns; cases hns
  have hne : ∀ i j, i < 6 → j < 6 → i ≠ j → st h i ≠ st h j := fun i j hi hj e e2 => e (st_inj hd (by omega) (by omega) e2)
  have hsn : ∀ i, i < 6 → st h i ≠ s := fun i hi e => hn (e ▸ hm i hi)
  constructor
  · intro x hx
    simp only [cb, List.cons_append, List.nil_append, List.mem_cons, List.not_mem_nil, or_false] at hx
    rcases hx with rfl | rfl | rfl | rfl | rfl
    · exact h52 _ (hm a (by omega))
    · exact h52 _ (hm b (by omega))
    · exact h52 _ (hm c (by omega))
    · exact h52 _ (hm d (by omega))
    · exact hs
  · simp only [cb, List.cons_append, List.nil_append, List.nodup_cons, List.mem_cons, List.not_mem_nil, or_false, not_or, List.nodup_nil, and_true, not_false_eq_true]
    exact ⟨⟨hne a b (by omega) (by omega) (by omega), hne a c (by omega) (by omega) (by omega), hne a d (by omega) (by omega) (by omega), hsn a (by omega)⟩,
      ⟨hne b c (by omega) (by omega) (by omega), hne b d (by omega) (by omega) (by omega), hsn b (by omega)⟩, ⟨hne c d (by omega) (by omega) (by omega), hsn c (by omega)⟩, hsn d (by omega)⟩
end Go.Proofs.Ytkakggagaplaiaa
