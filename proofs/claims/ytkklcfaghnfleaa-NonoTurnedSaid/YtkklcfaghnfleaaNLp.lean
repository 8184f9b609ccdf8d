/- The plain part of the law NonoTurned; no conditions. -/
import Derived.Test.YtkklcfaghnfleaaNSv
import Derived.Test.YtkklcfaghnfleaaGrr
import Derived.Test.YtkklcfaghnfleaaSam
namespace Go.Proofs.Ytkklcfaghnfleaa
open Go.RowKit

def rowS (a : Nat) (G : List Nat) (y : Nat) : List Nat := (List.range a).map fun x => st G (y * a + x)
def colS (a : Nat) (G : List Nat) (x k : Nat) : List Nat := (List.range k).map fun y => st G (y * a + x)
theorem colS_succ (a : Nat) (G : List Nat) (x k : Nat) : asI (colS a G x (k + 1)) = asI (colS a G x k) ++ [((st G (k * a + x) : Nat) : Int)] := by
  unfold colS asI; rw [List.range_succ, List.map_append, List.map_append]; rfl
theorem rowS_len (a : Nat) (G : List Nat) (y : Nat) : (rowS a G y).length = a := by simp [rowS]
theorem colS_len (a : Nat) (G : List Nat) (x k : Nat) : (colS a G x k).length = k := by simp [colS]
theorem st_le {G : List Nat} (h : ∀ x ∈ G, x ≤ 1) (i : Nat) : st G i ≤ 1 := by
  unfold st
  by_cases hi : i < G.length
  · rw [List.getElem?_eq_getElem hi]; exact h _ (List.getElem_mem hi)
  · rw [List.getElem?_eq_none (by omega)]; exact Nat.zero_le _
theorem rowS_le {G : List Nat} (h : ∀ x ∈ G, x ≤ 1) (a y : Nat) : ∀ x ∈ rowS a G y, x ≤ 1 := fun x hx => by
  obtain ⟨i, _, rfl⟩ := List.mem_map.1 hx; exact st_le h _
theorem colS_le {G : List Nat} (h : ∀ x ∈ G, x ≤ 1) (a x k : Nat) : ∀ v ∈ colS a G x k, v ≤ 1 := fun v hv => by
  obtain ⟨i, _, rfl⟩ := List.mem_map.1 hv; exact st_le h _
def clR (a : Nat) (G : List Nat) (y : Nat) : List Nat := runs (rowS a G y)
def clC (a b : Nat) (G : List Nat) (x : Nat) : List Nat := runs (colS a G x b)
theorem clR_ok (a : Nat) (G : List Nat) (ha : a ≤ 20) (y : Nat) : (∀ k ∈ clR a G y, 1 ≤ k ∧ k ≤ 20) ∧ (clR a G y).length ≤ 20 := by
  have h := runs_le (rowS a G y)
  have h2 := (runs_sum (rowS a G y)).2
  rw [rowS_len] at h h2
  exact ⟨fun k hk => by have := h k hk; omega, by unfold clR; omega⟩
theorem clC_ok (a b : Nat) (G : List Nat) (hb : b ≤ 20) (x : Nat) : (∀ k ∈ clC a b G x, 1 ≤ k ∧ k ≤ 20) ∧ (clC a b G x).length ≤ 20 := by
  have h := runs_le (colS a G x b)
  have h2 := (runs_sum (colS a G x b)).2
  rw [colS_len] at h h2
  exact ⟨fun k hk => by have := h k hk; omega, by unfold clC; omega⟩
/-- a picture has its own clues. -/
theorem own_good {a b : Nat} {G : List Nat} (hl : G.length = b * a) (h : ∀ x ∈ G, x ≤ 1) : Good b a (clR a G) (clC a b G) (ofL a G) := by
  refine ⟨ofL_full (bitsL_mem.2 ⟨hl, h⟩), fun y hy => ?_, fun x hx => ?_⟩
  · have e : rowL a (ofL a G) y = bI (rowS a G y) := by unfold rowL bI rowS ofL; rw [List.map_map]; rfl
    rw [e]; unfold clR
    rw [runs_ways _ _ (Nat.le_refl _) (rowS_le h a y)]; exact Nat.le_refl _
  · have e : colL b (ofL a G) x = bI (colS a G x b) := by unfold colL bI colS ofL; rw [List.map_map]; rfl
    rw [e]; unfold clC
    rw [runs_ways _ _ (Nat.le_refl _) (colS_le h a x b)]; exact Nat.le_refl _
theorem countP_uniq {α : Type} {p : α → Bool} : ∀ {l : List α}, l.Nodup → l.countP p ≤ 1 → ∀ {x y : α}, x ∈ l → y ∈ l → p x = true → p y = true → x = y
  | [], _, _, x, _, hx, _, _, _ => by cases hx
  | a :: l, hn, hc, x, y, hx, hy, px, py => by
    rw [List.nodup_cons] at hn
    rw [List.countP_cons] at hc
    by_cases ha : p a = true
    · rw [if_pos ha] at hc
      have h0 : l.countP p = 0 := by omega
      rw [List.countP_eq_zero] at h0
      have key : ∀ z, z ∈ a :: l → p z = true → z = a := fun z hz pz => by
        rcases List.mem_cons.1 hz with h | h
        · exact h
        · exact absurd pz (h0 z h)
      rw [key x hx px, key y hy py]
    · have hx' : x ∈ l := by
        rcases List.mem_cons.1 hx with h | h
        · rw [h] at px; exact absurd px ha
        · exact h
      have hy' : y ∈ l := by
        rcases List.mem_cons.1 hy with h | h
        · rw [h] at py; exact absurd py ha
        · exact h
      exact countP_uniq hn.2 (by omega) hx' hy' px py
section
variable {a b : Nat} {G : List Nat} (hl : G.length = b * a) (h : ∀ x ∈ G, x ≤ 1)
include hl h
theorem law_pos : 1 ≤ cntP b a (clR a G) (clC a b G) open0 := cnt_pos (own_good hl h) fun y x hy hx => .inr ⟨rfl, (own_good hl h).1 y x hy hx⟩
theorem law_one {s : List Nat} (h1 : cntP b a (clR a G) (clC a b G) open0 ≤ 1) (hs : s ∈ bitsL (b * a)) (hv : slv b a (clR a G) (clC a b G) open0 s = true) : s = G := by
  have hG : G ∈ bitsL (b * a) := bitsL_mem.2 ⟨hl, h⟩
  refine countP_uniq (bitsL_nodup _) h1 hs hG hv ((slv_iff hG).2 ⟨own_good hl h, fun y x hy hx => .inr ⟨rfl, (own_good hl h).1 y x hy hx⟩⟩)
theorem law_at {c1 : Pic} (hS : Ps b a (clR a G) (clC a b G) open0 c1) {i : Nat} (hi : i < b * a) : (flatI b a c1)[i]?.getD 0 = -1 ∨ (flatI b a c1)[i]?.getD 0 = (st G i : Nat) := by
  unfold flatI
  rw [List.getElem?_map, List.getElem?_range hi]
  simp only [Option.map_some, Option.getD_some]
  obtain ⟨h1, h2⟩ := fx_lt hi
  have := hS.sol _ (own_good hl h) (fun y x hy hx => .inr ⟨rfl, (own_good hl h).1 y x hy hx⟩) _ _ h1 h2
  have e : ofL a G (i / a) (i % a) = (st G i : Nat) := by
    unfold ofL st
    rw [show i / a * a + i % a = i by rw [Nat.mul_comm]; exact Nat.div_add_mod i a]
  rw [e] at this
  rcases this with e2 | e2
  · exact .inr e2
  · exact .inl e2.1
omit hl h in
theorem law_known {c1 : Pic} (hS : Ps b a (clR a G) (clC a b G) open0 c1) (hL : LinesOk b a (clR a G) (clC a b G) c1) (hk : ∀ i, i < b * a → 0 ≤ (flatI b a c1)[i]?.getD 0) : cntP b a (clR a G) (clC a b G) open0 = 1 := by
  rw [cnt_same hS.rf hS.sol]
  refine cnt_full ⟨fun y x hy hx => ?_, hL⟩
  have := hk _ (fx_in hy hx)
  unfold flatI at this
  rw [List.getElem?_map, List.getElem?_range (fx_in hy hx)] at this
  simp only [Option.map_some, Option.getD_some, (fx_at hx).1, (fx_at hx).2] at this
  rcases hS.vld y x hy hx with e | e
  · omega
  · exact e
end
def rowsOf (R : Nat → List Nat) (j : Nat) : List (List Int) := (List.range j).map fun y => asI (R y)
theorem rowsOf_succ (R : Nat → List Nat) (j : Nat) : rowsOf R (j + 1) = rowsOf R j ++ [asI (R j)] := by
  unfold rowsOf; rw [List.range_succ, List.map_append]; rfl
theorem rowsOf_at (R : Nat → List Nat) {j y : Nat} (h : y < j) : (rowsOf R j)[y]? = some (asI (R y)) := by simp [rowsOf, h]
theorem flatI_len (n m : Nat) (c : Pic) : (flatI n m c).length = n * m := by simp [flatI]
end Go.Proofs.Ytkklcfaghnfleaa
