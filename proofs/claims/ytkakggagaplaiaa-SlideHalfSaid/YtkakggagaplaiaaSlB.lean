/- Boxes of a board that a drawn region makes, before or behind a call; a board behind a move or an exchange; no conditions but those that stand in each. -/
import Derived.Test.YtkakggagaplaiaaSlT
import Derived.BigRegion
namespace Go.Proofs.Ytkakggagaplaiaa
open Go.RowKit

def Bw (w X : World) : Prop := Below w.heap.size w X
theorem Bw.refl (w : World) : Bw w w := Below.refl _ _
theorem Bw.trans {a b c : World} (h : Bw a b) (k : Bw b c) : Bw a c := Below.trans h (Below.mono k (Below.size h))
theorem Bw.alloc {w X : World} (h : Bw w X) (o : Obj) : Bw w (X.alloc o) := Below.alloc h (Below.size h) o
theorem Bw.drew {w X : World} (h : Bw w X) : Bw w X.drew := Below.drew h
theorem cell3_ne {w : World} {g b : Nat} (i : Nat) (h : g ≠ b) (x y z : Value) : (((w.setCell ⟨b, 0, none⟩ x).setCell ⟨b, 1, none⟩ y).setCell ⟨b, 2, none⟩ z).cell? ⟨g, i, none⟩ = w.cell? ⟨g, i, none⟩ := by
  refine World.cell?_of_block (a := ⟨g, i, none⟩) ?_
  rw [wset_ne _ _ h, wset_ne _ _ h, wset_ne _ _ h]
/-- a box of a board that was made. -/
def BoxR (W : World) (a b n : Nat) (t : List Nat) (v : Value) (X : World) : Prop := ∃ bb p c, v = .pointer (some ⟨bb, 0, none⟩) ∧ X.heap[bb]? = some (.cells #[.int .i64 (a : Int), .int .i64 (b : Int), .slice p n c] 39 (0, 0)) ∧ IntsIn X p n (asI t) ∧ n ≤ c ∧ Bw W X
theorem box_new {W w8 : World} {a b n c : Nat} {t : List Nat} {p : Option Addr} (hx : IntsIn w8 p n (asI t)) (hnc : n ≤ c) (hB : Bw W w8) :
    BoxR W a b n t (.pointer (some ⟨w8.heap.size, 0, none⟩)) (w8.alloc (.cells #[.int .i64 (a : Int), .int .i64 (b : Int), .slice p n c] 39)) :=
  ⟨_, _, c, rfl, heap_alloc_new w8 _, hx.alloc _, hnc, hB.alloc _⟩
theorem box_set {W w8 : World} {a b n c bb : Nat} {t : List Nat} {p : Option Addr} {x0 y0 z0 : Value} (hx : IntsIn w8 p n (asI t)) (hnc : n ≤ c) (hB : Bw W w8) (h8 : w8.heap[bb]? = some (.cells #[x0, y0, z0] 39 (0, 0))) (hbb : W.heap.size ≤ bb) (hf : ∀ x, p = some x → bb < x.block) :
    BoxR W a b n t (.pointer (some ⟨bb, 0, none⟩)) (((w8.setCell ⟨bb, 0, none⟩ (.int .i64 (a : Int))).setCell ⟨bb, 1, none⟩ (.int .i64 (b : Int))).setCell ⟨bb, 2, none⟩ (.slice p n c)) := by
  refine ⟨bb, p, c, rfl, ?_, ?_, hnc, ?_⟩
  · simp [World.setCell, Array.getElem?_modify, h8]
  · refine hx.keep (by simp [World.setCell]) fun b' o' e => ?_
    have hne : b' ≠ bb := by have := hf _ e; simp at this; omega
    rw [wset_ne _ _ hne, wset_ne _ _ hne, wset_ne _ _ hne]
  · exact ((Below.setCell hB (p := ⟨bb, 0, none⟩) hbb _).setCell (p := ⟨bb, 1, none⟩) hbb _).setCell (p := ⟨bb, 2, none⟩) hbb _
/-- what a move makes. -/
theorem mv_cases {a b n d : Nat} {l : List Nat} (ha : 2 ≤ a) (ha3 : a ≤ 3) (hb : 2 ≤ b) (hb3 : b ≤ 3) (hn : n = a * b) (hl : IsOrd n l) (hd : d < 4) :
    ((mvS a b l d).2.1 = 0 ∧ (mvS a b l d).2.2 = 8) ∨ ((mvS a b l d).2.1 = 1 ∧ (mvS a b l d).2.2 = 0 ∧ IsOrd n (mvS a b l d).1 ∧ canS a b (mvS a b l d).1 = canS a b l) := by
  subst hn
  have hn0 : 0 < a * b := Nat.mul_pos (by omega) (by omega)
  unfold mvS
  rcases hf : frm a b (ixN l 0) d with _ | k
  · exact .inl ⟨rfl, rfl⟩
  · obtain ⟨h1, h2⟩ := q_move ha ha3 hb hb3 hl rfl hd hf
    refine .inr ⟨rfl, rfl, h1, ?_⟩
    rw [can_q h1 hn0, can_q hl hn0, h2]
/-- what an exchange of two stones makes. -/
theorem exc_can {a b n i j : Nat} {l : List Nat} (ha3 : a ≤ 3) (hb3 : b ≤ 3) (hn : n = a * b) (hn0 : 0 < n) (hl : IsOrd n l) (hi : i < n) (hj : j < n) (hne : i ≠ j) (h1 : st l i ≠ 0) (h2 : st l j ≠ 0) :
    IsOrd n (exc l i j) ∧ canS a b (exc l i j) = !canS a b l := by
  subst hn
  have h9 : a * b ≤ 9 := by have := Nat.mul_le_mul ha3 hb3; omega
  have ho := exc_ord hl hi hj hne
  refine ⟨ho, ?_⟩
  rw [can_q ho hn0, can_q hl hn0, q_stones h9 hl hi hj hne h1 h2]
  rcases q_pm a b l with h | h <;> rw [h] <;> rfl
end Go.Proofs.Ytkakggagaplaiaa
