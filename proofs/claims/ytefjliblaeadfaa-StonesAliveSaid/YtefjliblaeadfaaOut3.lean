/- A box of three cells that a drawn region makes, before or behind a call; no conditions. -/
import Derived.Test.YtefjliblaeadfaaGrd
namespace Go.Proofs.Ytefjliblaeadfaa
open Go.RowKit

theorem cell3_ne {w : World} {g b : Nat} (i : Nat) (h : g ≠ b) (x y z : Value) : (((w.setCell ⟨b, 0, none⟩ x).setCell ⟨b, 1, none⟩ y).setCell ⟨b, 2, none⟩ z).cell? ⟨g, i, none⟩ = w.cell? ⟨g, i, none⟩ := by
  refine World.cell?_of_block (a := ⟨g, i, none⟩) ?_
  rw [wset_ne _ _ h, wset_ne _ _ h, wset_ne _ _ h]
/-- the box that was made. -/
def Out3 (W : World) (x y z : Value) (g n : Nat) (xs : List Int) (v : Value) (wx : World) : Prop := Below W.heap.size W wx ∧ (∃ bb, v = .pointer (some ⟨bb, 0, none⟩) ∧ W.heap.size ≤ bb ∧ wx.heap[bb]? = some (.cells #[x, y, z] 24 (0, 0))) ∧ IntsIn wx (some ⟨g, 0, none⟩) n xs
theorem out3_new {W w6 : World} {x y z : Value} {g n : Nat} {xs : List Int} (hx : IntsIn w6 (some ⟨g, 0, none⟩) n xs) (hB : Below W.heap.size W w6) :
    Out3 W x y z g n xs (.pointer (some ⟨w6.heap.size, 0, none⟩)) (w6.alloc (.cells #[x, y, z] 24)) :=
  ⟨hB.alloc hB.size _, ⟨_, rfl, hB.size, heap_alloc_new w6 _⟩, hx.alloc _⟩
theorem out3_set {W w6 : World} {x y z x0 y0 z0 : Value} {g n : Nat} {xs : List Int} (hx : IntsIn w6 (some ⟨g, 0, none⟩) n xs) (hB : Below W.heap.size W w6) (hg : g ≠ W.heap.size)
    (h8 : w6.heap[W.heap.size]? = some (.cells #[x0, y0, z0] 24 (0, 0))) :
    Out3 W x y z g n xs (.pointer (some ⟨W.heap.size, 0, none⟩)) (((w6.setCell ⟨W.heap.size, 0, none⟩ x).setCell ⟨W.heap.size, 1, none⟩ y).setCell ⟨W.heap.size, 2, none⟩ z) := by
  refine ⟨((hB.setCell (p := ⟨W.heap.size, 0, none⟩) (Nat.le_refl _) _).setCell (p := ⟨W.heap.size, 1, none⟩) (Nat.le_refl _) _).setCell (p := ⟨W.heap.size, 2, none⟩) (Nat.le_refl _) _, ⟨_, rfl, Nat.le_refl _, ?_⟩, ?_⟩
  · simpa using wset (wset (wset h8 0 x) 1 y) 2 z
  · refine hx.keep (by simp [World.setCell]) fun bb o e => ?_
    cases e
    rw [wset_ne _ _ hg, wset_ne _ _ hg, wset_ne _ _ hg]
/-- a box was made, whatever it holds. -/
def OutE (W : World) (v : Value) (wx : World) : Prop := Below W.heap.size W wx ∧ ∃ bb, v = .pointer (some ⟨bb, 0, none⟩)
theorem outE_new {W w6 : World} {o : Obj} (hB : Below W.heap.size W w6) : OutE W (.pointer (some ⟨w6.heap.size, 0, none⟩)) (w6.alloc o) := ⟨hB.alloc hB.size _, _, rfl⟩
theorem outE_set {W w6 : World} {x y z : Value} (hB : Below W.heap.size W w6) : OutE W (.pointer (some ⟨W.heap.size, 0, none⟩)) (((w6.setCell ⟨W.heap.size, 0, none⟩ x).setCell ⟨W.heap.size, 1, none⟩ y).setCell ⟨W.heap.size, 2, none⟩ z) :=
  ⟨((hB.setCell (p := ⟨W.heap.size, 0, none⟩) (Nat.le_refl _) _).setCell (p := ⟨W.heap.size, 1, none⟩) (Nat.le_refl _) _).setCell (p := ⟨W.heap.size, 2, none⟩) (Nat.le_refl _) _, _, rfl⟩
end Go.Proofs.Ytefjliblaeadfaa
