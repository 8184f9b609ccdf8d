/- Where stones.Play stands in memory between two moves; conditions: those typed. -/
import Derived.Test.YtefjliblaeadfaaAdd
import Derived.Test.YtefjliblaeadfaaKPl
import Derived.Test.YtefjliblaeadfaaPutX
namespace Go.Proofs.Ytefjliblaeadfaa
open Go.RowKit

theorem and_ones : ((List.range 201).all fun i => decide (bits BinOp.and IntKind.i64 (i : Int) 1 = ((i % 2 : Nat) : Int))) = true := by decide +kernel
theorem and_one {i : Nat} (h : i ≤ 200) : bits BinOp.and IntKind.i64 (i : Int) 1 = ((i % 2 : Nat) : Int) := of_decide_eq_true (List.all_eq_true.1 and_ones i (List.mem_range.2 (by omega)))
/-- where a play stands in memory: its board's box, the results' boxes, what was taken, the board's row, the map. -/
structure PlM (w W : World) (B g2 c2 mb a b n : Nat) (z : Ps) : Prop where
  bx : W.heap[B]? = some (.cells #[.int .i64 (a : Int), .int .i64 (b : Int), .slice (some ⟨g2, 0, none⟩) n c2] 24 (0, 0))
  r1 : W.heap[B + 1]? = some (.cells #[.int .i64 0, .int .i64 0, .slice none 0 0] 24 (0, 0))
  r2 : W.heap[B + 2]? = some (.cells #[.int .i64 0, .int .i64 0] 25 (0, 0))
  tk : W.heap[B + 3]? = some (.cells #[.int .i64 (z.t0 : Int), .int .i64 (z.t1 : Int)] 25 (0, 0))
  row : Own 3 (B + 4) W (some ⟨g2, 0, none⟩) n c2 (asI z.s)
  mp : SeenM n W mb z.ks
  mg : B + 4 ≤ mb
  bl : Below B w W
section
variable {w W W' : World} {B g2 c2 mb a b n : Nat} {z : Ps}
theorem PlM.below (h : PlM w W B g2 c2 mb a b n z) (hb : Below W.heap.size W W') (hB : B ≤ W.heap.size) : PlM w W' B g2 c2 mb a b n z :=
  ⟨(hb.block _ (lt_of_heap h.bx)).trans h.bx, (hb.block _ (lt_of_heap h.r1)).trans h.r1, (hb.block _ (lt_of_heap h.r2)).trans h.r2, (hb.block _ (lt_of_heap h.tk)).trans h.tk, h.row.below hb (Nat.le_refl _), h.mp.below hb, h.mg, h.bl.trans (hb.mono hB)⟩
theorem PlM.gne (h : PlM w W B g2 c2 mb a b n z) (hn : 0 < n) : g2 ≠ mb := by
  intro e
  have := Own.cell h.row (i := 0) hn
  rw [e] at this
  exact h.mp.notRow this
/-- the map alone was written: another list of boards in it. -/
theorem PlM.grown (h : PlM w W B g2 c2 mb a b n z) (hn : 0 < n) (hg : W.grownBy W' (some mb)) (hB : B ≤ W.heap.size) {ks : List (List Nat)} (hk : SeenM n W' mb ks) : PlM w W' B g2 c2 mb a b n { z with ks := ks } := by
  have hm := h.mg
  have hne := h.gne hn
  have ne : ∀ x, x < B + 4 → some x ≠ some mb := fun x hx e => by injection e with e; omega
  refine ⟨(hg.block _ (lt_of_heap h.bx) (ne _ (by omega))).trans h.bx, (hg.block _ (lt_of_heap h.r1) (ne _ (by omega))).trans h.r1, (hg.block _ (lt_of_heap h.r2) (ne _ (by omega))).trans h.r2, (hg.block _ (lt_of_heap h.tk) (ne _ (by omega))).trans h.tk, h.row.grown hg (fun x hx e => ?_), hk, hm, h.bl.grown hg hB fun k hk => ?_⟩
  · cases hx; injection e with e; exact hne e
  · injection hk with hk; omega
end
end Go.Proofs.Ytefjliblaeadfaa
