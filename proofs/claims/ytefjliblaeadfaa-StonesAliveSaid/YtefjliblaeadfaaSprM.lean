/- Where stones.spread stands in memory between two rounds; conditions: those typed. -/
import Derived.Test.YtefjliblaeadfaaNear
import Derived.Test.YtefjliblaeadfaaSrt
import Derived.Deep.RegionHeld3
namespace Go.Proofs.Ytefjliblaeadfaa
open Go.RowKit

theorem run_mkb (n : Nat) (hn : n ≤ 1000) (w : World) : (Instr.makeSlice 52 (.int .i64 (n : Int)) (.int .i64 (n : Int))).run Try.prog w = .ok (.slice (some ⟨w.heap.size, 0, none⟩) n n) (w.alloc (.cells (Array.replicate n (.bool false)) 4)) := by
  obtain ⟨i0, hi, hz0, hz1, hz2⟩ := info_parts (show (Try.prog.info? 4).map (fun i => (i.zero, i.size, i.bytes)) = some (some (.bool false), 1, 1) by kernel_rfl)
  have hrun := run_make (P := Try.prog) w 52 4 i0 (.bool false) Try.underlying52 hi hz0 .i64 .i64 n n (by omega) (by omega) (by rw [hz2]; omega) (by omega)
  simp only [Int.toNat_natCast] at hrun
  rw [hrun]
  congr 3
  simp only [madeCells, Value.cells, hz1, Nat.mul_one]
  apply Array.ext
  · simp
  · intro i h1 h2
    simp [Nat.mod_one]
/-- the cells of a row of marks. -/
def Bls (w : World) (g : Nat) (u : List Bool) : Prop := w.heap[g]? = some (.cells (u.map Value.bool).toArray 4 (0, 0))
theorem Bls.cell {w : World} {g : Nat} {u : List Bool} (h : Bls w g u) {i : Nat} (hi : i < u.length) : w.cell? ⟨g, i, none⟩ = some (.bool (bAt u i)) := by
  rw [wcell h i, List.getElem?_map, List.getElem?_eq_getElem hi]; unfold bAt; rw [List.getElem?_eq_getElem hi]; rfl
theorem Bls.set {w : World} {g : Nat} {u : List Bool} (h : Bls w g u) (i : Nat) : Bls (w.setCell ⟨g, i, none⟩ (.bool true)) g (u.set i true) := by
  unfold Bls
  rw [wset h i, List.map_set]; simp
/-- where a spread stands in memory. -/
structure SpM (w W : World) (B : Nat) (z : Sp) (v6 v7 : Value) (a b n c : Nat) (q : Option Addr) : Prop where
  i6 : ∃ p6 c6, v6 = .slice p6 z.inn.length c6 ∧ Own 3 (B + 2) W p6 z.inn.length c6 (asI z.inn) ∧ ∃ p7 c7, v7 = .slice p7 z.bd.length c7 ∧ Own 3 (B + 2) W p7 z.bd.length c7 (asI z.bd) ∧ ∀ x y, p6 = some x → p7 = some y → x.block ≠ y.block
  sn : Bls W (B + 1) z.seen
  bx : W.heap[B]? = some (.cells #[.int .i64 (a : Int), .int .i64 (b : Int), .slice q n c] 24 (0, 0))
  bl : Below B w W
theorem SpM.below {w W W' : World} {B : Nat} {z : Sp} {v6 v7 : Value} {a b n c : Nat} {q : Option Addr} (h : SpM w W B z v6 v7 a b n c q) (hb : Below W.heap.size W W') (hB : B ≤ W.heap.size) : SpM w W' B z v6 v7 a b n c q := by
  obtain ⟨p6, c6, e6, h6, p7, c7, e7, h7, hne⟩ := h.i6
  exact ⟨⟨p6, c6, e6, h6.below hb (Nat.le_refl _), p7, c7, e7, h7.below hb (Nat.le_refl _), hne⟩, (hb.block _ (lt_of_heap h.sn)).trans h.sn, (hb.block _ (lt_of_heap h.bx)).trans h.bx, h.bl.trans (hb.mono hB)⟩
theorem SpM.mark {w W : World} {B : Nat} {z : Sp} {v6 v7 : Value} {a b n c : Nat} {q : Option Addr} (h : SpM w W B z v6 v7 a b n c q) (t : Nat) : SpM w (W.setCell ⟨B + 1, t, none⟩ (.bool true)) B ⟨z.seen.set t true, z.inn, z.bd⟩ v6 v7 a b n c q := by
  obtain ⟨p6, c6, e6, h6, p7, c7, e7, h7, hne⟩ := h.i6
  refine ⟨⟨p6, c6, e6, h6.keep fun x hx => Below.heap_setCell W _ _ _ (by have := (h6.block x hx).1; simp; omega), p7, c7, e7, h7.keep fun x hx => Below.heap_setCell W _ _ _ (by have := (h7.block x hx).1; simp; omega), hne⟩, h.sn.set t, (Below.heap_setCell W _ _ _ (by simp)).trans h.bx, h.bl.setCell (p := ⟨B + 1, t, none⟩) (by simp) _⟩
/-- a number more in the first row. -/
theorem SpM.push6 {w W W' : World} {B : Nat} {z : Sp} {p6 p7 p' : Option Addr} {c6 c7 c' m t : Nat} {v7 : Value} {a b n c : Nat} {q : Option Addr} (h6 : Own 3 (B + 2) W p6 z.inn.length c6 (asI z.inn)) (h7 : Own 3 (B + 2) W p7 z.bd.length c7 (asI z.bd)) (e7 : v7 = .slice p7 z.bd.length c7)
    (hne : ∀ x y, p6 = some x → p7 = some y → x.block ≠ y.block) (sn : Bls W (B + 1) z.seen) (bx : W.heap[B]? = some (.cells #[.int .i64 (a : Int), .int .i64 (b : Int), .slice q n c] 24 (0, 0))) (bl : Below B w W) (hm : m = z.inn.length + 1)
    (hO : Own 3 (B + 2) W' p' m c' (asI z.inn ++ [(t : Int)])) (hg : W.grownBy W' (p6.map (·.block))) (hr : p'.map (·.block) = p6.map (·.block) ∨ ∀ x, p' = some x → W.heap.size ≤ x.block) (hB : B ≤ W.heap.size) : SpM w W' B ⟨z.seen, z.inn ++ [t], z.bd⟩ (.slice p' m c') v7 a b n c q := by
  subst hm; subst e7
  have e : asI (z.inn ++ [t]) = asI z.inn ++ [(t : Int)] := by simp [asI]
  refine ⟨⟨p', c', by simp, by rw [e, List.length_append]; exact hO, p7, c7, rfl, h7.grown hg fun x hx e2 => ?_, fun x y hx hy => ?_⟩, (hg.block _ (lt_of_heap sn) (Own.apart h6 _ (by omega))).trans sn, (hg.block _ (lt_of_heap bx) (Own.apart h6 _ (by omega))).trans bx, bl.grown hg hB fun k hk => ?_⟩
  · cases p6 with
    | none => cases e2
    | some y => simp at e2; exact hne y x rfl hx e2.symm
  · rcases hr with h | h
    · subst hx; subst hy
      cases p6 with
      | none => simp at h
      | some z6 => simp at h; rw [h]; exact hne z6 y rfl rfl
    · have := h x hx; have := (h7.block y hy).2; omega
  · cases p6 with
    | none => cases hk
    | some y => simp at hk; subst hk; have := (h6.block y rfl).1; omega
theorem SpM.push7 {w W W' : World} {B : Nat} {z : Sp} {p6 p7 p' : Option Addr} {c6 c7 c' m t : Nat} {v6 : Value} {a b n c : Nat} {q : Option Addr} (h6 : Own 3 (B + 2) W p6 z.inn.length c6 (asI z.inn)) (h7 : Own 3 (B + 2) W p7 z.bd.length c7 (asI z.bd)) (e6 : v6 = .slice p6 z.inn.length c6)
    (hne : ∀ x y, p6 = some x → p7 = some y → x.block ≠ y.block) (sn : Bls W (B + 1) z.seen) (bx : W.heap[B]? = some (.cells #[.int .i64 (a : Int), .int .i64 (b : Int), .slice q n c] 24 (0, 0))) (bl : Below B w W) (hm : m = z.bd.length + 1)
    (hO : Own 3 (B + 2) W' p' m c' (asI z.bd ++ [(t : Int)])) (hg : W.grownBy W' (p7.map (·.block))) (hr : p'.map (·.block) = p7.map (·.block) ∨ ∀ x, p' = some x → W.heap.size ≤ x.block) (hB : B ≤ W.heap.size) : SpM w W' B ⟨z.seen, z.inn, z.bd ++ [t]⟩ v6 (.slice p' m c') a b n c q := by
  subst hm; subst e6
  have e : asI (z.bd ++ [t]) = asI z.bd ++ [(t : Int)] := by simp [asI]
  refine ⟨⟨p6, c6, rfl, h6.grown hg fun x hx e2 => ?_, p', c', by simp, by rw [e, List.length_append]; exact hO, fun x y hx hy => ?_⟩, (hg.block _ (lt_of_heap sn) (Own.apart h7 _ (by omega))).trans sn, (hg.block _ (lt_of_heap bx) (Own.apart h7 _ (by omega))).trans bx, bl.grown hg hB fun k hk => ?_⟩
  · cases p7 with
    | none => cases e2
    | some y => simp at e2; exact hne x y hx rfl e2
  · rcases hr with h | h
    · subst hx; subst hy
      cases p7 with
      | none => simp at h
      | some z7 => simp at h; rw [h]; exact hne x z7 rfl rfl
    · have := h y hy; have := (h6.block x hx).2; omega
  · cases p7 with
    | none => cases hk
    | some y => simp at hk; subst hk; have := (h7.block y rfl).1; omega

/-- the row of neighbours lies apart from all that is written. -/
def NLk (w3 W : World) (B : Nat) (q' : Option Addr) (v6 v7 : Value) : Prop := ∀ y, q' = some y → W.heap[y.block]? = w3.heap[y.block]? ∧ v6.ownBlock ≠ some y.block ∧ v7.ownBlock ≠ some y.block ∧ y.block < w3.heap.size ∧ y.block ≠ B + 1
theorem NLk.own {w3 W : World} {B BL n c : Nat} {q' : Option Addr} {v6 v7 : Value} {xs : List Int} (h : NLk w3 W B q' v6 v7) (hO : Own 3 BL w3 q' n c xs) : Own 3 BL W q' n c xs := hO.keep fun y hy => (h y hy).1
theorem NLk.set {w3 W : World} {B t : Nat} {q' : Option Addr} {v6 v7 : Value} (h : NLk w3 W B q' v6 v7) : NLk w3 (W.setCell ⟨B + 1, t, none⟩ (.bool true)) B q' v6 v7 := fun y hy =>
  ⟨(Below.heap_setCell W _ _ _ (h y hy).2.2.2.2).trans (h y hy).1, (h y hy).2⟩
theorem ob_slice (p : Option Addr) (n c : Nat) : (Value.slice p n c).ownBlock = p.map (·.block) := by cases p <;> rfl
theorem NLk.push {w3 W W' : World} {B : Nat} {q' p p' : Option Addr} {n c n' c' : Nat} {v6 v7 : Value} (h : NLk w3 W B q' v6 v7) (hz : w3.heap.size ≤ W.heap.size) (hv : v6 = .slice p n c ∨ v7 = .slice p n c) (hg : W.grownBy W' (p.map (·.block))) (hr : p'.map (·.block) = p.map (·.block) ∨ ∀ x, p' = some x → W.heap.size ≤ x.block) :
    ∀ y, q' = some y → W'.heap[y.block]? = w3.heap[y.block]? ∧ (Value.slice p' n' c').ownBlock ≠ some y.block := fun y hy => by
  obtain ⟨h1, h2, h3, h4, h5⟩ := h y hy
  have hp : p.map (·.block) ≠ some y.block := by
    rcases hv with e | e
    · rw [e, ob_slice] at h2; exact h2
    · rw [e, ob_slice] at h3; exact h3
  refine ⟨(hg.block _ (by omega) (fun e => hp e.symm)).trans h1, ?_⟩
  rw [ob_slice]
  rcases hr with e | e
  · rw [e]; exact hp
  · intro e2
    cases p' with
    | none => cases e2
    | some x => have := e x rfl; simp at e2; omega
end Go.Proofs.Ytefjliblaeadfaa
