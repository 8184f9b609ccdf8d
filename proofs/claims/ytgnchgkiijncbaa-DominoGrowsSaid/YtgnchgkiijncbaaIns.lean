/- What slices.Insert of one piece at the head, and slices.Clone, compute at rows of pieces; conditions: a row of the call's own, the piece in another block. -/
import Derived.Test.YtgnchgkiijncbaaChn
import Derived.Lib.Overlaps
import Derived.Lib.AppendZeros
import Derived.Laws.IdiomCopy
import Derived.Laws.CopyOwn
import Derived.Deep.RegionLaw
namespace Go.Proofs.Ytgnchgkiijncbaa
open Go.RowKit

theorem run_copyK {P : Program} (w : World) (dT sT ty elem : TypeId) (k b o dLen dCap : Nat) (a : Addr) (sLen sCap n : Nat) (cs : List Value)
    (hu : P.underlying dT = some (.slice elem)) (hs : (P.info? elem).map (·.size) = some k) (hn : n = Nat.min sLen dLen) (hl0 : cs.length = n * k)
    (hsrc : ∀ j v, cs[j]? = some v → w.cell? (a.add j) = some v) (hc : ∀ j, j < cs.length → (w.cell? ⟨b, o + j, none⟩).isSome = true) (hf : ∀ j, j < cs.length → w.frozen? ⟨b, o + j, none⟩ = false) (h1 : ∀ v ∈ cs, v.oneCell' = true) :
    (Builtin.copy_ #[dT, sT] ty #[.slice (some ⟨b, o, none⟩) dLen dCap, .slice (some a) sLen sCap]).run P w = .ok (goInt n) (w.setCells b o cs) := by
  have hl := run_loadCells_list (P := P) w a cs hsrc
  have hst := run_storeCells_cells (P := P) b o cs 0 w (by simpa using hc) (by simpa using hf) h1
  rw [hl0] at hl
  cases hq : P.info? elem with
  | none => simp [hq] at hs
  | some i =>
    have hi : i.size = k := by simpa [hq] using hs
    simp [Builtin.copy_, run_underlying hu, Builtin.lenOf, Builtin.firstCells, sizeOf, typeInfo, hq, hi, ← hn, hl, hst]
theorem wpList_copy_runK {P : Program} (w : World) {ops : Array Oper} {rest : List Oper} {o : Oper} {a : Act} {Q : Exit → Act → World → Prop} (hgd : o.guard = none) (d s : Operand) (t t' : TypeId)
    (ho : o.op = .call { callee := .builtin .copy, args := #[d, s], argTypes := #[t, t'] }) (v u : Value) (hd : a.eval d = v) (hs : a.eval s = u) {v' : Value} {w' : World}
    (hr : (Builtin.copy_ #[t, t'] o.type #[v, u]).run P w = .ok v' w') (h : wpList P ops Q rest (a.put o.dst v') w') : wpList P ops Q (o :: rest) a w :=
  wpList_plain hgd fun K hK => by
    unfold Oper.wp execOp
    simp only [ho, resolve, invoke, builtin, Sem.run_bind, Sem.run_pure, Result.andThen_ok, List.map_toArray, List.map_cons, List.map_nil, hd, hs, hr]
    exact hK _ _ h
theorem step_copy_runK {P : Program} {ops : Array Oper} {o : Oper} {a : Act} {w : World} {K : Act → World → Prop} {Q : Exit → Act → World → Prop} {E : Prop}
    (hg : o.guard = none) (d x : Operand) (dT sT : TypeId) (hop : o.op = Op.call { callee := Callee.builtin Builtin.copy, args := #[d, x], argTypes := #[dT, sT] })
    (v u : Value) (hd : a.eval d = v) (hx : a.eval x = u) {v' : Value} {w' : World} (hr : (Builtin.copy_ #[dT, sT] o.type #[v, u]).run P w = .ok v' w') (hK : K (a.put o.dst v') w') :
    if Region.wanted o (yielded ops a.tmps) = true then Oper.wp P o a w K Q else E := by
  have hw : Region.wanted o (yielded ops a.tmps) = true := by simp [Region.wanted, hg]
  rw [if_pos hw]
  unfold Oper.wp
  simp [execOp, hop, resolve, invoke, builtin, hd, hx, hr, Result.andThen]
  exact hK
theorem setCells_size (g : Nat) : ∀ (vs : List Value) (o : Nat) (w : World), (w.setCells g o vs).heap.size = w.heap.size
  | [], _, _ => rfl
  | v :: r, o, w => by rw [World.setCells, setCells_size g r]; simp [World.setCell]
theorem below_setCells {B g : Nat} (hg : B ≤ g) : ∀ (vs : List Value) (o : Nat) (w : World), Below B w (w.setCells g o vs)
  | [], _, w => Below.refl _ _
  | v :: r, o, w => by rw [World.setCells]; exact ((Below.refl B w).setCell (p := ⟨g, o, none⟩) hg v).trans (below_setCells hg r (o + 1) _)
theorem drew_setCells (b : Nat) : ∀ (vs : List Value) (o : Nat) (w : World), (w.setCells b o vs).drew = w.drew.setCells b o vs
  | [], _, _ => rfl
  | v :: r, o, w => by rw [World.setCells, World.setCells, drew_setCells b r]; rfl
theorem isSome_setCells (b : Nat) (vs : List Value) (o : Nat) (w : World) (h : ∀ j, j < vs.length → (w.cell? ⟨b, o + j, none⟩).isSome = true) (k : Nat) (hk : (w.cell? ⟨b, k, none⟩).isSome = true) : ((w.setCells b o vs).cell? ⟨b, k, none⟩).isSome = true := by
  by_cases hin : o ≤ k ∧ k < o + vs.length
  · have := World.cell?_setCells_in b vs o w h (k - o) (by omega)
    rw [show o + (k - o) = k by omega] at this
    rw [this]; rfl
  · rw [World.cell?_setCells_out b vs o w ⟨b, k, none⟩ (fun _ _ => by show k < o ∨ o + vs.length ≤ k; omega)]
    exact hk
theorem pin_of {W : World} {g B : Nat} {ps : List Piece} (hB : g < B) (hg : g < W.heap.size) (h : ∀ j, j < ps.length * 2 → W.cell? ⟨g, j, none⟩ = (flat ps)[j]?) : PIn B W (some ⟨g, 0, none⟩) ps.length ps := by
  refine ⟨rfl, fun i hi => ⟨g, rfl, hB, hg, ?_, ?_⟩⟩
  · rw [h _ (by omega)]; exact (flat_at ps i hi).1
  · rw [h _ (by omega)]; exact (flat_at ps i hi).2
/-- the head stored, and the rest behind it, in whatever order. -/
theorem splice_cells {W : World} {g n : Nat} {cs : List Piece} (x : Piece) (hl : cs.length = n) (hs : ∀ j, j < (n + 1) * 2 → (W.cell? ⟨g, j, none⟩).isSome = true) (j : Nat) (hj : j < (n + 1) * 2) :
    ((W.setCells g 2 (flat cs)).setCells g 0 (flat [x])).cell? ⟨g, j, none⟩ = (flat (x :: cs))[j]? ∧ ((W.setCells g 0 (flat [x])).setCells g 2 (flat cs)).cell? ⟨g, j, none⟩ = (flat (x :: cs))[j]? := by
  have hf : flat (x :: cs) = flat [x] ++ flat cs := rfl
  have hfl := flat_len cs
  have hf1 : (flat [x]).length = 2 := rfl
  have s1 : ∀ j, j < (flat cs).length → (W.cell? ⟨g, 2 + j, none⟩).isSome = true := fun j h => hs _ (by omega)
  have s2 : ∀ j, j < (flat [x]).length → (W.cell? ⟨g, 0 + j, none⟩).isSome = true := fun j h => hs _ (by omega)
  have s3 : ∀ j, j < (flat [x]).length → ((W.setCells g 2 (flat cs)).cell? ⟨g, 0 + j, none⟩).isSome = true := fun j h => isSome_setCells g _ _ _ s1 _ (s2 j h)
  have s4 : ∀ j, j < (flat cs).length → ((W.setCells g 0 (flat [x])).cell? ⟨g, 2 + j, none⟩).isSome = true := fun j h => isSome_setCells g _ _ _ s2 _ (s1 j h)
  by_cases h2 : j < 2
  · constructor
    · have := World.cell?_setCells_in g (flat [x]) 0 (W.setCells g 2 (flat cs)) s3 j (by omega)
      rw [Nat.zero_add] at this
      rw [this, hf, List.getElem?_append_left (by omega), List.getElem?_eq_getElem (by omega)]
    · rw [World.cell?_setCells_out g _ _ _ _ (fun _ _ => .inl (by simp only; omega))]
      have := World.cell?_setCells_in g (flat [x]) 0 W s2 j (by omega)
      rw [Nat.zero_add] at this
      rw [this, hf, List.getElem?_append_left (by omega), List.getElem?_eq_getElem (by omega)]
  · constructor
    · rw [World.cell?_setCells_out g _ _ _ _ (fun _ _ => .inr (by simp only; omega))]
      have := World.cell?_setCells_in g (flat cs) 2 W s1 (j - 2) (by omega)
      rw [show 2 + (j - 2) = j by omega] at this
      rw [this, hf, List.getElem?_append_right (by omega), hf1, List.getElem?_eq_getElem (by omega)]
    · have := World.cell?_setCells_in g (flat cs) 2 (W.setCells g 0 (flat [x])) s4 (j - 2) (by omega)
      rw [show 2 + (j - 2) = j by omega] at this
      rw [this, hf, List.getElem?_append_right (by omega), hf1, List.getElem?_eq_getElem (by omega)]
end Go.Proofs.Ytgnchgkiijncbaa
