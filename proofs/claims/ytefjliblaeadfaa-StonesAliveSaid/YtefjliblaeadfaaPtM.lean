/- Where a list of parts of a board lies in memory; conditions: those typed. -/
import Derived.Test.YtefjliblaeadfaaBPl
import Derived.Test.YtefjliblaeadfaaAre
namespace Go.Proofs.Ytefjliblaeadfaa
open Go.RowKit

theorem elPt : ElT Try.prog 55 57 (.pointer none) 1 8 := ⟨by kernel_rfl, by kernel_rfl, rfl, by omega, by omega⟩
/-- a part's block, and its two rows, all in blocks from B to U, none of them block x. -/
def PtB (B U : Nat) (W : World) (x : Option Nat) (b : Nat) (P : Pt) (o : Bool) : Prop :=
  ∃ q1 c1 q2 c2, B ≤ b ∧ b < U ∧ some b ≠ x ∧ W.heap[b]? = some (.cells #[.slice q1 P.1.length c1, .slice q2 P.2.length c2, .bool o] 59 (0, 0)) ∧ IntsIn W q1 P.1.length (asI P.1) ∧ IntsIn W q2 P.2.length (asI P.2) ∧
    (∀ y, q1 = some y → 0 < P.1.length → B ≤ y.block ∧ y.block < U ∧ some y.block ≠ x) ∧ (∀ y, q2 = some y → 0 < P.2.length → B ≤ y.block ∧ y.block < U ∧ some y.block ≠ x)
/-- a list of parts. -/
structure PtsM (B U : Nat) (W : World) (p : Option Addr) (m c : Nat) (ps : List Pt) (bs : List Nat) (u : List Bool) : Prop where
  pl : ps.length = m
  bl : bs.length = m
  row : OwnC 57 1 B W p m c (bs.map fun b => Value.pointer (some ⟨b, 0, none⟩))
  pu : ∀ y, p = some y → y.block < U
  blk : ∀ i, i < m → PtB B U W (p.map (·.block)) (st bs i) (pAt ps i) (bAt u i)
  nd : ∀ i j, i < j → j < m → st bs i ≠ st bs j
theorem ints_keep0 {w w' : World} {q : Option Addr} {n : Nat} {xs : List Int} (h : IntsIn w q n xs) (hk : ∀ y, q = some y → 0 < n → w'.heap[y.block]? = w.heap[y.block]?) : IntsIn w' q n xs := by
  refine ⟨h.len, fun j hj => ?_⟩
  obtain ⟨b, o, e, h1, h2⟩ := h.2 j hj
  have hh := hk _ e (by omega)
  simp only at hh
  refine ⟨b, o, e, ?_, (World.cell?_of_block (a := ⟨b, o + j, none⟩) hh).trans h2⟩
  have : w'.heap[b]? = some w.heap[b] := by rw [hh, Array.getElem?_eq_getElem h1]
  exact lt_of_heap this
theorem PtB.keep {B U : Nat} {W W' : World} {x : Option Nat} {b : Nat} {P : Pt} {o : Bool} (h : PtB B U W x b P o) (hk : ∀ k, B ≤ k → k < U → some k ≠ x → W'.heap[k]? = W.heap[k]?) : PtB B U W' x b P o := by
  obtain ⟨q1, c1, q2, c2, h1, h2, h3, h4, h5, h6, h7, h8⟩ := h
  exact ⟨q1, c1, q2, c2, h1, h2, h3, (hk b h1 h2 h3).trans h4, ints_keep0 h5 fun y hy hn => hk _ (h7 y hy hn).1 (h7 y hy hn).2.1 (h7 y hy hn).2.2, ints_keep0 h6 fun y hy hn => hk _ (h8 y hy hn).1 (h8 y hy hn).2.1 (h8 y hy hn).2.2, h7, h8⟩
theorem PtB.mono {B U U' : Nat} {W : World} {x : Option Nat} {b : Nat} {P : Pt} {o : Bool} (h : PtB B U W x b P o) (hU : U ≤ U') : PtB B U' W x b P o := by
  obtain ⟨q1, c1, q2, c2, h1, h2, h3, h4, h5, h6, h7, h8⟩ := h
  exact ⟨q1, c1, q2, c2, h1, by omega, h3, h4, h5, h6, fun y hy hn => ⟨(h7 y hy hn).1, by have := (h7 y hy hn).2.1; omega, (h7 y hy hn).2.2⟩, fun y hy hn => ⟨(h8 y hy hn).1, by have := (h8 y hy hn).2.1; omega, (h8 y hy hn).2.2⟩⟩
/-- the same beside another block x, if that is new. -/
theorem PtB.other {B U : Nat} {W : World} {x x' : Option Nat} {b : Nat} {P : Pt} {o : Bool} (h : PtB B U W x b P o) (hx : x' = x ∨ ∀ k, x' = some k → U ≤ k) : PtB B U W x' b P o := by
  rcases hx with rfl | hx
  · exact h
  · obtain ⟨q1, c1, q2, c2, h1, h2, h3, h4, h5, h6, h7, h8⟩ := h
    have ne : ∀ k, k < U → some k ≠ x' := fun k hk e => by have := hx k e.symm; omega
    exact ⟨q1, c1, q2, c2, h1, h2, ne b h2, h4, h5, h6, fun y hy hn => ⟨(h7 y hy hn).1, (h7 y hy hn).2.1, ne _ (h7 y hy hn).2.1⟩, fun y hy hn => ⟨(h8 y hy hn).1, (h8 y hy hn).2.1, ne _ (h8 y hy hn).2.1⟩⟩
def isSl : Value → Bool | .slice _ _ _ => true | _ => false
section
variable {B U : Nat} {W W' : World} {p : Option Addr} {m c : Nat} {ps : List Pt} {bs : List Nat} {u : List Bool}
theorem PtsM.nil (B U : Nat) (W : World) (u : List Bool) : PtsM B U W none 0 0 [] [] u := ⟨rfl, rfl, OwnC.nil _ _ _ _, fun y e => (by cases e), fun i hi => (by omega), fun i j _ hj => (by omega)⟩
theorem PtsM.keep (h : PtsM B U W p m c ps bs u) (hk : ∀ k, B ≤ k → k < U → W'.heap[k]? = W.heap[k]?) : PtsM B U W' p m c ps bs u :=
  ⟨h.pl, h.bl, h.row.keep fun y hy => hk _ (h.row.block y hy).1 (h.pu y hy), h.pu, fun i hi => (h.blk i hi).keep fun k h1 h2 _ => hk k h1 h2, h.nd⟩
theorem PtsM.mono {U' : Nat} (h : PtsM B U W p m c ps bs u) (hU : U ≤ U') : PtsM B U' W p m c ps bs u :=
  ⟨h.pl, h.bl, h.row, fun y hy => by have := h.pu y hy; omega, fun i hi => (h.blk i hi).mono hU, h.nd⟩
theorem PtB.low {B B' : Nat} {x : Option Nat} {b : Nat} {P : Pt} {o : Bool} (h : PtB B U W x b P o) (hB : B' ≤ B) : PtB B' U W x b P o := by
  obtain ⟨q1, c1, q2, c2, h1, h2, h3, h4, h5, h6, h7, h8⟩ := h
  exact ⟨q1, c1, q2, c2, by omega, h2, h3, h4, h5, h6, fun y hy hn => ⟨by have := (h7 y hy hn).1; omega, (h7 y hy hn).2⟩, fun y hy hn => ⟨by have := (h8 y hy hn).1; omega, (h8 y hy hn).2⟩⟩
theorem PtsM.low {B' : Nat} (h : PtsM B U W p m c ps bs u) (hB : B' ≤ B) : PtsM B' U W p m c ps bs u :=
  ⟨h.pl, h.bl, h.row.mono hB, h.pu, fun i hi => (h.blk i hi).low hB, h.nd⟩
theorem pAt_snoc_lt (l : List Pt) (x : Pt) (i : Nat) (h : i < l.length) : pAt (l ++ [x]) i = pAt l i := by unfold pAt; rw [List.getElem?_append_left h]
theorem pAt_snoc (l : List Pt) (x : Pt) : pAt (l ++ [x]) l.length = x := by unfold pAt; simp
/-- a part is put to the list. -/
theorem PtsM.push {p' : Option Addr} {c' b : Nat} {P : Pt} (h : PtsM B U W p m c ps bs []) (hUb : U ≤ b) (hb : PtB B W.heap.size W (p.map (·.block)) b P false) (hU : U ≤ W.heap.size)
    (hO : OwnC 57 1 B W' p' (m + 1) c' ((bs.map fun b => Value.pointer (some ⟨b, 0, none⟩)) ++ [.pointer (some ⟨b, 0, none⟩)])) (hg : W.grownBy W' (p.map (·.block))) (hr : p'.map (·.block) = p.map (·.block) ∨ ∀ a', p' = some a' → W.heap.size ≤ a'.block) :
    PtsM B W'.heap.size W' p' (m + 1) c' (ps ++ [P]) (bs ++ [b]) [] := by
  have hx : p'.map (·.block) = p.map (·.block) ∨ ∀ k, p'.map (·.block) = some k → W.heap.size ≤ k := by
    rcases hr with h | h
    · exact .inl h
    · right
      intro k hk
      cases p' with
      | none => cases hk
      | some y => simp at hk; rw [← hk]; exact h y rfl
  have hkp : ∀ k, B ≤ k → k < W.heap.size → some k ≠ p.map (·.block) → W'.heap[k]? = W.heap[k]? := fun k _ h2 h3 => hg.block k h2 h3
  refine ⟨by simp [h.pl], by simp [h.bl], by simpa using hO, fun y hy => (hO.block y hy).2, fun i hi => ?_, fun i j hij hj => ?_⟩
  · by_cases e : i < m
    · rw [st_snoc_lt _ _ _ (by rw [h.bl]; exact e), pAt_snoc_lt _ _ _ (by rw [h.pl]; exact e)]
      exact ((((h.blk i e).mono hU).keep hkp).other hx).mono hg.size
    · have e : i = m := by omega
      rw [e]
      have e1 : st (bs ++ [b]) m = b := by rw [← h.bl]; exact st_snoc _ _
      have e2 : pAt (ps ++ [P]) m = P := by rw [← h.pl]; exact pAt_snoc _ _
      rw [e1, e2]
      exact ((hb.keep hkp).other hx).mono hg.size
  · by_cases e : j < m
    · rw [st_snoc_lt _ _ _ (by rw [h.bl]; omega), st_snoc_lt _ _ _ (by rw [h.bl]; exact e)]; exact h.nd i j hij e
    · have e : j = m := by omega
      rw [e, st_snoc_lt _ _ _ (by rw [h.bl]; omega)]
      have e1 : st (bs ++ [b]) m = b := by rw [← h.bl]; exact st_snoc _ _
      rw [e1]
      obtain ⟨_, _, _, _, _, h2, _⟩ := h.blk i (by omega)
      omega
theorem PtsM.len (h : PtsM B U W p m c ps bs u) : ps.length = m := h.pl
/-- the row's cell. -/
theorem PtsM.at (h : PtsM B U W p m c ps bs u) {i : Nat} (hi : i < m) : ∃ g, p = some ⟨g, 0, none⟩ ∧ W.cell? ⟨g, i, none⟩ = some (.pointer (some ⟨st bs i, 0, none⟩)) := by
  obtain ⟨g, e, _⟩ := h.row.where (by omega)
  refine ⟨g, e, ?_⟩
  have hr := h.row
  rw [e] at hr
  rw [hr.cell (by omega), List.getElem?_map]
  unfold st
  rw [List.getElem?_eq_getElem (by rw [h.bl]; exact hi)]
  rfl
/-- no int lies in a part's block. -/
theorem ints_apart {q : Option Addr} {n : Nat} {xs : List Int} {b : Nat} {v1 v2 : Value} {o : Bool} (h : IntsIn W q n xs) (hb : W.heap[b]? = some (.cells #[v1, v2, .bool o] 59 (0, 0))) (h1 : isSl v1 = true) (h2 : isSl v2 = true) : ∀ y, q = some y → 0 < n → y.block ≠ b := by
  intro y hy hn e
  obtain ⟨b', o', e1, h3, h4⟩ := h.2 0 hn
  rw [hy] at e1
  cases e1
  simp only at e
  subst e
  rw [wcell (cs := [v1, v2, .bool o]) hb] at h4
  match o', h4 with
  | 0, h4 => simp at h4; rw [h4] at h1; cases h1
  | 1, h4 => simp at h4; rw [h4] at h2; cases h2
  | 2, h4 => simp at h4
  | _ + 3, h4 => simp at h4
end
/-- where stones.parts stands while a part's places are marked. -/
structure PTI (w W : World) (b9 z9 a b n c : Nat) (q q1 q2 : Option Addr) (c1 c2 : Nat) (l1 l2 : List Nat) (d : List Bool) (p : Option Addr) (m c' : Nat) (ps : List Pt) (bs : List Nat) : Prop where
  bx : W.heap[w.heap.size]? = some (.cells #[.int .i64 (a : Int), .int .i64 (b : Int), .slice q n c] 24 (0, 0))
  dn : Bls W (w.heap.size + 1) d
  pm : PtsM (w.heap.size + 2) b9 W p m c' ps bs []
  eb : W.heap[b9]? = some (.cells #[.slice q1 l1.length c1, .slice q2 l2.length c2, .bool false] 59 (0, 0))
  i1 : IntsIn W q1 l1.length (asI l1)
  i2 : IntsIn W q2 l2.length (asI l2)
  sz : W.heap.size = z9
  bl : Below w.heap.size w W
section
variable {w W : World} {b9 z9 a b n c : Nat} {q q1 q2 : Option Addr} {c1 c2 : Nat} {l1 l2 : List Nat} {d : List Bool} {p : Option Addr} {m c' : Nat} {ps : List Pt} {bs : List Nat}
theorem PTI.mark (h : PTI w W b9 z9 a b n c q q1 q2 c1 c2 l1 l2 d p m c' ps bs) (t : Nat) (hb : w.heap.size + 1 < b9) (h1 : ∀ y, q1 = some y → b9 + 1 ≤ y.block) (h2 : ∀ y, q2 = some y → b9 + 1 ≤ y.block) :
    PTI w (W.setCell ⟨w.heap.size + 1, t, none⟩ (.bool true)) b9 z9 a b n c q q1 q2 c1 c2 l1 l2 (d.set t true) p m c' ps bs :=
  ⟨(wset_ne _ _ (by simp)).trans h.bx, h.dn.set t, h.pm.keep fun k hk _ => wset_ne _ _ (by simp; omega), (wset_ne _ _ (by simp; omega)).trans h.eb, ints_keep0 h.i1 fun y hy _ => wset_ne _ _ (by have := h1 y hy; simp; omega), ints_keep0 h.i2 fun y hy _ => wset_ne _ _ (by have := h2 y hy; simp; omega),
    by simpa [World.setCell] using h.sz, h.bl.setCell (p := ⟨w.heap.size + 1, t, none⟩) (by simp) _⟩
theorem ints_lt {n : Nat} {xs : List Int} (h : IntsIn W q n xs) : ∀ y, q = some y → 0 < n → y.block < W.heap.size := fun y hy hn => by
  obtain ⟨b', o', e1, h3, _⟩ := h.2 0 hn
  rw [hy] at e1; cases e1; exact h3
theorem PTI.part (h : PTI w W b9 z9 a b n c q q1 q2 c1 c2 l1 l2 d p m c' ps bs) (hb : w.heap.size + 1 < b9) (hz : b9 + 1 ≤ z9) (h1 : ∀ y, q1 = some y → b9 + 1 ≤ y.block) (h2 : ∀ y, q2 = some y → b9 + 1 ≤ y.block) :
    PtB (w.heap.size + 2) W.heap.size W (p.map (·.block)) b9 (l1, l2) false := by
  have hp : ∀ x, b9 ≤ x → some x ≠ p.map (·.block) := fun x hx e => by
    cases p with
    | none => cases e
    | some y => have := h.pm.pu y rfl; simp at e; omega
  exact ⟨q1, c1, q2, c2, by omega, by rw [h.sz]; omega, hp _ (Nat.le_refl _), h.eb, h.i1, h.i2, fun y hy hn => ⟨by have := h1 y hy; omega, ints_lt h.i1 y hy hn, hp _ (by have := h1 y hy; omega)⟩, fun y hy hn => ⟨by have := h2 y hy; omega, ints_lt h.i2 y hy hn, hp _ (by have := h2 y hy; omega)⟩⟩
end
theorem PtsOf.snoc {so : Nat → Bool} {s : List Nat} {a k : Nat} {rs : List Nat} {ps : List Pt} {l1 l2 : List Nat} (h : PtsOf so s a rs ps) (h1 : l1.Perm (spread so s a k).inn) (h2 : l2.Perm (spread so s a k).bd) : PtsOf so s a (rs ++ [k]) (ps ++ [(l1, l2)]) := by
  refine ⟨by simp [h.1], fun i hi => ?_⟩
  rw [List.length_append, List.length_singleton] at hi
  by_cases e : i < rs.length
  · rw [pAt_snoc_lt _ _ _ (by rw [h.1]; exact e), st_snoc_lt _ _ _ e]; exact h.2 i e
  · have e : i = rs.length := by omega
    have e2 : pAt (ps ++ [(l1, l2)]) i = (l1, l2) := by rw [e, ← h.1]; exact pAt_snoc _ _
    have e3 : st (rs ++ [k]) i = k := by rw [e]; exact st_snoc _ _
    rw [e2, e3]; exact ⟨h1, h2⟩
theorem mark_roots {so : Nat → Bool} {s : List Nat} {a k : Nat} {rs : List Nat} {d : List Bool} {l1 : List Nat} (h : ∀ t, bAt d t = true ↔ ∃ i, i < rs.length ∧ t ∈ (spread so s a (st rs i)).inn) (h1 : l1.Perm (spread so s a k).inn) (hl : ∀ t ∈ l1, t < d.length) :
    ∀ t, bAt (markL d l1) t = true ↔ ∃ i, i < (rs ++ [k]).length ∧ t ∈ (spread so s a (st (rs ++ [k]) i)).inn := fun t => by
  rw [markL_at l1 d t hl, h t, h1.mem_iff]
  constructor
  · rintro (h | ⟨i, hi, h⟩)
    · exact ⟨rs.length, by simp, by rw [st_snoc]; exact h⟩
    · exact ⟨i, by simp; omega, by rw [st_snoc_lt _ _ _ hi]; exact h⟩
  · rintro ⟨i, hi, h⟩
    rw [List.length_append, List.length_singleton] at hi
    by_cases e : i < rs.length
    · rw [st_snoc_lt _ _ _ e] at h; exact .inr ⟨i, e, h⟩
    · have e : i = rs.length := by omega
      rw [e, st_snoc] at h; exact .inl h
end Go.Proofs.Ytefjliblaeadfaa
