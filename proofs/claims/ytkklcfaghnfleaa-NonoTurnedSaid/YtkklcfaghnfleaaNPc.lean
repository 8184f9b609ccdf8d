/- A picture at work, in memory; no conditions. -/
import Derived.Test.YtkklcfaghnfleaaNSu2
import Derived.Test.YtkklcfaghnfleaaNTp
namespace Go.Proofs.Ytkklcfaghnfleaa
open Go.RowKit

/-- the picture c: its block pb, the block cb of its rows, the rows' own blocks g y; all from B on. -/
structure Pc (B : Nat) (W : World) (pb n m : Nat) (rq : Option Addr) (rc : Nat) (cq : Option Addr) (cc cb kc : Nat) (g kp : Nat → Nat) (c : Pic) : Prop where
  hd : W.heap[pb]? = some (.cells #[.slice rq n rc, .slice cq m cc, .slice (some ⟨cb, 0, none⟩) n kc] 54 (0, 0))
  cs : OwnC 22 1 B W (some ⟨cb, 0, none⟩) n kc ((List.range n).map fun y => Value.slice (some ⟨g y, 0, none⟩) m (kp y))
  row : ∀ y, y < n → Own 3 B W (some ⟨g y, 0, none⟩) m (kp y) (rowL m c y)
  ne : ∀ y, y < n → g y ≠ cb ∧ g y ≠ pb ∧ ∀ y', y' < n → y' ≠ y → g y' ≠ g y
  pc : cb ≠ pb
  pB : B ≤ pb
section
variable {B : Nat} {W : World} {pb n m : Nat} {rq : Option Addr} {rc : Nat} {cq : Option Addr} {cc cb kc : Nat} {g kp : Nat → Nat} {c : Pic}
theorem Pc.keep {W' : World} (h : Pc B W pb n m rq rc cq cc cb kc g kp c) (hp : W'.heap[pb]? = W.heap[pb]?) (hc : W'.heap[cb]? = W.heap[cb]?) (hg : ∀ y, y < n → W'.heap[g y]? = W.heap[g y]?) : Pc B W' pb n m rq rc cq cc cb kc g kp c :=
  ⟨hp.trans h.hd, h.cs.keep fun a ha => by cases ha; exact hc, fun y hy => (h.row y hy).keep fun a ha => by cases ha; exact hg y hy, h.ne, h.pc, h.pB⟩
theorem Pc.lt (h : Pc B W pb n m rq rc cq cc cb kc g kp c) : pb < W.heap.size ∧ cb < W.heap.size ∧ B ≤ cb ∧ ∀ y, y < n → g y < W.heap.size ∧ B ≤ g y :=
  ⟨lt_of_heap h.hd, (h.cs.block _ rfl).2, (h.cs.block _ rfl).1, fun y hy => ⟨((h.row y hy).block _ rfl).2, ((h.row y hy).block _ rfl).1⟩⟩
theorem Pc.below {W' : World} {B' : Nat} (h : Pc B W pb n m rq rc cq cc cb kc g kp c) (hb : Below B' W W') (hB : W.heap.size ≤ B') : Pc B W' pb n m rq rc cq cc cb kc g kp c := by
  obtain ⟨l1, l2, _, l3⟩ := h.lt
  exact h.keep (hb.block _ (by omega)) (hb.block _ (by omega)) fun y hy => hb.block _ (by have := (l3 y hy).1; omega)
theorem Pc.mono {B' : Nat} (h : Pc B W pb n m rq rc cq cc cb kc g kp c) (hB : B' ≤ B) : Pc B' W pb n m rq rc cq cc cb kc g kp c :=
  ⟨h.hd, h.cs.mono hB, fun y hy => (h.row y hy).mono hB, h.ne, h.pc, Nat.le_trans hB h.pB⟩
theorem Pc.k0 (h : Pc B W pb n m rq rc cq cc cb kc g kp c) : W.cell? ⟨pb, 0, none⟩ = some (.slice rq n rc) := wcell (cs := [_, _, _]) h.hd 0
theorem Pc.k1 (h : Pc B W pb n m rq rc cq cc cb kc g kp c) : W.cell? ⟨pb, 1, none⟩ = some (.slice cq m cc) := wcell (cs := [_, _, _]) h.hd 1
theorem Pc.k2 (h : Pc B W pb n m rq rc cq cc cb kc g kp c) : W.cell? ⟨pb, 2, none⟩ = some (.slice (some ⟨cb, 0, none⟩) n kc) := wcell (cs := [_, _, _]) h.hd 2
theorem Pc.at (h : Pc B W pb n m rq rc cq cc cb kc g kp c) {y : Nat} (hy : y < n) : W.cell? ⟨cb, y, none⟩ = some (.slice (some ⟨g y, 0, none⟩) m (kp y)) := by
  rw [h.cs.cell (by omega)]; simp [hy]
theorem Pc.atF (h : Pc B W pb n m rq rc cq cc cb kc g kp c) (y : Nat) : W.frozen? ⟨cb, y, none⟩ = false := h.cs.free y
theorem Pc.cell (h : Pc B W pb n m rq rc cq cc cb kc g kp c) {y x : Nat} (hy : y < n) (hx : x < m) : W.cell? ⟨g y, x, none⟩ = some (.int .i64 (c y x)) := by
  rw [(h.row y hy).cell hx, rowL_at c y hx]; rfl
theorem Pc.cellF (h : Pc B W pb n m rq rc cq cc cb kc g kp c) {y : Nat} (hy : y < n) (x : Nat) : W.frozen? ⟨g y, x, none⟩ = false := (h.row y hy).free x
theorem Pc.in (h : Pc B W pb n m rq rc cq cc cb kc g kp c) {y : Nat} (hy : y < n) : IntsIn W (some ⟨g y, 0, none⟩) m (rowL m c y) := (h.row y hy).in
theorem Pc.cap (h : Pc B W pb n m rq rc cq cc cb kc g kp c) {y : Nat} (hy : y < n) : m ≤ kp y := OwnC.cap (k := 1) (h.row y hy)
def setN (g : Nat → Nat) (y0 v : Nat) : Nat → Nat := fun y => if y = y0 then v else g y
theorem setN_self (g : Nat → Nat) (y0 v : Nat) : setN g y0 v y0 = v := by unfold setN; rw [if_pos rfl]
theorem setN_ne (g : Nat → Nat) {y0 y : Nat} (v : Nat) (h : y ≠ y0) : setN g y0 v y = g y := by unfold setN; rw [if_neg h]
theorem rowL_updR (m : Nat) (c : Pic) (y0 : Nat) (v : Nat → Int) : rowL m (updR m c y0 v) y0 = (List.range m).map v := by
  unfold rowL updR; exact List.map_congr_left fun x hx => if_pos ⟨rfl, List.mem_range.1 hx⟩
theorem rowL_updR_ne (m : Nat) (c : Pic) {y0 y : Nat} (v : Nat → Int) (h : y ≠ y0) : rowL m (updR m c y0 v) y = rowL m c y := by
  unfold rowL updR; exact List.map_congr_left fun x hx => if_neg fun e => h e.1
/-- a new row is laid in. -/
theorem Pc.setRow (h : Pc B W pb n m rq rc cq cc cb kc g kp c) {y0 g1 k1 : Nat} (hy : y0 < n) {v : Nat → Int} (hO : Own 3 B W (some ⟨g1, 0, none⟩) m k1 ((List.range m).map v)) (h1 : g1 ≠ cb) (h2 : g1 ≠ pb) (h3 : ∀ y, y < n → g y ≠ g1) :
    Pc B (W.setCell ⟨cb, y0, none⟩ (.slice (some ⟨g1, 0, none⟩) m k1)) pb n m rq rc cq cc cb kc (setN g y0 g1) (setN kp y0 k1) (updR m c y0 v) := by
  have hcs := h.cs.set y0 (.slice (some ⟨g1, 0, none⟩) m k1)
  refine ⟨(wset_ne _ _ h.pc.symm).trans h.hd, ?_, fun y hy' => ?_, fun y hy' => ?_, h.pc, h.pB⟩
  · have e : ((List.range n).map fun y => Value.slice (some ⟨g y, 0, none⟩) m (kp y)).set y0 (.slice (some ⟨g1, 0, none⟩) m k1) = (List.range n).map fun y => Value.slice (some ⟨setN g y0 g1 y, 0, none⟩) m (setN kp y0 k1 y) := by
      apply List.ext_getElem
      · simp
      · intro i h5 h6
        rw [List.getElem_set]
        by_cases e : y0 = i
        · subst e; simp [setN_self]
        · rw [if_neg e]; simp [setN_ne _ _ (Ne.symm e)]
    rw [e] at hcs; exact hcs
  · by_cases e : y = y0
    · subst e
      rw [setN_self, setN_self, rowL_updR]
      exact hO.keep fun a ha => by cases ha; exact wset_ne _ _ h1
    · rw [setN_ne _ _ e, setN_ne _ _ e, rowL_updR_ne _ _ _ e]
      exact (h.row y hy').keep fun a ha => by cases ha; exact wset_ne _ _ (h.ne y hy').1
  · by_cases e : y = y0
    · subst e
      rw [setN_self]
      refine ⟨h1, h2, fun y' hy2 hne => ?_⟩
      rw [setN_ne _ _ hne]; exact h3 y' hy2
    · rw [setN_ne _ _ e]
      refine ⟨(h.ne y hy').1, (h.ne y hy').2.1, fun y' hy2 hne => ?_⟩
      by_cases e2 : y' = y0
      · subst e2; rw [setN_self]; exact (h3 y hy').symm
      · rw [setN_ne _ _ e2]; exact (h.ne y hy').2.2 y' hy2 hne
theorem rowL_set1 (m : Nat) (c : Pic) (y0 x0 : Nat) (v : Int) : rowL m (set1 c y0 x0 v) y0 = (rowL m c y0).set x0 v := by
  unfold rowL set1
  apply List.ext_getElem
  · simp
  · intro i h1 h2
    rw [List.getElem_set]
    by_cases e : x0 = i
    · subst e; simp
    · rw [if_neg e]; simp [Ne.symm e]
theorem rowL_set1_ne (m : Nat) (c : Pic) {y0 y : Nat} (x0 : Nat) (v : Int) (h : y ≠ y0) : rowL m (set1 c y0 x0 v) y = rowL m c y := by
  unfold rowL set1; exact List.map_congr_left fun x hx => if_neg fun e => h e.1
theorem Pc.set1 (h : Pc B W pb n m rq rc cq cc cb kc g kp c) {y0 x0 : Nat} (hy : y0 < n) (v : Int) :
    Pc B (W.setCell ⟨g y0, x0, none⟩ (.int .i64 v)) pb n m rq rc cq cc cb kc g kp (set1 c y0 x0 v) := by
  refine ⟨(wset_ne _ _ (h.ne y0 hy).2.1.symm).trans h.hd, h.cs.keep fun a ha => by cases ha; exact wset_ne _ _ (h.ne y0 hy).1.symm, fun y hy' => ?_, h.ne, h.pc, h.pB⟩
  by_cases e : y = y0
  · subst e
    rw [rowL_set1]
    exact (h.row y hy').set x0 v
  · rw [rowL_set1_ne _ _ _ _ e]
    exact (h.row y hy').keep fun a ha => by cases ha; exact wset_ne _ _ ((h.ne y0 hy).2.2 y hy' e)
end
/-- the clues: rows of numbers that lie below B. -/
def Clu (B : Nat) (W : World) (q : Option Addr) (n : Nat) (R : Nat → List Nat) : Prop :=
  ∀ y, y < n → ∃ b o p k c, q = some ⟨b, o, none⟩ ∧ b < B ∧ W.cell? ⟨b, o + y, none⟩ = some (.slice p k c) ∧ k ≤ 20 ∧ IntsIn W p k (asI (R y)) ∧ ∀ a, p = some a → a.block < B
theorem Clu.below {B : Nat} {W W' : World} {q : Option Addr} {n : Nat} {R : Nat → List Nat} (h : Clu B W q n R) (hb : Below B W W') : Clu B W' q n R := fun y hy => by
  obtain ⟨b, o, p, k, c, e, hbB, hc, hk, hx, hp⟩ := h y hy
  exact ⟨b, o, p, k, c, e, hbB, (hb.cell (p := ⟨b, o + y, none⟩) hbB).trans hc, hk, hx.keep hb.size fun b' o' e' => hb.block _ (hp _ e'), hp⟩
theorem Clu.mono {B B' : Nat} {W : World} {q : Option Addr} {n : Nat} {R : Nat → List Nat} (h : Clu B W q n R) (hB : B ≤ B') : Clu B' W q n R := fun y hy => by
  obtain ⟨b, o, p, k, c, e, hbB, hc, hk, hx, hp⟩ := h y hy
  exact ⟨b, o, p, k, c, e, by omega, hc, hk, hx, fun a ha => Nat.lt_of_lt_of_le (hp a ha) hB⟩
end Go.Proofs.Ytkklcfaghnfleaa
