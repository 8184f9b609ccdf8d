/- Small lemmas on rows of the call's own whose elements are any cells (structs, slices, arrays), on boxes, and on slices of slices; no conditions. -/
import Derived.Test.YtelhpfhnmnaefaaMem
namespace Go.Proofs.Ytelhpfhnmnaefaa
open Go.RowKit

theorem wcell {w : World} {b : Nat} {cs : List Value} {t : TypeId} (h : w.heap[b]? = some (.cells cs.toArray t (0, 0))) (i : Nat) : w.cell? ⟨b, i, none⟩ = cs[i]? := by
  rw [cell_of_row w b i _ t (0, 0) h]; simp
theorem wfree {w : World} {b : Nat} {cs : Array Value} {t : TypeId} (h : w.heap[b]? = some (.cells cs t (0, 0))) (i : Nat) : w.frozen? ⟨b, i, none⟩ = false := by
  simp [World.frozen?, h]
theorem wset {w : World} {b : Nat} {cs : Array Value} {t : TypeId} (h : w.heap[b]? = some (.cells cs t (0, 0))) (i : Nat) (v : Value) : (w.setCell ⟨b, i, none⟩ v).heap[b]? = some (.cells (cs.setIfInBounds i v) t (0, 0)) := by
  simp [World.setCell, Array.getElem?_modify, h]
theorem wset_ne {w : World} {b : Nat} (p : Addr) (v : Value) (hb : b ≠ p.block) : (w.setCell p v).heap[b]? = w.heap[b]? := Below.heap_setCell w p v b hb
theorem Own.apart {E B n c : Nat} {w : World} {q : Option Addr} {xs : List Int} (h : Own E B w q n c xs) (k : Nat) (hk : k < B) : some k ≠ q.map (·.block) := by
  intro e
  cases q with
  | none => cases e
  | some x =>
    have := (h.block x rfl).1
    simp at e
    omega

/-- the table's row of an element type: its zero, its cells and its bytes. -/
structure ElT (P : Program) (T E : TypeId) (z : Value) (k b : Nat) : Prop where
  under : P.underlying T = some (.slice E)
  info : (P.info? E).map (fun i => (i.zero, i.size, i.bytes)) = some (some z, k, b)
  zs : z.cells.size = k
  k0 : 0 < k
  b64 : b ≤ 64

/-- '.slice p n c' is a row of the call's own (blocks from B on) whose cells are vs; k cells an element. -/
def OwnC (E k B : Nat) (w : World) (p : Option Addr) (n c : Nat) (vs : List Value) : Prop := w.ownsRow B E k (.slice p n c) n vs
section
variable {E k B : Nat} {w w' : World} {p : Option Addr} {n c : Nat} {vs : List Value}
theorem OwnC.nil (E k B : Nat) (w : World) : OwnC E k B w none 0 0 [] := World.ownsRow_nil w B E k
theorem OwnC.len (h : OwnC E k B w p n c vs) : vs.length = n * k := h.1
theorem OwnC.alloc (h : OwnC E k B w p n c vs) (o : Obj) : OwnC E k B (w.alloc o) p n c vs := World.ownsRow.alloc h o
theorem OwnC.block (h : OwnC E k B w p n c vs) : ∀ a, p = some a → B ≤ a.block ∧ a.block < w.heap.size := fun a ha => World.ownsRow.lt h a.block (by rw [ha]; rfl)
theorem OwnC.keep (h : OwnC E k B w p n c vs) (hk : ∀ a, p = some a → w'.heap[a.block]? = w.heap[a.block]?) : OwnC E k B w' p n c vs := by
  refine ⟨h.1, ?_⟩
  rcases h.2 with h2 | ⟨g, cap, cur, hv, hb, hh, r⟩
  · exact .inl h2
  · injection hv with hp hn hc
    subst hp
    exact .inr ⟨g, cap, cur, by rw [hc], hb, (hk _ rfl).trans hh, r⟩
theorem OwnC.below {B' : Nat} (h : OwnC E k B w p n c vs) (hb : Below B' w w') (hB : w.heap.size ≤ B') : OwnC E k B w' p n c vs := h.keep fun a ha => hb.block _ (by have := (h.block a ha).2; omega)
theorem OwnC.grown {row : Option Nat} (h : OwnC E k B w p n c vs) (hg : w.grownBy w' row) (hr : ∀ a, p = some a → some a.block ≠ row) : OwnC E k B w' p n c vs := h.keep fun a ha => hg.block _ (h.block a ha).2 (hr a ha)
theorem OwnC.mono {B' : Nat} (h : OwnC E k B w p n c vs) (hB : B' ≤ B) : OwnC E k B' w p n c vs := by
  refine ⟨h.1, ?_⟩
  rcases h.2 with h2 | ⟨g, cap, cur, hv, hb, r⟩
  · exact .inl h2
  · exact .inr ⟨g, cap, cur, hv, by omega, r⟩
theorem OwnC.apart (h : OwnC E k B w p n c vs) (j : Nat) (hj : j < B) : some j ≠ p.map (·.block) := by
  intro e
  cases p with
  | none => cases e
  | some x =>
    have := (h.block x rfl).1
    simp at e
    omega
theorem OwnC.where (h : OwnC E k B w p n c vs) (hn : 0 < n) : ∃ g, p = some ⟨g, 0, none⟩ ∧ B ≤ g ∧ g < w.heap.size ∧ n ≤ c := by
  rcases h.2 with ⟨_, rfl⟩ | ⟨g, cap, cur, hv, hb, hh, hnc, _⟩
  · omega
  · injection hv with hp _ hc
    subst hc
    exact ⟨g, hp, hb, lt_of_heap hh, hnc⟩
theorem OwnC.cell {g : Nat} (h : OwnC E k B w (some ⟨g, 0, none⟩) n c vs) {i : Nat} (hi : i < n * k) : w.cell? ⟨g, i, none⟩ = vs[i]? := by
  rw [World.ownsRow.cellAt h i hi]
theorem OwnC.free {g : Nat} (h : OwnC E k B w (some ⟨g, 0, none⟩) n c vs) (i : Nat) : w.frozen? ⟨g, i, none⟩ = false := World.ownsRow.frozenAt h i
theorem OwnC.set {g : Nat} (h : OwnC E k B w (some ⟨g, 0, none⟩) n c vs) (i : Nat) (v : Value) : OwnC E k B (w.setCell ⟨g, i, none⟩ v) (some ⟨g, 0, none⟩) n c (vs.set i v) := (World.ownsRow.stored h i v).1
theorem OwnC.cap (h : OwnC E k B w p n c vs) : n ≤ c := by
  rcases h.2 with ⟨hv, h0⟩ | ⟨g, cap, cur, hv, _, _, h1, _⟩
  · omega
  · injection hv with _ _ h; omega
end

/-- 'out = append(out, e)', e of k cells that lie in a new block. -/
theorem wp_appendV {P : Program} {T E : TypeId} {z : Value} {k b : Nat} (hT : ElT P T E z k b) {ops : Array Oper} {rest : List Oper} {o : Oper} {a : Act} {Q : Exit → Act → World → Prop} (w0 : World)
    (hg : o.guard = none) (s x : Operand) (hop : o.op = Op.call { callee := Callee.builtin Builtin.append, args := #[s, x], argTypes := #[T, T] })
    (B : Nat) (p : Option Addr) (n c : Nat) (xs : List Value) (hs : a.eval s = .slice p n c) (own : OwnC E k B w0 p n c xs) (es : Array Value) (hel : es.size = k) (he1 : es.toList.all (·.oneCell') = true)
    (hx : a.eval x = .slice (some ⟨w0.heap.size, 0, none⟩) 1 1)
    (hn : n < 1099511627776) (hB : B ≤ w0.heap.size)
    (hK : ∀ p' c' w', OwnC E k B w' p' (n + 1) c' (xs ++ es.toList) → w0.grownBy w' (p.map (·.block)) → (p'.map (·.block) = p.map (·.block) ∨ ∀ a', p' = some a' → w0.heap.size ≤ a'.block) → w0.heap.size ≤ w'.heap.size →
      wpList P ops Q rest (a.put o.dst (.slice p' (n + 1) c')) w') :
    wpList P ops Q (o :: rest) a (w0.alloc (.cells es E)) := by
  obtain ⟨i0, hi, hz0, hz1, hz2⟩ := info_parts hT.info
  have hb64 := hT.b64
  refine wpList_plain hg fun K hK' => ?_
  obtain ⟨v', w', hrun, h2, h3, _, h5⟩ := run_append_own_at (P := P) (w0.alloc (.cells es E)) B T o.type E i0 z k b hT.under hi hz0 hz1 hz2 hT.zs hT.k0 (.slice p n c) n _ (own.alloc _) ⟨w0.heap.size, 0, none⟩ 1 1 es.toList (by simp [hel])
    (fun j u hj => by
      rw [Addr.add_lit, World.cell?_alloc_new]
      simpa using hj)
    (fun u hu => List.all_eq_true.1 he1 u hu) (by unfold maxLen; omega) (by have h64 := Nat.mul_le_mul_left (n + 1) hb64; omega) (by simp; omega)
  unfold Oper.wp
  simp [execOp, hop, resolve, invoke, builtin, hs, hx, hrun, Result.andThen]
  have hshape : ∃ p' c', v' = .slice p' (n + 1) c' := by
    rcases h2.2 with ⟨hv, h0⟩ | ⟨g, cap, cur, hv, _⟩
    · omega
    · exact ⟨_, _, hv⟩
  obtain ⟨p', c', rfl⟩ := hshape
  refine hK' _ _ (hK p' c' w' h2 ?_ ?_ ?_)
  · refine ⟨h3.os, h3.tape, h3.output, Nat.le_trans (by simp) h3.size, fun k hk hne => (h3.block k (by simp; omega) ?_).trans (Below.heap_alloc w0 _ k hk)⟩
    intro e; apply hne; rw [e]; cases p <;> rfl
  · rcases h5 with h5 | h5
    · left; cases p <;> cases p' <;> simp_all [Value.ownBlock]
    · right; intro a' ha; subst ha; simp [Value.ownBlock] at h5; omega
  · exact Nat.le_trans (by simp) h3.size

/-- 'out = append(out, src...)', src of m elements whose cells are known. -/
theorem wp_appendLV {P : Program} {T E : TypeId} {z : Value} {k b : Nat} (hT : ElT P T E z k b) {ops : Array Oper} {rest : List Oper} {o : Oper} {a : Act} {Q : Exit → Act → World → Prop} (w : World)
    (hg : o.guard = none) (s x : Operand) (hop : o.op = Op.call { callee := Callee.builtin Builtin.append, args := #[s, x], argTypes := #[T, T] })
    (B : Nat) (p : Option Addr) (n c : Nat) (xs : List Value) (hs : a.eval s = .slice p n c) (own : OwnC E k B w p n c xs) (ad : Addr) (m c2 : Nat) (es : List Value) (hel : es.length = m * k) (he1 : es.all (·.oneCell') = true)
    (hc : ∀ j u, es[j]? = some u → w.cell? (ad.add j) = some u)
    (hx : a.eval x = .slice (some ad) m c2)
    (hn : n + m < 1099511627776) (hB : B ≤ w.heap.size)
    (hK : ∀ p' c' w', OwnC E k B w' p' (n + m) c' (xs ++ es) → w.grownBy w' (p.map (·.block)) → (p'.map (·.block) = p.map (·.block) ∨ ∀ a', p' = some a' → w.heap.size ≤ a'.block) → w.heap.size ≤ w'.heap.size →
      wpList P ops Q rest (a.put o.dst (.slice p' (n + m) c')) w') :
    wpList P ops Q (o :: rest) a w := by
  obtain ⟨i0, hi, hz0, hz1, hz2⟩ := info_parts hT.info
  have hb64 := hT.b64
  refine wpList_plain hg fun K hK' => ?_
  obtain ⟨v', w', hrun, h2, h3, _, h5⟩ := run_append_own_at (P := P) w B T o.type E i0 z k b hT.under hi hz0 hz1 hz2 hT.zs hT.k0 (.slice p n c) n _ own ad m c2 es hel hc
    (fun u hu => List.all_eq_true.1 he1 u hu) (by unfold maxLen; omega) (by have h64 := Nat.mul_le_mul_left (n + m) hb64; omega) hB
  unfold Oper.wp
  simp [execOp, hop, resolve, invoke, builtin, hs, hx, hrun, Result.andThen]
  have hshape : ∃ p' c', v' = .slice p' (n + m) c' := by
    rcases h2.2 with ⟨hv, h0⟩ | ⟨g, cap, cur, hv, _⟩
    · exact ⟨none, 0, by rw [hv, h0]⟩
    · exact ⟨_, _, hv⟩
  obtain ⟨p', c', rfl⟩ := hshape
  refine hK' _ _ (hK p' c' w' h2 ?_ ?_ h3.size)
  · refine ⟨h3.os, h3.tape, h3.output, h3.size, fun k hk hne => h3.block k hk ?_⟩
    intro e; apply hne; rw [e]; cases p <;> rfl
  · rcases h5 with h5 | h5
    · left; cases p <;> cases p' <;> simp_all [Value.ownBlock]
    · right; intro a' ha; subst ha; simp [Value.ownBlock] at h5; omega

/-- a cell that was written and is written back. -/
theorem below_back {W W2 : World} {g j : Nat} {cur : Array Value} {t : TypeId} {fr : Nat × Nat} {x v : Value} (h : W.heap[g]? = some (.cells cur t fr)) (hx : cur[j]? = some x) (h2 : Below W.heap.size (W.setCell ⟨g, j, none⟩ v) W2) :
    Below W.heap.size W (W2.setCell ⟨g, j, none⟩ x) := by
  have hg := lt_of_heap h
  refine ⟨h2.os, h2.tape, h2.output, by simpa [World.setCell] using h2.size, fun k hk => ?_⟩
  by_cases e : k = g
  · subst e
    have h3 := (h2.block k hk)
    have h4 : (W.setCell ⟨k, j, none⟩ v).heap[k]? = some (.cells (cur.setIfInBounds j v) t fr) := by simp [World.setCell, Array.getElem?_modify, h]
    rw [h4] at h3
    have hj : j < cur.size := (Array.getElem?_eq_some_iff.1 hx).1
    have h5 : (W2.setCell ⟨k, j, none⟩ x).heap[k]? = some (.cells ((cur.setIfInBounds j v).setIfInBounds j x) t fr) := by simp [World.setCell, Array.getElem?_modify, h3]
    rw [h5, h]
    congr 2
    apply Array.ext
    · simp
    · intro i h6 h7
      by_cases e : j = i
      · subst e
        have := (Array.getElem?_eq_some_iff.1 hx).2
        simp [this]
      · simp only [Array.setIfInBounds_setIfInBounds]; exact Array.getElem_setIfInBounds_ne h7 e
  · exact (Below.heap_setCell W2 _ _ k e).trans ((h2.block k hk).trans (Below.heap_setCell W _ _ k e))

/-- a slice value reads as a row of slices of ints (all in blocks from B on). -/
def RowsIn (B : Nat) (w : World) (q : Option Addr) (ls : List (List Int)) : Prop :=
  ∀ (i : Nat) (l : List Int), ls[i]? = some l → ∃ b o p m c, q = some ⟨b, o, none⟩ ∧ B ≤ b ∧ b < w.heap.size ∧ w.cell? ⟨b, o + i, none⟩ = some (.slice p m c) ∧ IntsIn w p m l ∧ ∀ a, p = some a → B ≤ a.block
theorem RowsIn.nil (B : Nat) (w : World) (q : Option Addr) : RowsIn B w q [] := fun i l h => by simp at h
theorem RowsIn.below {B : Nat} {w w' : World} {q : Option Addr} {ls : List (List Int)} (h : RowsIn B w q ls) (hb : Below w.heap.size w w') : RowsIn B w' q ls := fun i l hi => by
  obtain ⟨b, o, p, m, c, e, hB, hs, hc, hx, hp⟩ := h i l hi
  exact ⟨b, o, p, m, c, e, hB, Nat.lt_of_lt_of_le hs hb.size, (hb.cell (p := ⟨b, o + i, none⟩) hs).trans hc, hx.below hb, hp⟩
theorem RowsIn.alloc {B : Nat} {w : World} {q : Option Addr} {ls : List (List Int)} (h : RowsIn B w q ls) (o : Obj) : RowsIn B (w.alloc o) q ls := h.below ((Below.refl _ _).alloc (Nat.le_refl _) o)
theorem RowsIn.set {B : Nat} {w : World} {q : Option Addr} {ls : List (List Int)} (h : RowsIn B w q ls) {a : Addr} (ha : a.block < B) (u : Value) : RowsIn B (w.setCell a u) q ls := fun i l hi => by
  obtain ⟨b, o, p, m, c, e, hB, hs, hc, hx, hp⟩ := h i l hi
  refine ⟨b, o, p, m, c, e, hB, by simpa [World.setCell] using hs, ?_, hx.keep (by simp [World.setCell]) fun b' o' e' => Below.heap_setCell w a u b' (by have := hp _ e'; simp at this; omega), hp⟩
  rw [World.cell?_of_block (a := ⟨b, o + i, none⟩) (Below.heap_setCell w a u b (by omega))]; exact hc

/-- a row of the call's own whose elements are slices of ints (none of them lies in the row's own block). -/
def OwnRows (E B : Nat) (w : World) (q : Option Addr) (n c : Nat) (ls : List (List Int)) : Prop :=
  ∃ vs : List Value, OwnC E 1 B w q n c vs ∧ ls.length = n ∧ ∀ (i : Nat) (l : List Int), ls[i]? = some l → ∃ (p : Option Addr) (m c' : Nat), vs[i]? = some (Value.slice p m c') ∧ IntsIn w p m l ∧ ∀ a, p = some a → q.map (·.block) ≠ some a.block ∧ B ≤ a.block ∧ a.block < w.heap.size
theorem OwnRows.nil (E B : Nat) (w : World) : OwnRows E B w none 0 0 [] := ⟨[], OwnC.nil _ _ _ _, rfl, fun i l h => by simp at h⟩
theorem OwnRows.len {E B : Nat} {w : World} {q : Option Addr} {n c : Nat} {ls : List (List Int)} (h : OwnRows E B w q n c ls) : ls.length = n := by
  obtain ⟨_, _, e, _⟩ := h; exact e
theorem OwnRows.in {E B : Nat} {w : World} {q : Option Addr} {n c : Nat} {ls : List (List Int)} (h : OwnRows E B w q n c ls) : RowsIn B w q ls := fun i l hi => by
  obtain ⟨vs, hO, hl, hr⟩ := h
  have hil : i < ls.length := (List.getElem?_eq_some_iff.1 hi).1
  obtain ⟨p, m, c', hv, hx, hp⟩ := hr i l hi
  obtain ⟨g, rfl, hgB, hg, _⟩ := hO.where (by omega)
  exact ⟨g, 0, p, m, c', rfl, hgB, hg, by rw [Nat.zero_add, hO.cell (by omega)]; exact hv, hx, fun a ha => (hp a ha).2.1⟩
theorem OwnRows.keep {E B : Nat} {w w' : World} {q : Option Addr} {n c : Nat} {ls : List (List Int)} (h : OwnRows E B w q n c ls) (hb : Below w.heap.size w w') : OwnRows E B w' q n c ls := by
  obtain ⟨vs, hO, hl, hr⟩ := h
  refine ⟨vs, hO.below hb (Nat.le_refl _), hl, fun i l hi => ?_⟩
  obtain ⟨p, m, c', hv, hx, hne⟩ := hr i l hi
  exact ⟨p, m, c', hv, hx.below hb, fun a ha => ⟨(hne a ha).1, (hne a ha).2.1, Nat.lt_of_lt_of_le (hne a ha).2.2 hb.size⟩⟩

/-- 'out = append(out, line)', out a row of slices of the call's own. -/
theorem wp_appendRow {P : Program} {T E : TypeId} (hT : ElT P T E (.slice none 0 0) 1 24) {ops : Array Oper} {rest : List Oper} {o : Oper} {a : Act} {Q : Exit → Act → World → Prop} (w0 : World)
    (hg : o.guard = none) (s x : Operand) (hop : o.op = Op.call { callee := Callee.builtin Builtin.append, args := #[s, x], argTypes := #[T, T] })
    (B : Nat) (q : Option Addr) (n c : Nat) (ls : List (List Int)) (hs : a.eval s = .slice q n c) (own : OwnRows E B w0 q n c ls) (p : Option Addr) (m c' : Nat) (l : List Int) (hl : IntsIn w0 p m l)
    (hne : ∀ a, p = some a → q.map (·.block) ≠ some a.block ∧ B ≤ a.block ∧ a.block < w0.heap.size)
    (hx : a.eval x = .slice (some ⟨w0.heap.size, 0, none⟩) 1 1)
    (hn : n < 1099511627776) (hB : B ≤ w0.heap.size)
    (hK : ∀ q' c2 w', OwnRows E B w' q' (n + 1) c2 (ls ++ [l]) → w0.grownBy w' (q.map (·.block)) → w0.heap.size ≤ w'.heap.size →
      wpList P ops Q rest (a.put o.dst (.slice q' (n + 1) c2)) w') :
    wpList P ops Q (o :: rest) a (w0.alloc (.cells #[.slice p m c'] E)) := by
  obtain ⟨vs, hO, hll, hr⟩ := own
  refine wp_appendV hT w0 hg s x hop B q n c vs hs hO #[.slice p m c'] rfl rfl hx hn hB fun q' c2 w' hM hgr hor hz => hK q' c2 w' ⟨_, hM, by simp [hll], ?_⟩ hgr hz
  have hvl := hO.len
  have key : ∀ p2 : Option Addr, ∀ m2 : Nat, ∀ l2 : List Int, IntsIn w0 p2 m2 l2 → (∀ a, p2 = some a → q.map (·.block) ≠ some a.block ∧ B ≤ a.block ∧ a.block < w0.heap.size) → IntsIn w' p2 m2 l2 ∧ ∀ a, p2 = some a → q'.map (·.block) ≠ some a.block ∧ B ≤ a.block ∧ a.block < w'.heap.size := by
    intro p2 m2 l2 hx2 hn2
    refine ⟨hx2.keep hz fun b o e => hgr.block b (hn2 _ e).2.2 (fun e2 => (hn2 _ e).1 e2.symm), fun a ha => ⟨fun e2 => ?_, (hn2 a ha).2.1, Nat.lt_of_lt_of_le (hn2 a ha).2.2 hz⟩⟩
    rcases hor with h | h
    · rw [h] at e2; exact (hn2 a ha).1 e2
    · cases q' with
      | none => cases e2
      | some x =>
        have := h x rfl
        have h3 := (hn2 a ha).2.2
        simp at e2; omega
  intro i l2 hi
  by_cases hlt : i < ls.length
  · rw [List.getElem?_append_left hlt] at hi
    obtain ⟨p2, m2, c3, hv, hx2, hn2⟩ := hr i l2 hi
    obtain ⟨k1, k2⟩ := key p2 m2 l2 hx2 hn2
    exact ⟨p2, m2, c3, by rw [List.getElem?_append_left (by omega)]; exact hv, k1, k2⟩
  · have hil : i = ls.length := by
      have := (List.getElem?_eq_some_iff.1 hi).1
      simp at this; omega
    subst hil
    simp at hi
    subst hi
    obtain ⟨k1, k2⟩ := key p m l hl hne
    exact ⟨p, m, c', by rw [List.getElem?_append_right (by omega)]; simp [show ls.length - vs.length = 0 by omega], k1, k2⟩
/-- the same, the new block by its number. -/
theorem wp_append1s {P : Program} {T E : TypeId} (hT : IntT P T E) {ops : Array Oper} {rest : List Oper} {o : Oper} {a : Act} {Q : Exit → Act → World → Prop} (w0 : World)
    (hg : o.guard = none) (s x : Operand) (hop : o.op = Op.call { callee := Callee.builtin Builtin.append, args := #[s, x], argTypes := #[T, T] })
    (B : Nat) (p : Option Addr) (n c : Nat) (xs : List Int) (hs : a.eval s = .slice p n c) (own : Own E B w0 p n c xs) (y : Int) (sz : Nat) (hsz : sz = w0.heap.size) (hx : a.eval x = .slice (some ⟨sz, 0, none⟩) 1 1)
    (hn : n < 1099511627776) (hB : B ≤ w0.heap.size)
    (hK : ∀ p' c' w', Own E B w' p' (n + 1) c' (xs ++ [y]) → w0.grownBy w' (p.map (·.block)) → (p'.map (·.block) = p.map (·.block) ∨ ∀ a', p' = some a' → w0.heap.size ≤ a'.block) → w0.heap.size ≤ w'.heap.size →
      wpList P ops Q rest (a.put o.dst (.slice p' (n + 1) c')) w') :
    wpList P ops Q (o :: rest) a (w0.alloc (.cells #[.int .i64 y] E)) := by
  subst hsz
  exact wp_append1 hT w0 hg s x hop B p n c xs hs own y hx hn hB hK
/-- the same, the new block by its number. -/
theorem wp_appendVs {P : Program} {T E : TypeId} {z : Value} {k b : Nat} (hT : ElT P T E z k b) {ops : Array Oper} {rest : List Oper} {o : Oper} {a : Act} {Q : Exit → Act → World → Prop} (w0 : World)
    (hg : o.guard = none) (s x : Operand) (hop : o.op = Op.call { callee := Callee.builtin Builtin.append, args := #[s, x], argTypes := #[T, T] })
    (B : Nat) (p : Option Addr) (n c : Nat) (xs : List Value) (hs : a.eval s = .slice p n c) (own : OwnC E k B w0 p n c xs) (es : Array Value) (hel : es.size = k) (he1 : es.toList.all (·.oneCell') = true)
    (sz : Nat) (hsz : sz = w0.heap.size) (hx : a.eval x = .slice (some ⟨sz, 0, none⟩) 1 1)
    (hn : n < 1099511627776) (hB : B ≤ w0.heap.size)
    (hK : ∀ p' c' w', OwnC E k B w' p' (n + 1) c' (xs ++ es.toList) → w0.grownBy w' (p.map (·.block)) → (p'.map (·.block) = p.map (·.block) ∨ ∀ a', p' = some a' → w0.heap.size ≤ a'.block) → w0.heap.size ≤ w'.heap.size →
      wpList P ops Q rest (a.put o.dst (.slice p' (n + 1) c')) w') :
    wpList P ops Q (o :: rest) a (w0.alloc (.cells es E)) := by
  subst hsz
  exact wp_appendV hT w0 hg s x hop B p n c xs hs own es hel he1 hx hn hB hK
/-- the same, the new block by its number. -/
theorem wp_appendRows {P : Program} {T E : TypeId} (hT : ElT P T E (.slice none 0 0) 1 24) {ops : Array Oper} {rest : List Oper} {o : Oper} {a : Act} {Q : Exit → Act → World → Prop} (w0 : World)
    (hg : o.guard = none) (s x : Operand) (hop : o.op = Op.call { callee := Callee.builtin Builtin.append, args := #[s, x], argTypes := #[T, T] })
    (B : Nat) (q : Option Addr) (n c : Nat) (ls : List (List Int)) (hs : a.eval s = .slice q n c) (own : OwnRows E B w0 q n c ls) (p : Option Addr) (m c' : Nat) (l : List Int) (hl : IntsIn w0 p m l)
    (hne : ∀ a, p = some a → q.map (·.block) ≠ some a.block ∧ B ≤ a.block ∧ a.block < w0.heap.size)
    (sz : Nat) (hsz : sz = w0.heap.size) (hx : a.eval x = .slice (some ⟨sz, 0, none⟩) 1 1)
    (hn : n < 1099511627776) (hB : B ≤ w0.heap.size)
    (hK : ∀ q' c2 w', OwnRows E B w' q' (n + 1) c2 (ls ++ [l]) → w0.grownBy w' (q.map (·.block)) → w0.heap.size ≤ w'.heap.size →
      wpList P ops Q rest (a.put o.dst (.slice q' (n + 1) c2)) w') :
    wpList P ops Q (o :: rest) a (w0.alloc (.cells #[.slice p m c'] E)) := by
  subst hsz
  exact wp_appendRow hT w0 hg s x hop B q n c ls hs own p m c' l hl hne hx hn hB hK
end Go.Proofs.Ytelhpfhnmnaefaa
