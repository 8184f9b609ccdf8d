/- Small lemmas on memory: a slice value that reads as a list of ints, a block that is known whole, a row of the call's own, and how each lasts; no conditions. -/
import Derived.WalkKit
import Derived.WalkSpells
import Derived.WalkLawsBesides
import Derived.Lib.Hide
import Derived.BigQuiet
import Derived.Deep.QuietTactic
import Derived.Deep.LoopGhost
import Derived.Maps.AppendAt
namespace Go.Proofs.Ytelhpfhnmnaefaa
open Go.RowKit

theorem ret_bool {a b : Bool} (h : a = b) : Ending.returned (.bool a) = .returned (.bool b) := by rw [h]
theorem ret_int {a b : Int} (h : a = b) : Ending.returned (.int .i64 a) = .returned (.int .i64 b) := by rw [h]

/-- a slice value '.slice p n c' reads as the list xs of ints. -/
def IntsIn (w : World) (p : Option Addr) (n : Nat) (xs : List Int) : Prop :=
  xs.length = n ∧ ∀ j, j < n → ∃ b o, p = some ⟨b, o, none⟩ ∧ b < w.heap.size ∧ w.cell? ⟨b, o + j, none⟩ = some (.int .i64 (xs[j]?.getD 0))

theorem IntsIn.len {w : World} {p : Option Addr} {n : Nat} {xs : List Int} (h : IntsIn w p n xs) : xs.length = n := h.1
theorem IntsIn.keep {w w' : World} {p : Option Addr} {n : Nat} {xs : List Int} (h : IntsIn w p n xs) (hs : w.heap.size ≤ w'.heap.size)
    (hk : ∀ b o, p = some ⟨b, o, none⟩ → w'.heap[b]? = w.heap[b]?) : IntsIn w' p n xs :=
  ⟨h.1, fun j hj => let ⟨b, o, e, hb, hc⟩ := h.2 j hj; ⟨b, o, e, Nat.lt_of_lt_of_le hb hs, (World.cell?_of_block (a := ⟨b, o + j, none⟩) (hk b o e)).trans hc⟩⟩
theorem IntsIn.below {w w' : World} {p : Option Addr} {n : Nat} {xs : List Int} (h : IntsIn w p n xs) (hb : Below w.heap.size w w') : IntsIn w' p n xs :=
  ⟨h.1, fun j hj => let ⟨b, o, e, hs, hc⟩ := h.2 j hj; ⟨b, o, e, Nat.lt_of_lt_of_le hs hb.size, (hb.cell (p := ⟨b, o + j, none⟩) hs).trans hc⟩⟩
theorem IntsIn.at {w : World} {p : Option Addr} {n : Nat} {xs : List Int} (h : IntsIn w p n xs) (hn : 0 < n) :
    ∃ b o, p = some ⟨b, o, none⟩ ∧ b < w.heap.size ∧ ∀ j, j < n → w.cell? ⟨b, o + j, none⟩ = some (.int .i64 (xs[j]?.getD 0)) := by
  obtain ⟨b, o, e, hs, _⟩ := h.2 0 hn
  refine ⟨b, o, e, hs, fun j hj => ?_⟩
  obtain ⟨b', o', e', _, hc⟩ := h.2 j hj
  rw [e] at e'; cases e'
  exact hc
theorem IntsIn.nil (w : World) (p : Option Addr) : IntsIn w p 0 [] := ⟨rfl, fun j hj => absurd hj (Nat.not_lt_zero j)⟩
theorem IntsIn.mk' {w : World} {b o n : Nat} {xs : List Int} (hl : xs.length = n) (hb : b < w.heap.size) (hc : ∀ j, j < n → w.cell? ⟨b, o + j, none⟩ = some (.int .i64 (xs[j]?.getD 0))) : IntsIn w (some ⟨b, o, none⟩) n xs :=
  ⟨hl, fun j hj => ⟨b, o, rfl, hb, hc j hj⟩⟩
theorem IntsIn.alloc {w : World} {p : Option Addr} {n : Nat} {xs : List Int} (h : IntsIn w p n xs) (o : Obj) : IntsIn (w.alloc o) p n xs := h.below ((Below.refl _ _).alloc (Nat.le_refl _) o)
/-- a part of such a slice, 's[i:j]' (its address as the model tells it). -/
theorem IntsIn.part {w : World} {p : Option Addr} {n : Nat} {xs : List Int} (h : IntsIn w p n xs) (i j : Nat) (hij : i ≤ j) (hj : j ≤ n) (q : Option Addr) (hq : i < j → q = p.map (·.add i)) :
    IntsIn w q (j - i) ((xs.take j).drop i) := by
  refine ⟨by simp; have := h.1; omega, fun k hk => ?_⟩
  obtain ⟨b, o, e, hs, hc⟩ := h.2 (i + k) (by omega)
  refine ⟨b, o + i, ?_, hs, ?_⟩
  · rw [hq (by omega), e]; simp [Addr.add]
  · rw [show o + i + k = o + (i + k) from by omega, hc]
    simp [show i + k < j from by omega]

theorem IntsIn.new (w : World) (c : Array Value) (t : TypeId) (b n : Nat) (xs : List Int) (hb : b = w.heap.size) (hc : c = (xs.map (Value.int .i64)).toArray) (hn : xs.length = n) :
    IntsIn (w.alloc (.cells c t)) (some ⟨b, 0, none⟩) n xs := by
  subst hb
  refine IntsIn.mk' hn (by simp) fun j hj => ?_
  have hj' : j < xs.length := by omega
  rw [World.cell?_alloc_new, hc]
  simp [hj']

/-- block g is known whole: an own row of ints, none of its cells frozen. -/
def Nums (w : World) (g : Nat) (t : TypeId) (xs : List Int) : Prop := w.heap[g]? = some (.cells (xs.map (Value.int .i64)).toArray t (0, 0))
section
variable {w w' : World} {g : Nat} {t : TypeId} {xs : List Int}
theorem Nums.lt (h : Nums w g t xs) : g < w.heap.size := by
  rcases Nat.lt_or_ge g w.heap.size with hlt | hge
  · exact hlt
  · unfold Nums at h; rw [Array.getElem?_eq_none hge] at h; cases h
theorem Nums.cell (h : Nums w g t xs) {i : Nat} (hi : i < xs.length) : w.cell? ⟨g, i, none⟩ = some (.int .i64 (xs[i]?.getD 0)) := by
  rw [cell_of_row w g i _ t (0, 0) h]; simp [hi]
theorem Nums.free (h : Nums w g t xs) (i : Nat) : w.frozen? ⟨g, i, none⟩ = false := by
  unfold Nums at h; simp [World.frozen?, h]
theorem Nums.new (w : World) (c : Array Value) (t : TypeId) (xs : List Int) (hc : c = (xs.map (Value.int .i64)).toArray) : Nums (w.alloc (.cells c t)) w.heap.size t xs := by
  subst hc; exact heap_alloc_new w _
theorem Nums.set (h : Nums w g t xs) (i : Nat) (v : Int) : Nums (w.setCell ⟨g, i, none⟩ (.int .i64 v)) g t (xs.set i v) := by
  unfold Nums at h ⊢
  simp [World.setCell, Array.getElem?_modify, h, List.map_set]
theorem Nums.far (h : Nums w g t xs) {p : Addr} (hp : g ≠ p.block) (u : Value) : Nums (w.setCell p u) g t xs := (Below.heap_setCell w p u g hp).trans h
theorem Nums.alloc (h : Nums w g t xs) (o : Obj) : Nums (w.alloc o) g t xs := (Below.heap_alloc w o g h.lt).trans h
theorem Nums.drew (h : Nums w g t xs) : Nums w.drew g t xs := h
theorem Nums.below {B : Nat} (h : Nums w g t xs) (hb : Below B w w') (hg : g < B) : Nums w' g t xs := (hb.block g hg).trans h
theorem Nums.grown {row : Option Nat} (h : Nums w g t xs) (hb : w.grownBy w' row) (hg : some g ≠ row) : Nums w' g t xs := (hb.block g h.lt hg).trans h
theorem Nums.in (h : Nums w g t xs) {n : Nat} (hn : xs.length = n) : IntsIn w (some ⟨g, 0, none⟩) n xs :=
  IntsIn.mk' hn h.lt fun j hj => by simpa using h.cell (i := j) (by omega)
end

/-- the element type's row of the table of types, and the slice type's: ints. -/
structure IntT (P : Program) (T E : TypeId) : Prop where
  under : P.underlying T = some (.slice E)
  info : (P.info? E).map (fun i => (i.zero, i.size, i.bytes)) = some (some (.int .i64 0), 1, 8)

/-- '.slice p n c' is a row of the call's own (blocks from B on) that reads as xs; it may be appended to. -/
def Own (E : TypeId) (B : Nat) (w : World) (p : Option Addr) (n c : Nat) (xs : List Int) : Prop := w.ownsRow B E 1 (.slice p n c) n (xs.map (Value.int .i64))
section
variable {E : TypeId} {B : Nat} {w w' : World} {p : Option Addr} {n c : Nat} {xs : List Int}
theorem Own.nil (E : TypeId) (B : Nat) (w : World) : Own E B w none 0 0 [] := World.ownsRow_nil w B E 1
theorem Own.len (h : Own E B w p n c xs) : xs.length = n := by have := h.1; simpa using this
theorem Own.alloc (h : Own E B w p n c xs) (o : Obj) : Own E B (w.alloc o) p n c xs := World.ownsRow.alloc h o
theorem Own.drew (h : Own E B w p n c xs) : Own E B w.drew p n c xs := World.ownsRow.drew h
theorem Own.in (h : Own E B w p n c xs) : IntsIn w p n xs := by
  have hl := h.len
  rcases h.2 with ⟨hv, rfl⟩ | ⟨g, cap, cur, hv, _, hh, _, _, _, hcur⟩
  · have : xs = [] := List.eq_nil_of_length_eq_zero hl
    subst this; exact IntsIn.nil _ _
  · injection hv with hp _ _
    subst hp
    refine IntsIn.mk' hl (Nat.lt_of_not_le fun hge => by rw [Array.getElem?_eq_none hge] at hh; cases hh) fun j hj => ?_
    have hj' : j < xs.length := by omega
    rw [Nat.zero_add, cell_of_row w g j cur E (0, 0) hh]
    have e : (cur.toList.take (n * 1))[j]? = (xs.map (Value.int .i64))[j]? := by rw [hcur]
    rw [List.getElem?_take_of_lt (by omega)] at e
    simpa [hj'] using e
theorem Own.block (h : Own E B w p n c xs) : ∀ a, p = some a → B ≤ a.block ∧ a.block < w.heap.size := fun a ha => World.ownsRow.lt h a.block (by rw [ha]; rfl)
theorem Own.keep (h : Own E B w p n c xs) (hk : ∀ a, p = some a → w'.heap[a.block]? = w.heap[a.block]?) : Own E B w' p n c xs := by
  refine ⟨h.1, ?_⟩
  rcases h.2 with h2 | ⟨g, cap, cur, hv, hb, hh, r⟩
  · exact .inl h2
  · injection hv with hp hn hc
    subst hp
    exact .inr ⟨g, cap, cur, by rw [hc], hb, (hk _ rfl).trans hh, r⟩
theorem Own.below {B' : Nat} (h : Own E B w p n c xs) (hb : Below B' w w') (hB : w.heap.size ≤ B') : Own E B w' p n c xs := h.keep fun a ha => hb.block _ (by have := (h.block a ha).2; omega)
theorem Own.grown {row : Option Nat} (h : Own E B w p n c xs) (hg : w.grownBy w' row) (hr : ∀ a, p = some a → some a.block ≠ row) : Own E B w' p n c xs := h.keep fun a ha => hg.block _ (h.block a ha).2 (hr a ha)
end

/-- 'out = append(out, y)', out a row of the call's own: it may grow in place or move. -/
theorem wp_append1 {P : Program} {T E : TypeId} (hT : IntT P T E) {ops : Array Oper} {rest : List Oper} {o : Oper} {a : Act} {Q : Exit → Act → World → Prop} (w0 : World)
    (hg : o.guard = none) (s x : Operand) (hop : o.op = Op.call { callee := Callee.builtin Builtin.append, args := #[s, x], argTypes := #[T, T] })
    (B : Nat) (p : Option Addr) (n c : Nat) (xs : List Int) (hs : a.eval s = .slice p n c) (own : Own E B w0 p n c xs) (y : Int) (hx : a.eval x = .slice (some ⟨w0.heap.size, 0, none⟩) 1 1)
    (hn : n < 1099511627776) (hB : B ≤ w0.heap.size)
    (hK : ∀ p' c' w', Own E B w' p' (n + 1) c' (xs ++ [y]) → w0.grownBy w' (p.map (·.block)) → (p'.map (·.block) = p.map (·.block) ∨ ∀ a', p' = some a' → w0.heap.size ≤ a'.block) → w0.heap.size ≤ w'.heap.size →
      wpList P ops Q rest (a.put o.dst (.slice p' (n + 1) c')) w') :
    wpList P ops Q (o :: rest) a (w0.alloc (.cells #[.int .i64 y] E)) := by
  obtain ⟨i0, hi, hz0, hz1, hz2⟩ := info_parts hT.info
  refine wpList_plain hg fun K hK' => ?_
  obtain ⟨v', w', hrun, h2, h3, _, h5⟩ := run_append_own_at (P := P) (w0.alloc (.cells #[.int .i64 y] E)) B T o.type E i0 (.int .i64 0) 1 8 hT.under hi hz0 hz1 hz2 rfl (by omega) (.slice p n c) n _ (own.alloc _) ⟨w0.heap.size, 0, none⟩ 1 1 [.int .i64 y] rfl
    (fun j u hj => by
      match j, hj with
      | 0, hj => simp at hj; subst hj; simp [Addr.add])
    (by intro u hu; simp at hu; subst hu; rfl) (by unfold maxLen; omega) (by omega) (by simp; omega)
  unfold Oper.wp
  simp [execOp, hop, resolve, invoke, builtin, hs, hx, hrun, Result.andThen]
  have hshape : ∃ p' c', v' = .slice p' (n + 1) c' := by
    rcases h2.2 with ⟨hv, h0⟩ | ⟨g, cap, cur, hv, _⟩
    · omega
    · exact ⟨_, _, hv⟩
  obtain ⟨p', c', rfl⟩ := hshape
  refine hK' _ _ (hK p' c' w' (by simpa [Own] using h2) ?_ ?_ ?_)
  · refine ⟨h3.os, h3.tape, h3.output, Nat.le_trans (by simp) h3.size, fun k hk hne => (h3.block k (by simp; omega) ?_).trans (Below.heap_alloc w0 _ k hk)⟩
    intro e; apply hne; rw [e]; cases p <;> rfl
  · rcases h5 with h5 | h5
    · left; cases p <;> cases p' <;> simp_all [Value.ownBlock]
    · right; intro a' ha; subst ha; simp [Value.ownBlock] at h5; omega
  · exact Nat.le_trans (by simp) h3.size

theorem run_mk {P : Program} {T E : TypeId} (hT : IntT P T E) (kl kc : IntKind) (L C : Int) (n : Nat) (hL : L = (n : Int)) (hC : C = (n : Int)) (hn : n ≤ 1099511627776) (w : World) :
    (Instr.makeSlice T (.int kl L) (.int kc C)).run P w = .ok (.slice (some ⟨w.heap.size, 0, none⟩) n n) (w.alloc (.cells ((List.replicate n 0).map (Value.int .i64)).toArray E)) := by
  obtain ⟨i0, hi, hz0, hz1, hz2⟩ := info_parts hT.info
  have hrun := run_make (P := P) w T E i0 (.int .i64 0) hT.under hi hz0 kl kc n n (by omega) (by omega) (by rw [hz2]; omega) (by omega)
  subst hL hC
  simp only [Int.toNat_natCast] at hrun
  rw [hrun]
  congr 3
  simp only [madeCells, Value.cells, hz1, Nat.mul_one]
  apply Array.ext
  · simp
  · intro i h1 h2
    simp [Nat.mod_one]

/-- 'make([]int, n)': a block of zeros, known whole. -/
theorem wp_make {P : Program} {T E : TypeId} (hT : IntT P T E) {ops : Array Oper} {rest : List Oper} {o : Oper} {a : Act} {Q : Exit → Act → World → Prop} (w : World) (g : Nat) (hgw : Hid (g = w.heap.size))
    (hg : o.guard = none) (l c : Operand) (hop : o.op = Op.makeSlice T l c) (kl kc : IntKind) (L C : Int) (n : Nat) (hl : a.eval l = .int kl L) (hc : a.eval c = .int kc C) (hL : L = (n : Int)) (hC : C = (n : Int)) (hn : n ≤ 1099511627776)
    (hK : ∀ w', Nums w' g E (List.replicate n 0) → Below g w w' → g < w'.heap.size → wpList P ops Q rest (a.put o.dst (.slice (some ⟨g, 0, none⟩) n n)) w') :
    wpList P ops Q (o :: rest) a w := by
  have hgw := hgw.out
  subst hgw
  obtain ⟨i0, hi, hz0, hz1, hz2⟩ := info_parts hT.info
  refine wpList_plain hg fun K hK' => ?_
  have hrun := run_make (P := P) w T E i0 (.int .i64 0) hT.under hi hz0 kl kc n n (by omega) (by omega) (by rw [hz2]; omega) (by omega)
  subst hL hC
  unfold Oper.wp
  simp only [execOp, hop, hl, hc]
  simp only [Int.toNat_natCast] at hrun
  simp [hrun, Result.andThen]
  refine hK' _ _ (hK _ (Nums.new _ _ _ _ ?_) ((Below.refl _ _).alloc (Nat.le_refl _) _) (by simp))
  simp only [madeCells, Value.cells, hz1, Nat.mul_one]
  apply Array.ext
  · simp
  · intro i h1 h2
    simp [Nat.mod_one]

/-- block g is known whole: an own row of numbers of kind k. -/
def NumsK (k : IntKind) (w : World) (g : Nat) (t : TypeId) (xs : List Int) : Prop := w.heap[g]? = some (.cells (xs.map (Value.int k)).toArray t (0, 0))
section
variable {k : IntKind} {w w' : World} {g : Nat} {t : TypeId} {xs : List Int}
theorem NumsK.lt (h : NumsK k w g t xs) : g < w.heap.size := by
  rcases Nat.lt_or_ge g w.heap.size with hlt | hge
  · exact hlt
  · unfold NumsK at h; rw [Array.getElem?_eq_none hge] at h; cases h
theorem NumsK.cell (h : NumsK k w g t xs) {i : Nat} (hi : i < xs.length) : w.cell? ⟨g, i, none⟩ = some (.int k (xs[i]?.getD 0)) := by
  rw [cell_of_row w g i _ t (0, 0) h]; simp [hi]
theorem NumsK.free (h : NumsK k w g t xs) (i : Nat) : w.frozen? ⟨g, i, none⟩ = false := by
  unfold NumsK at h; simp [World.frozen?, h]
theorem NumsK.new (w : World) (c : Array Value) (t : TypeId) (xs : List Int) (hc : c = (xs.map (Value.int k)).toArray) : NumsK k (w.alloc (.cells c t)) w.heap.size t xs := by
  subst hc; exact heap_alloc_new w _
theorem NumsK.set (h : NumsK k w g t xs) (i : Nat) (v : Int) : NumsK k (w.setCell ⟨g, i, none⟩ (.int k v)) g t (xs.set i v) := by
  unfold NumsK at h ⊢
  simp [World.setCell, Array.getElem?_modify, h, List.map_set]
theorem NumsK.far (h : NumsK k w g t xs) {p : Addr} (hp : g ≠ p.block) (u : Value) : NumsK k (w.setCell p u) g t xs := (Below.heap_setCell w p u g hp).trans h
theorem NumsK.alloc (h : NumsK k w g t xs) (o : Obj) : NumsK k (w.alloc o) g t xs := (Below.heap_alloc w o g h.lt).trans h
theorem NumsK.below {B : Nat} (h : NumsK k w g t xs) (hb : Below B w w') (hg : g < B) : NumsK k w' g t xs := (hb.block g hg).trans h
theorem NumsK.grown {row : Option Nat} (h : NumsK k w g t xs) (hb : w.grownBy w' row) (hg : some g ≠ row) : NumsK k w' g t xs := (hb.block g h.lt hg).trans h
end
/-- 'make' of n zeros of kind k (b bytes each). -/
theorem run_mkK {P : Program} {T E : TypeId} (k : IntKind) (b : Nat) (hu : P.underlying T = some (.slice E)) (hinfo : (P.info? E).map (fun i => (i.zero, i.size, i.bytes)) = some (some (.int k 0), 1, b)) (hb : b ≤ 16)
    (kl kc : IntKind) (L C : Int) (n : Nat) (hL : L = (n : Int)) (hC : C = (n : Int)) (hn : n ≤ 1099511627776) (w : World) :
    (Instr.makeSlice T (.int kl L) (.int kc C)).run P w = .ok (.slice (some ⟨w.heap.size, 0, none⟩) n n) (w.alloc (.cells ((List.replicate n 0).map (Value.int k)).toArray E)) := by
  obtain ⟨i0, hi, hz0, hz1, hz2⟩ := info_parts hinfo
  have hbn : b * n ≤ 16 * 1099511627776 := Nat.mul_le_mul hb hn
  have hrun := run_make (P := P) w T E i0 (.int k 0) hu hi hz0 kl kc n n (by omega) (by omega) (by rw [hz2]; have e : ((b * n : Nat) : Int) = (b : Int) * n := by simp
                                                                                                   omega) (by omega)
  subst hL hC
  simp only [Int.toNat_natCast] at hrun
  rw [hrun]
  congr 3
  simp only [madeCells, Value.cells, hz1, Nat.mul_one]
  apply Array.ext
  · simp
  · intro i h1 h2
    simp [Nat.mod_one]
theorem lt_of_heap {w : World} {b : Nat} {o : Obj} (h : w.heap[b]? = some o) : b < w.heap.size :=
  Nat.lt_of_not_le fun hge => by rw [Array.getElem?_eq_none hge] at h; cases h
theorem grown_trans {a b c : World} {row : Option Nat} (h : a.grownBy b row) (k : b.grownBy c row) : a.grownBy c row :=
  ⟨k.os.trans h.os, k.tape.trans h.tape, k.output.trans h.output, Nat.le_trans h.size k.size, fun i hi hne => (k.block i (Nat.lt_of_lt_of_le hi h.size) hne).trans (h.block i hi hne)⟩
theorem grown_set {a w : World} {g : Nat} (h : a.grownBy w (some g)) (i : Nat) (u : Value) : a.grownBy (w.setCell ⟨g, i, none⟩ u) (some g) :=
  ⟨h.os, h.tape, h.output, by simpa [World.setCell] using h.size, fun k hk hne => (Below.heap_setCell w _ u k (by rintro rfl; exact hne rfl)).trans (h.block k hk hne)⟩
theorem grown_below {a b : World} (h : Below a.heap.size a b) (row : Option Nat) : a.grownBy b row := ⟨h.os, h.tape, h.output, h.size, fun i hi _ => h.block i hi⟩
theorem grown_drewN {a w : World} {row : Option Nat} (h : a.grownBy w row) (n : Nat) : a.grownBy (w.drewN n) row := ⟨h.os, h.tape, h.output, h.size, h.block⟩
theorem grown_drew {a w : World} {row : Option Nat} (h : a.grownBy w row) : a.grownBy w.drew row := ⟨h.os, h.tape, h.output, h.size, h.block⟩
theorem heap4 (w : World) (o1 o2 o3 o4 : Obj) : ((((w.alloc o1).alloc o2).alloc o3).alloc o4).heap[w.heap.size]? = some o1 ∧ ((((w.alloc o1).alloc o2).alloc o3).alloc o4).heap[w.heap.size + 1]? = some o2 ∧
    ((((w.alloc o1).alloc o2).alloc o3).alloc o4).heap[w.heap.size + 1 + 1]? = some o3 ∧ ((((w.alloc o1).alloc o2).alloc o3).alloc o4).heap[w.heap.size + 1 + 1 + 1]? = some o4 := by
  refine ⟨?_, ?_, ?_, ?_⟩
  · rw [Below.heap_alloc _ _ _ (by simp; omega), Below.heap_alloc _ _ _ (by simp; omega), Below.heap_alloc _ _ _ (by simp), heap_alloc_new]
  · rw [Below.heap_alloc _ _ _ (by simp), Below.heap_alloc _ _ _ (by simp)]; simpa using heap_alloc_new (w.alloc o1) o2
  · rw [Below.heap_alloc _ _ _ (by simp)]; simpa using heap_alloc_new ((w.alloc o1).alloc o2) o3
  · simpa using heap_alloc_new (((w.alloc o1).alloc o2).alloc o3) o4
theorem below4 (w : World) (o1 o2 o3 o4 : Obj) : Below w.heap.size w ((((w.alloc o1).alloc o2).alloc o3).alloc o4) :=
  ((((Below.refl _ _).alloc (Nat.le_refl _) _).alloc (by simp) _).alloc (by simp; omega) _).alloc (by simp; omega) _
theorem heap3 (w : World) (o1 o2 o3 : Obj) : (((w.alloc o1).alloc o2).alloc o3).heap[w.heap.size]? = some o1 ∧ (((w.alloc o1).alloc o2).alloc o3).heap[w.heap.size + 1]? = some o2 ∧ (((w.alloc o1).alloc o2).alloc o3).heap[w.heap.size + 1 + 1]? = some o3 := by
  refine ⟨?_, ?_, ?_⟩
  · rw [Below.heap_alloc _ _ _ (by simp; omega), Below.heap_alloc _ _ _ (by simp), heap_alloc_new]
  · rw [Below.heap_alloc _ _ _ (by simp)]; simpa using heap_alloc_new (w.alloc o1) o2
  · simpa using heap_alloc_new ((w.alloc o1).alloc o2) o3
theorem below3 (w : World) (o1 o2 o3 : Obj) : Below w.heap.size w (((w.alloc o1).alloc o2).alloc o3) :=
  (((Below.refl _ _).alloc (Nat.le_refl _) _).alloc (by simp) _).alloc (by simp; omega) _
theorem heap2 (w : World) (o1 o2 : Obj) : ((w.alloc o1).alloc o2).heap[w.heap.size]? = some o1 ∧ ((w.alloc o1).alloc o2).heap[w.heap.size + 1]? = some o2 := by
  refine ⟨?_, ?_⟩
  · rw [Below.heap_alloc _ _ _ (by simp), heap_alloc_new]
  · simpa using heap_alloc_new (w.alloc o1) o2
theorem below2 (w : World) (o1 o2 : Obj) : Below w.heap.size w ((w.alloc o1).alloc o2) :=
  ((Below.refl _ _).alloc (Nat.le_refl _) _).alloc (by simp) _

section
variable {E : TypeId} {B : Nat} {w w' : World} {p : Option Addr} {n c : Nat} {xs : List Int}
/-- where such a row lies, if it is not empty. -/
theorem Own.where (h : Own E B w p n c xs) (hn : 0 < n) : ∃ g, p = some ⟨g, 0, none⟩ ∧ B ≤ g ∧ g < w.heap.size ∧ n ≤ c := by
  rcases h.2 with ⟨_, rfl⟩ | ⟨g, cap, cur, hv, hb, hh, hnc, _⟩
  · omega
  · injection hv with hp _ hc
    subst hc
    exact ⟨g, hp, hb, lt_of_heap hh, hnc⟩
theorem Own.cell {g : Nat} (h : Own E B w (some ⟨g, 0, none⟩) n c xs) {i : Nat} (hi : i < n) : w.cell? ⟨g, i, none⟩ = some (.int .i64 (xs[i]?.getD 0)) := by
  have hl := h.len
  rw [World.ownsRow.cellAt h i (by omega)]
  simp [show i < xs.length by omega]
theorem Own.free {g : Nat} (h : Own E B w (some ⟨g, 0, none⟩) n c xs) (i : Nat) : w.frozen? ⟨g, i, none⟩ = false := World.ownsRow.frozenAt h i
theorem Own.set {g : Nat} (h : Own E B w (some ⟨g, 0, none⟩) n c xs) (i : Nat) (v : Int) : Own E B (w.setCell ⟨g, i, none⟩ (.int .i64 v)) (some ⟨g, 0, none⟩) n c (xs.set i v) := by
  have := (World.ownsRow.stored h i (.int .i64 v)).1
  unfold Own
  rwa [List.map_set]
theorem Own.mono {B' : Nat} (h : Own E B w p n c xs) (hB : B' ≤ B) : Own E B' w p n c xs := by
  refine ⟨h.1, ?_⟩
  rcases h.2 with h2 | ⟨g, cap, cur, hv, hb, r⟩
  · exact .inl h2
  · exact .inr ⟨g, cap, cur, hv, by omega, r⟩
end
theorem Own.empty (E : TypeId) (w : World) : Own E w.heap.size (w.alloc (.cells #[] E)) (some ⟨w.heap.size, 0, none⟩) 0 0 [] :=
  World.ownsRow_made w #[] 0 (Nat.le_refl _) (by unfold maxLen; omega) rfl

/-- 'out = append(out, src...)', out a row of the call's own, src not nil. -/
theorem wp_appendL {P : Program} {T E : TypeId} (hT : IntT P T E) {ops : Array Oper} {rest : List Oper} {o : Oper} {a : Act} {Q : Exit → Act → World → Prop} (w : World)
    (hg : o.guard = none) (s x : Operand) (hop : o.op = Op.call { callee := Callee.builtin Builtin.append, args := #[s, x], argTypes := #[T, T] })
    (B : Nat) (p : Option Addr) (n c : Nat) (xs : List Int) (hs : a.eval s = .slice p n c) (own : Own E B w p n c xs) (ad : Addr) (m c2 : Nat) (ys : List Int) (hx : a.eval x = .slice (some ad) m c2) (hin : IntsIn w (some ad) m ys)
    (hn : n + m < 1099511627776) (hB : B ≤ w.heap.size)
    (hK : ∀ p' c' w', Own E B w' p' (n + m) c' (xs ++ ys) → w.grownBy w' (p.map (·.block)) → (p'.map (·.block) = p.map (·.block) ∨ ∀ a', p' = some a' → w.heap.size ≤ a'.block) → w.heap.size ≤ w'.heap.size →
      wpList P ops Q rest (a.put o.dst (.slice p' (n + m) c')) w') :
    wpList P ops Q (o :: rest) a w := by
  obtain ⟨i0, hi, hz0, hz1, hz2⟩ := info_parts hT.info
  refine wpList_plain hg fun K hK' => ?_
  have hyl := hin.len
  obtain ⟨v', w', hrun, h2, h3, _, h5⟩ := run_append_own_at (P := P) w B T o.type E i0 (.int .i64 0) 1 8 hT.under hi hz0 hz1 hz2 rfl (by omega) (.slice p n c) n _ own ad m c2 (ys.map (Value.int .i64)) (by simp [hyl])
    (fun j u hj => by
      have hj' : j < m := by
        have := (List.getElem?_eq_some_iff.1 hj).1
        simp at this; omega
      obtain ⟨b, o', e, _, hc⟩ := hin.2 j hj'
      cases e
      rw [Addr.add_lit, hc]
      rw [← hj]; simp [show j < ys.length by omega])
    (by intro u hu; simp at hu; obtain ⟨y, _, rfl⟩ := hu; rfl) (by unfold maxLen; omega) (by omega) hB
  unfold Oper.wp
  simp [execOp, hop, resolve, invoke, builtin, hs, hx, hrun, Result.andThen]
  have hshape : ∃ p' c', v' = .slice p' (n + m) c' := by
    rcases h2.2 with ⟨hv, h0⟩ | ⟨g, cap, cur, hv, _⟩
    · exact ⟨none, 0, by rw [hv, h0]⟩
    · exact ⟨_, _, hv⟩
  obtain ⟨p', c', rfl⟩ := hshape
  refine hK' _ _ (hK p' c' w' (by simpa [Own] using h2) ?_ ?_ h3.size)
  · refine ⟨h3.os, h3.tape, h3.output, h3.size, fun k hk hne => h3.block k hk ?_⟩
    intro e; apply hne; rw [e]; cases p <;> rfl
  · rcases h5 with h5 | h5
    · left; cases p <;> cases p' <;> simp_all [Value.ownBlock]
    · right; intro a' ha; subst ha; simp [Value.ownBlock] at h5; omega
end Go.Proofs.Ytelhpfhnmnaefaa
