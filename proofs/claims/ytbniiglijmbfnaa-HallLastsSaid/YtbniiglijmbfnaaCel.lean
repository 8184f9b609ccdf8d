/- Rows of cells of any kind that are only read; bytes and strings as lists of numbers; no conditions. -/
import Derived.Test.YtbniiglijmbfnaaGen
import Derived.Laws.BytesArg
import Derived.Lib.AppendStr
namespace Go.Proofs.Ytbniiglijmbfnaa
open Go.RowKit

/-- the cells from p on are vs. -/
def CellsIn (w : World) (p : Option Addr) (vs : List Value) : Prop := ∀ j v, vs[j]? = some v → ∃ b o, p = some ⟨b, o, none⟩ ∧ b < w.heap.size ∧ w.cell? ⟨b, o + j, none⟩ = some v
section
variable {w w' : World} {p : Option Addr} {vs : List Value}
theorem CellsIn.nil (w : World) (p : Option Addr) : CellsIn w p [] := fun j v h => by simp at h
theorem CellsIn.below (h : CellsIn w p vs) (hb : Below w.heap.size w w') : CellsIn w' p vs := fun j v hj => by
  obtain ⟨b, o, e, hs, hc⟩ := h j v hj
  exact ⟨b, o, e, Nat.lt_of_lt_of_le hs hb.size, (hb.cell (p := ⟨b, o + j, none⟩) hs).trans hc⟩
theorem CellsIn.alloc (h : CellsIn w p vs) (o : Obj) : CellsIn (w.alloc o) p vs := h.below ((Below.refl _ _).alloc (Nat.le_refl _) o)
theorem CellsIn.keep (h : CellsIn w p vs) (hs : w.heap.size ≤ w'.heap.size) (hk : ∀ b o, p = some ⟨b, o, none⟩ → w'.heap[b]? = w.heap[b]?) : CellsIn w' p vs := fun j v hj => by
  obtain ⟨b, o, e, hb, hc⟩ := h j v hj
  exact ⟨b, o, e, Nat.lt_of_lt_of_le hb hs, (World.cell?_of_block (a := ⟨b, o + j, none⟩) (hk b o e)).trans hc⟩
theorem CellsIn.at (h : CellsIn w p vs) (hn : 0 < vs.length) : ∃ b o, p = some ⟨b, o, none⟩ ∧ b < w.heap.size ∧ ∀ j v, vs[j]? = some v → w.cell? ⟨b, o + j, none⟩ = some v := by
  obtain ⟨b, o, e, hs, _⟩ := h 0 _ (List.getElem?_eq_getElem hn)
  refine ⟨b, o, e, hs, fun j v hj => ?_⟩
  obtain ⟨b', o', e', _, hc⟩ := h j v hj
  rw [e] at e'; cases e'
  exact hc
theorem CellsIn.part (h : CellsIn w p vs) (i n : Nat) (q : Option Addr) (hq : 0 < ((vs.drop i).take n).length → q = p.map (·.add i)) : CellsIn w q ((vs.drop i).take n) := fun j v hj => by
  have hj2 : j < ((vs.drop i).take n).length := (List.getElem?_eq_some_iff.1 hj).1
  have hjn : j < n := by simp at hj2; omega
  rw [List.getElem?_take_of_lt hjn, List.getElem?_drop] at hj
  obtain ⟨b, o, e, hs, hc⟩ := h (i + j) v hj
  refine ⟨b, o + i, ?_, hs, ?_⟩
  · rw [hq (by omega), e]; simp [Addr.add]
  · rw [show o + i + j = o + (i + j) from by omega]; exact hc
theorem OwnC.cells {E k B n c : Nat} (h : OwnC E k B w p n c vs) : CellsIn w p vs := fun j v hj => by
  have hj2 : j < vs.length := (List.getElem?_eq_some_iff.1 hj).1
  have hl := h.len
  have hn : 0 < n := by
    rcases Nat.eq_zero_or_pos n with h0 | h0
    · subst h0; simp at hl; subst hl; simp at hj2
    · exact h0
  obtain ⟨g, rfl, _, hg, _⟩ := h.where hn
  exact ⟨g, 0, rfl, hg, by rw [Nat.zero_add, h.cell (by omega)]; exact hj⟩
end

theorem OwnC.lit {E k n : Nat} (w : World) (cs : List Value) (hl : cs.length = n * k) (hn : n ≤ 1099511627776) : OwnC E k w.heap.size (w.alloc (.cells cs.toArray E)) (some ⟨w.heap.size, 0, none⟩) n n cs :=
  ⟨hl, .inr ⟨w.heap.size, n, cs.toArray, rfl, Nat.le_refl _, heap_alloc_new w _, Nat.le_refl _, by unfold maxLen; omega, by simpa using hl, by simpa using List.take_of_length_le (by omega)⟩⟩
def bc (x : Nat) : Value := .int .u8 (x : Int)
def bcs (l : List Nat) : List Value := l.map bc
theorem bcs_len (l : List Nat) : (bcs l).length = l.length := by simp [bcs]
theorem bcs_at (l : List Nat) (j : Nat) (h : j < l.length) : (bcs l)[j]? = some (.int .u8 ((l[j]?.getD 0 : Nat) : Int)) := by simp [bcs, bc, h]
theorem bcs_app (l r : List Nat) : bcs (l ++ r) = bcs l ++ bcs r := by simp [bcs]
theorem bcs_one (l : List Nat) : (bcs l).all (·.oneCell') = true := by
  rw [List.all_eq_true]; intro v hv; simp [bcs] at hv; obtain ⟨x, _, rfl⟩ := hv; rfl
/-- the string whose bytes are these numbers; a string's bytes as numbers. -/
def strB (l : List Nat) : ByteArray := strOfNums (l.map fun x : Nat => (x : Int))
def bs (s : ByteArray) : List Nat := s.data.toList.map UInt8.toNat
theorem bs_len (s : ByteArray) : (bs s).length = s.size := by simp [bs]
theorem bs_lt (s : ByteArray) : ∀ x ∈ bs s, x < 256 := by
  intro x hx
  simp [bs] at hx
  obtain ⟨y, _, rfl⟩ := hx
  exact y.toNat_lt
theorem strB_bs (s : ByteArray) : strB (bs s) = s := by
  apply ByteArray.ext
  apply Array.toList_inj.1
  unfold strB bs
  rw [strOfNums_data, List.map_map, List.map_map]
  conv => rhs; rw [← List.map_id s.data.toList]
  apply List.map_congr_left
  intro x _
  simp
theorem bs_strB (l : List Nat) (h : ∀ x ∈ l, x < 256) : bs (strB l) = l := by
  unfold strB bs
  rw [strOfNums_data, List.map_map, List.map_map]
  conv => rhs; rw [← List.map_id l]
  apply List.map_congr_left
  intro x hx
  have := h x hx
  simp
  omega
theorem strB_inj {l r : List Nat} (h1 : ∀ x ∈ l, x < 256) (h2 : ∀ x ∈ r, x < 256) (e : strB l = strB r) : l = r := by
  rw [← bs_strB l h1, ← bs_strB r h2, e]
theorem strCells_bs (s : ByteArray) : Lib.strCells s = bcs (bs s) := by
  unfold Lib.strCells bcs bs
  rw [List.map_map]; rfl
theorem bs_get (s : ByteArray) (j : Nat) (h : j < s.size) : (bs s)[j]?.getD 0 = s[j].toNat := by
  have h2 : j < s.data.toList.length := by simpa using h
  have : (bs s)[j]? = some s[j].toNat := by
    unfold bs
    rw [List.getElem?_map, List.getElem?_eq_getElem h2]
    rfl
  rw [this]; rfl
theorem run_conv {P : Program} {T E S : TypeId} (hT : P.underlying T = some (.slice E)) (hE : P.underlying E = some (.int .u8)) (hS : P.underlying S = some .string) (w : World) (p : Option Addr) (n c : Nat) (l : List Nat) (hn : l.length = n) (h : CellsIn w p (bcs l)) :
    (convert T S (.slice p n c)).run P w = .ok (.string (strB l)) w := by
  cases p with
  | none =>
    have : l = [] := by
      cases l with
      | nil => rfl
      | cons x r => obtain ⟨b, o, e, _⟩ := h 0 (bc x) rfl; cases e
    subst this
    exact run_convert_bytes_nil w T E hT hE n c S hS
  | some ad =>
    by_cases h0 : 0 < n
    · obtain ⟨b, o, e, _, hc⟩ := h.at (by rw [bcs_len]; omega)
      cases e
      exact run_convert_bytes_arg w T E hT hE b o n c (l.map fun x : Nat => (x : Int)) (by simpa using hn) (fun i hi => by
        have := hc i _ (bcs_at l i (by omega))
        rw [this]
        simp [List.getD, show i < l.length by omega]) S hS
    · have : l = [] := List.eq_nil_of_length_eq_zero (by omega)
      subst this
      obtain ⟨b, o, m⟩ := ad
      have hn0 : n = 0 := by simpa using hn.symm
      subst hn0
      rw [run_convert_bytes_string w T S E _ 0 c hT hE hS]
      rw [run_bytesToString w _ 0 c [] (by simpa using run_loadCells_list (P := P) w ⟨b, o, m⟩ [] (by simp)), foldl_push_bytes]
      rfl
/-- 'out = append(out, s...)', s a string. -/
theorem wp_appendS {P : Program} {T S E : TypeId} {b : Nat} (hT : ElT P T E (.int .u8 0) 1 1) (hS : P.underlying S = some .string) {ops : Array Oper} {rest : List Oper} {o : Oper} {a : Act} {Q : Exit → Act → World → Prop} (w : World)
    (hg : o.guard = none) (s x : Operand) (hop : o.op = Op.call { callee := Callee.builtin Builtin.append, args := #[s, x], argTypes := #[T, S] })
    (p : Option Addr) (n c : Nat) (xs : List Value) (hs : a.eval s = .slice p n c) (own : OwnC E 1 b w p n c xs) (y : ByteArray) (hx : a.eval x = .string y)
    (hn : n + y.size < 1099511627776) (hB : b ≤ w.heap.size)
    (hK : ∀ p' c' w', OwnC E 1 b w' p' (n + y.size) c' (xs ++ bcs (bs y)) → w.grownBy w' (p.map (·.block)) → w.heap.size ≤ w'.heap.size → wpList P ops Q rest (a.put o.dst (.slice p' (n + y.size) c')) w') :
    wpList P ops Q (o :: rest) a w := by
  obtain ⟨i0, hi, hz0, hz1, hz2⟩ := info_parts hT.info
  refine wpList_plain hg fun K hK' => ?_
  obtain ⟨v', w', hrun, h2, h3, _⟩ := Lib.run_append_own_string (P := P) w b T S o.type E i0 hT.under hS hi hz0 hz1 hz2 (.slice p n c) n xs own y (by unfold maxLen; omega) (by omega) hB
  unfold Oper.wp
  simp [execOp, hop, resolve, invoke, builtin, hs, hx, hrun, Result.andThen]
  have hshape : ∃ p' c', v' = .slice p' (n + y.size) c' := by
    rcases h2.2 with ⟨hv, h0⟩ | ⟨g, cap, cur, hv, _⟩
    · exact ⟨none, 0, by rw [hv, h0]⟩
    · exact ⟨_, _, hv⟩
  obtain ⟨p', c', rfl⟩ := hshape
  refine hK' _ _ (hK p' c' w' (by rw [← strCells_bs]; exact h2) ⟨h3.os, h3.tape, h3.output, h3.size, fun k hk hne => h3.block k hk ?_⟩ h3.size)
  intro e; apply hne; rw [e]; cases p <;> rfl
end Go.Proofs.Ytbniiglijmbfnaa
