/- A queue of ints: a slice that is shortened at its front and appended to at its end; no conditions. -/
import Derived.Test.YtebgliipeaelhaaDoorAt
import Derived.ArgAppend
namespace Go.Proofs.YtebgliipeaelhaaDoor
open Go.RowKit

/-- '.slice p n cap' is a queue that reads xs, in a block from B on. -/
def QV (B : Nat) (w : World) (p : Option Addr) (n cap : Nat) (xs : List Int) : Prop :=
  xs.length = n ∧ (0 < n → ∃ g o cur, p = some ⟨g, o, none⟩ ∧ B ≤ g ∧ w.heap[g]? = some (.cells cur 3 (0, 0)) ∧ cur.size = o + cap ∧ n ≤ cap ∧ ∀ j, j < n → cur[o + j]? = some (.int .i64 (xs[j]?.getD 0)))
theorem QV.len {B : Nat} {w : World} {p : Option Addr} {n cap : Nat} {xs : List Int} (h : QV B w p n cap xs) : xs.length = n := h.1
theorem QV.keep {B : Nat} {w w' : World} {p : Option Addr} {n cap : Nat} {xs : List Int} (h : QV B w p n cap xs) (hk : ∀ k, B ≤ k → k < w.heap.size → w'.heap[k]? = w.heap[k]?) : QV B w' p n cap xs :=
  ⟨h.1, fun hn => by
    obtain ⟨g, o, cur, e, hB, hh, r⟩ := h.2 hn
    exact ⟨g, o, cur, e, hB, (hk g hB (lt_of_heap hh)).trans hh, r⟩⟩
theorem QV.new {B : Nat} {w : World} {g : Nat} {y : Int} (hB : B ≤ g) (h : w.heap[g]? = some (.cells #[.int .i64 y] 3 (0, 0))) : QV B w (some ⟨g, 0, none⟩) 1 1 [y] :=
  ⟨rfl, fun _ => ⟨g, 0, _, rfl, hB, h, rfl, Nat.le_refl _, fun j hj => by
    obtain rfl : j = 0 := by omega
    rfl⟩⟩
/-- 'queue = append(queue, y)', the queue not empty. -/
theorem wp_appendQ {ops : Array Oper} {rest : List Oper} {o : Oper} {a : Act} {Q : Exit → Act → World → Prop} (w0 : World)
    (hg : o.guard = none) (s x : Operand) (hop : o.op = Op.call { callee := Callee.builtin Builtin.append, args := #[s, x], argTypes := #[26, 26] })
    (B : Nat) (p : Option Addr) (n c : Nat) (xs : List Int) (hs : a.eval s = .slice p n c) (own : QV B w0 p n c xs) (y : Int) (gn : Nat) (hgn : Hid (gn = w0.heap.size)) (hx : a.eval x = .slice (some ⟨gn, 0, none⟩) 1 1)
    (hn0 : 0 < n) (hn : n < 1099511627776) (hB : B ≤ w0.heap.size)
    (hK : ∀ p' c' w', QV B w' p' (n + 1) c' (xs ++ [y]) → Below B w0 w' → w0.heap.size ≤ w'.heap.size →
      wpList Tryd.prog ops Q rest (a.put o.dst (.slice p' (n + 1) c')) w') :
    wpList Tryd.prog ops Q (o :: rest) a (w0.alloc (.cells #[.int .i64 y] 3)) := by
  have hgn := hgn.out
  subst hgn
  obtain ⟨i0, hi, hz0, hz1, hz2⟩ := info_parts rowT.info
  obtain ⟨hl, hq⟩ := own
  obtain ⟨g, o', cur, rfl, hgB, hh, hcs, hnc, hcell⟩ := hq hn0
  have hgl : g < w0.heap.size := lt_of_heap hh
  have hh1 : (w0.alloc (.cells #[.int .i64 y] 3)).heap[g]? = some (.cells cur 3 (0, 0)) := (Below.heap_alloc w0 _ g hgl).trans hh
  have hc1 : ∀ i, (w0.alloc (.cells #[.int .i64 y] 3)).cell? ⟨g, i, none⟩ = cur[i]? := fun i => cell_of_row _ g i _ 3 (0, 0) hh1
  have hall : Below B w0 (w0.alloc (.cells #[.int .i64 y] 3)) := (Below.refl B w0).alloc hB _
  refine wpList_append_arg _ hg s x 26 hop 3 i0 (.int .i64 0) 1 8 rowT.under hi hz0 hz1 hz2 rfl (by omega) g o' n c (xs.map (Value.int .i64)) hs (by simp [hl]) (fun j u hj => ?_) ⟨w0.heap.size, 0, none⟩ 1 1 [.int .i64 y] hx rfl (fun j u hj => ?_) (by intro u hu; simp at hu; subst hu; rfl) (fun hr j hj => ?_) (by unfold maxLen; omega) (by omega) (fun hr => ?_) (fun hr v' w' h2 h3 => ?_)
  · rw [hc1]
    have hjn : j < n := by have := (List.getElem?_eq_some_iff.1 hj).1; simp at this; omega
    rw [hcell j hjn, ← hj]
    simp [show j < xs.length by omega]
  · match j, hj with
    | 0, hj => simp at hj; subst hj; simp [Addr.add]
  · obtain rfl : j = 0 := by simpa using hj
    refine ⟨?_, wfree hh1 _⟩
    rw [hc1, Array.getElem?_eq_getElem (by omega)]; rfl
  · refine hK _ _ _ ⟨by simp [hl], fun _ => ⟨g, o', cur.setIfInBounds (o' + n) (.int .i64 y), rfl, hgB, ?_, by simp [hcs], hr, fun j hj => ?_⟩⟩ ?_ ?_
    · rw [Nat.mul_one]; exact wset hh1 _ _
    · rw [Array.getElem?_setIfInBounds]
      by_cases e : j = n
      · subst e
        rw [if_pos rfl, if_pos (by omega), List.getElem?_append_right (by omega), hl]; simp
      · rw [if_neg (by omega), hcell j (by omega), List.getElem?_append_left (by omega)]
    · rw [Nat.mul_one]; exact hall.setCell (p := ⟨g, o' + n, none⟩) hgB _
    · simp [World.setCells]
  · rcases h2.2 with ⟨hv, h0⟩ | ⟨g', cap, cur', rfl, hb, hh', hnc', _, hsz, htk⟩
    · omega
    · simp at hb
      refine hK _ _ _ ⟨by simp [hl], fun _ => ⟨g', 0, cur', rfl, by omega, hh', by omega, hnc', fun j hj => ?_⟩⟩ (hall.grown h3 (by simp; omega) (fun k hk => by cases hk)) (Nat.le_trans (by simp) h3.size)
      have e : (cur'.toList.take ((n + 1) * 1))[j]? = (xs.map (Value.int .i64) ++ [Value.int .i64 y])[j]? := by rw [htk]
      rw [List.getElem?_take_of_lt (by omega)] at e
      rw [Nat.zero_add, ← Array.getElem?_toList, e]
      have e2 : (xs.map (Value.int .i64) ++ [Value.int .i64 y]) = (xs ++ [y]).map (Value.int .i64) := by simp
      rw [e2, List.getElem?_map, List.getElem?_eq_getElem (by simp; omega)]
      rfl
/-- 'queue[1:]'. -/
theorem QV.pop {B : Nat} {w : World} {p : Option Addr} {n cap : Nat} {y : Int} {xs : List Int} (h : QV B w p n cap (y :: xs)) : ∃ p', sliced p 1 n cap 1 = .slice p' (n - 1) (cap - 1) ∧ QV B w p' (n - 1) (cap - 1) xs := by
  obtain ⟨hl, hq⟩ := h
  simp only [List.length_cons] at hl
  obtain ⟨g, o, cur, rfl, hgB, hh, hcs, hnc, hcell⟩ := hq (by omega)
  refine ⟨_, rfl, by omega, fun hn => ⟨g, o + 1, cur, ?_, hgB, hh, by omega, by omega, fun j hj => ?_⟩⟩
  · rw [if_neg (by omega)]; rfl
  · have := hcell (j + 1) (by omega)
    rw [List.getElem?_cons_succ] at this
    rw [← this]; congr 1; omega
end Go.Proofs.YtebgliipeaelhaaDoor
