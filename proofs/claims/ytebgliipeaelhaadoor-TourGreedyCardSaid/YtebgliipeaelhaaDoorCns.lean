/- What slices.Contains tells, and the boxes that the closure of tour.Count works on; conditions: none. -/
import Derived.Test.YtebgliipeaelhaaDoorWlk
import Derived.Test.YtebgliipeaelhaaDoorIdx
import Derived.Test.YtebgliipeaelhaaDoorCnp
import Derived.Laws.EntriesVeiled
import Derived.Laws.Bits64
import Derived.Laws.BitsAllLaws
namespace Go.Proofs.YtebgliipeaelhaaDoor
open Go.RowKit

def hasV (xs : List Int) (v : Int) : Bool := xs.any fun x => x == v
set_option maxHeartbeats 400000 in
theorem contains_any (p : Option Addr) (n c : Nat) (xs : List Int) (v : Int) (w : World) (hn : n ≤ 9223372036854775807) (hx : IntsIn w p n xs) :
    Calls Tryd.prog 14 #[.slice p n c, .int .i64 v] w fun e w' => e = .returned (.bool (hasV xs v)) ∧ w = w' := by
  have HI := Lib.hid (index_any p n c xs v w hn hx)
  have hd : Hid (decide (0 ≤ idx xs v) = hasV xs v) := by
    show _ = _
    unfold hasV
    rcases idx_cases xs v with ⟨h1, h2⟩ | ⟨j, h1, h2, h3, h4⟩
    · rw [h1]
      symm
      rw [show decide ((0 : Int) ≤ -1) = false from rfl, List.any_eq_false]
      intro x hx
      obtain ⟨i, hi, rfl⟩ := List.mem_iff_getElem.1 hx
      have := h2 i hi
      rw [List.getElem?_eq_getElem hi] at this
      simpa using this
    · rw [h1]
      symm
      rw [decide_eq_true (by omega), List.any_eq_true]
      refine ⟨xs[j], List.getElem_mem h2, ?_⟩
      rw [List.getElem?_eq_getElem h2] at h3
      simpa using h3
  clear hx
  go_enter Tryd.func14, Tryd.ntmps14
  go_wp2_with fail
  refine HI.out.mono ?_
  rintro e w' ⟨rfl, rfl⟩
  generalize idx xs v = z at *
  go_wp2_with fail
  go_ret
  exact ⟨by rw [← hd.out]; rfl, rfl⟩


theorem hasV_asI (s : List Nat) (x : Nat) : hasV (asI s) (x : Int) = decide (x ∈ s) := by
  unfold hasV asI
  rw [Bool.eq_iff_iff, List.any_eq_true]
  simp only [decide_eq_true_eq, beq_iff_eq, List.mem_map]
  constructor
  · rintro ⟨_, ⟨y, hy, rfl⟩, e⟩
    have : y = x := by omega
    subst this; exact hy
  · intro h; exact ⟨_, ⟨x, h, rfl⟩, rfl⟩

/-- the boxes of tour.Count: the place that it began at, the field, the counts, and the closure itself. -/
structure Cs (w : World) (ob fb mb cb wb g a b x m c : Nat) : Prop where
  o0 : w.heap[ob]? = some (.cells #[.int .i64 (x : Int)] 3 (0, 0))
  f0 : w.heap[fb]? = some (.cells #[.slice (some ⟨g, 0, none⟩) (a * b) (a * b)] 35 (0, 0))
  m0 : w.heap[mb]? = some (.cells #[.int .i64 (m : Int)] 3 (0, 0))
  c0 : w.heap[cb]? = some (.cells #[.int .i64 (c : Int)] 3 (0, 0))
  w0 : w.heap[wb]? = some (.cells #[.func (.func 13) #[] #[.pointer (some ⟨mb, 0, none⟩), .pointer (some ⟨fb, 0, none⟩), .pointer (some ⟨ob, 0, none⟩), .pointer (some ⟨cb, 0, none⟩), .pointer (some ⟨wb, 0, none⟩)]] 39 (0, 0))
  fld : ∃ w0, FieldIn w0 g a b ∧ w0.heap.size ≤ mb ∧ Below w0.heap.size w0 w
  o1 : ob < mb
  o2 : fb < mb
  o3 : mb < cb
  o4 : cb < wb
theorem Cs.field {w : World} {ob fb mb cb wb g a b x m c : Nat} (h : Cs w ob fb mb cb wb g a b x m c) : FieldIn w g a b := by
  obtain ⟨w0, h1, _, h2⟩ := h.fld
  exact h1.below h2
theorem Cs.drewN {w : World} {ob fb mb cb wb g a b x m c : Nat} (h : Cs w ob fb mb cb wb g a b x m c) (k : Nat) : Cs (w.drewN k) ob fb mb cb wb g a b x m c := by
  obtain ⟨w0, h1, h2, h3⟩ := h.fld
  exact ⟨h.o0, h.f0, h.m0, h.c0, h.w0, ⟨w0, h1, h2, below_drewN h3 k⟩, h.o1, h.o2, h.o3, h.o4⟩
theorem Cs.many {w : World} {ob fb mb cb wb g a b x m c : Nat} (h : Cs w ob fb mb cb wb g a b x m c) (m' : Nat) : Cs (w.setCell ⟨mb, 0, none⟩ (.int .i64 (m' : Int))) ob fb mb cb wb g a b x m' c ∧ Below mb w (w.setCell ⟨mb, 0, none⟩ (.int .i64 (m' : Int))) := by
  obtain ⟨w0, h1, h2, h3⟩ := h.fld
  have e := h.o1; have e2 := h.o2; have e3 := h.o3; have e4 := h.o4
  have hb : Below mb w (w.setCell ⟨mb, 0, none⟩ (.int .i64 (m' : Int))) := (Below.refl mb w).setCell (Nat.le_refl _) _
  refine ⟨⟨(hb.block ob e).trans h.o0, (hb.block fb e2).trans h.f0, wset (cs := #[_]) h.m0 0 _, ?_, ?_, ⟨w0, h1, h2, h3.trans (hb.mono h2)⟩, e, e2, e3, e4⟩, hb⟩
  · exact (wset_ne _ _ (by show cb ≠ mb; omega)).trans h.c0
  · exact (wset_ne _ _ (by show wb ≠ mb; omega)).trans h.w0
theorem Cs.closed {w : World} {ob fb mb cb wb g a b x m c : Nat} (h : Cs w ob fb mb cb wb g a b x m c) (c' : Nat) : Cs (w.setCell ⟨cb, 0, none⟩ (.int .i64 (c' : Int))) ob fb mb cb wb g a b x m c' ∧ Below mb w (w.setCell ⟨cb, 0, none⟩ (.int .i64 (c' : Int))) := by
  obtain ⟨w0, h1, h2, h3⟩ := h.fld
  have e := h.o1; have e2 := h.o2; have e3 := h.o3; have e4 := h.o4
  have hb : Below mb w (w.setCell ⟨cb, 0, none⟩ (.int .i64 (c' : Int))) := (Below.refl mb w).setCell (Nat.le_of_lt e3) _
  refine ⟨⟨(hb.block ob e).trans h.o0, (hb.block fb e2).trans h.f0, ?_, wset (cs := #[_]) h.c0 0 _, ?_, ⟨w0, h1, h2, h3.trans (hb.mono h2)⟩, e, e2, e3, e4⟩, hb⟩
  · exact (wset_ne _ _ (by show mb ≠ cb; omega)).trans h.m0
  · exact (wset_ne _ _ (by show wb ≠ cb; omega)).trans h.w0
end Go.Proofs.YtebgliipeaelhaaDoor
