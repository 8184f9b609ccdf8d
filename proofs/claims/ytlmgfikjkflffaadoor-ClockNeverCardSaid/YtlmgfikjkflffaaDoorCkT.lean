/- What Left's closure does: one time more in its row; conditions: the boxes and the device lie as Lf tells. -/
import Derived.Test.YtlmgfikjkflffaaDoorCkR
import Derived.Test.YtlmgfikjkflffaaDoorStepA
import Derived.Deep.RegionLaw
import Derived.Deep.AppendLies
namespace Go.Proofs.YtlmgfikjkflffaaDoor
open Go.RowKit

theorem box_set {w : World} {b : Nat} {v u : Value} {t : TypeId} (h : w.heap[b]? = some (.cells #[v] t (0, 0))) : (w.setCell ⟨b, 0, none⟩ u).heap[b]? = some (.cells #[u] t (0, 0)) := by
  simp [World.setCell, Array.getElem?_modify, h]
theorem box_cell {w : World} {b : Nat} {v : Value} {t : TypeId} (h : w.heap[b]? = some (.cells #[v] t (0, 0))) : w.cell? ⟨b, 0, none⟩ = some v := by
  rw [cell_of_row w b 0 _ t (0, 0) h]; rfl

/-- Left's blocks: k times are told. -/
structure Lf (w0 : World) (g db lb B : Nat) (c : Ct) (k : Nat) (d : Dv) (w : World) : Prop where
  dev : DevAt w g c d
  dbx : w.heap[db]? = some (.cells #[.pointer (some ⟨g, 0, none⟩)] 40 (0, 0))
  row : ∃ p cq xs, w.heap[lb]? = some (.cells #[.slice p k cq] 24 (0, 0)) ∧ Own 3 B w p k cq xs
  bel : Below w0.heap.size w0 w
  ne1 : g < B ∧ db < B ∧ lb < B
  ne2 : g ≠ db ∧ g ≠ lb ∧ db ≠ lb
  ne3 : w0.heap.size ≤ g ∧ w0.heap.size ≤ db ∧ w0.heap.size ≤ lb
  sz : B ≤ w.heap.size

theorem Lf.press {w0 : World} {g db lb B : Nat} {c : Ct} {k : Nat} {d d' : Dv} {w w' : World} (h : Lf w0 g db lb B c k d w) (hD : DevAt w' g c d') (ho : OnlyG w w' g) : Lf w0 g db lb B c k d' w' := by
  obtain ⟨p, cq, xs, hl, hO⟩ := h.row
  obtain ⟨n1, n2, n3⟩ := h.ne1
  obtain ⟨m1, m2, m3⟩ := h.ne2
  obtain ⟨q1, q2, q3⟩ := h.ne3
  have keep : ∀ b, b < w.heap.size → b ≠ g → w'.heap[b]? = w.heap[b]? := fun b hb hne => ho.gr.block b hb (by intro e; cases e; exact hne rfl)
  refine ⟨hD, (keep db (by have := lt_of_heap h.dbx; omega) (Ne.symm m1)).trans h.dbx, ⟨p, cq, xs, (keep lb (by have := lt_of_heap hl; omega) (Ne.symm m2)).trans hl, hO.keep fun a ha => ?_⟩, ?_, h.ne1, h.ne2, h.ne3, by have := ho.sz; have := h.sz; omega⟩
  · have := hO.block a ha
    exact keep _ this.2 (by omega)
  · have hb := h.bel
    have hsz := hb.size
    exact ⟨ho.gr.os.trans hb.os, ho.gr.tape.trans hb.tape, ho.gr.output.trans hb.output, by have := ho.sz; omega, fun i hi => (keep i (by omega) (by omega)).trans (hb.block i hi)⟩

theorem Lf.next {w0 : World} {g db lb B : Nat} {c : Ct} {k : Nat} {d : Dv} {w w5 : World} (h : Lf w0 g db lb B c k d w) {p p' : Option Addr} {cq cq' : Nat} {xs xs' : List Int}
    (hl : w.heap[lb]? = some (.cells #[.slice p k cq] 24 (0, 0))) (hO : Own 3 B w p k cq xs) (hO' : Own 3 B w5 p' (k + 1) cq' xs') (hg : w.grownBy w5 (p.map (·.block))) :
    Lf w0 g db lb B c (k + 1) d (w5.setCell ⟨lb, 0, none⟩ (.slice p' (k + 1) cq')) ∧ w5.cell? ⟨lb, 0, none⟩ = some (.slice p k cq) ∧ w5.frozen? ⟨lb, 0, none⟩ = false := by
  obtain ⟨n1, n2, n3⟩ := h.ne1
  obtain ⟨m1, m2, m3⟩ := h.ne2
  obtain ⟨q1, q2, q3⟩ := h.ne3
  have keep : ∀ b, b < B → w5.heap[b]? = w.heap[b]? := fun b hb => hg.block b (by have := h.sz; omega) (hO.apart b hb)
  have far : ∀ b, b ≠ lb → (w5.setCell ⟨lb, 0, none⟩ (.slice p' (k + 1) cq')).heap[b]? = w5.heap[b]? := fun b hb => Below.heap_setCell w5 _ _ b hb
  have hl5 := (keep lb n3).trans hl
  refine ⟨⟨(far g m2).trans ((keep g n1).trans h.dev), (far db m3).trans ((keep db n2).trans h.dbx), ⟨p', cq', xs', box_set hl5, hO'.keep fun a ha => far _ ?_⟩, ?_, h.ne1, h.ne2, h.ne3, by have := hg.size; have := h.sz; simp [World.setCell]; omega⟩, box_cell hl5, wfree hl5 0⟩
  · have := hO'.block a ha; omega
  · have hb := h.bel
    have hsz := hb.size
    refine ⟨(show (w5.setCell _ _).os = w5.os from rfl).trans (hg.os.trans hb.os), (show (w5.setCell _ _).tape = w5.tape from rfl).trans (hg.tape.trans hb.tape), (show (w5.setCell _ _).output = w5.output from rfl).trans (hg.output.trans hb.output), ?_, fun i hi => (far i (by omega)).trans ((keep i (by omega)).trans (hb.block i hi))⟩
    have := hg.size
    simp [World.setCell]; omega

set_option maxHeartbeats 4000000 in
theorem tell13_any (w0 : World) (g db lb B : Nat) (c : Ct) (k : Nat) (d : Dv) (w : World) (hk : k ≤ 1000) (h : Lf w0 g db lb B c k d w) :
    Calls Tryd.prog 13 #[.pointer (some ⟨lb, 0, none⟩), .pointer (some ⟨db, 0, none⟩)] w fun e w' => e = .returned (.tuple #[]) ∧ Lf w0 g db lb B c (k + 1) d w' := by
  obtain ⟨p, cq, xs, hl, hO⟩ := h.row
  have c0 := box_cell hl
  have c1 := box_cell h.dbx
  have c8 : w.cell? ⟨g, 8, none⟩ = some (.int .i64 d.mv) := by rw [h.dev.cell]; rfl
  have hand := and_one d.mv
  obtain ⟨q, hq, hq2⟩ : ∃ q, d.mv % 2 = q ∧ q < 2 := ⟨_, rfl, by omega⟩
  rw [hq] at hand
  obtain ⟨y, hy⟩ : ∃ y : Nat, w.cell? ⟨g, 5 + q, none⟩ = some (.int .i64 (y : Int)) := by
    rw [h.dev.cell]
    obtain rfl | rfl : q = 0 ∨ q = 1 := by omega
    · exact ⟨d.t0, rfl⟩
    · exact ⟨d.t1, rfl⟩
  have hB := h.sz
  have hpB := hO.block
  have hsl := lt_of_heap hl
  have hsd := lt_of_heap h.dbx
  have hsg := h.dev.lt
  replace h := Lib.hid h; replace hl := Lib.hid hl; replace hO := Lib.hid hO; replace hpB := Lib.hid hpB
  clear hq
  obtain rfl | rfl : q = 0 ∨ q = 1 := by omega
  · go_enter Tryd.func13, Tryd.ntmps13
    go_wp2_with fail
    go_region_law (
        (refine step_append1 intG _ (by rfl) _ _ (by rfl) B p k cq xs (by rfl) ((hO.out.alloc _).drew) (y : Int) w.heap.size (by rfl) (wcell (cs := [_]) (heap_alloc_new w (.cells #[.int .i64 (y : Int)] 3)) 0) (by omega) (by simp; omega) ?_; intro p' c' w5 hO5 hg5; obtain ⟨hN, d0, d1⟩ := h.out.next hl.out hO.out hO5 (grown_trans (grown_drew (grown_below ((Below.refl _ _).alloc (Nat.le_refl _) _) _)) hg5); replace hN := Lib.hid hN; replace hO5 := Lib.hid hO5; replace hg5 := Lib.hid hg5))
    all_goals
      go_wp2_with fail
      go_end0
      exact ⟨rfl, hN.out⟩
  · go_enter Tryd.func13, Tryd.ntmps13
    go_wp2_with fail
    go_region_law (
        (refine step_append1 intG _ (by rfl) _ _ (by rfl) B p k cq xs (by rfl) ((hO.out.alloc _).drew) (y : Int) w.heap.size (by rfl) (wcell (cs := [_]) (heap_alloc_new w (.cells #[.int .i64 (y : Int)] 3)) 0) (by omega) (by simp; omega) ?_; intro p' c' w5 hO5 hg5; obtain ⟨hN, d0, d1⟩ := h.out.next hl.out hO.out hO5 (grown_trans (grown_drew (grown_below ((Below.refl _ _).alloc (Nat.le_refl _) _) _)) hg5); replace hN := Lib.hid hN; replace hO5 := Lib.hid hO5; replace hg5 := Lib.hid hg5))
    all_goals
      go_wp2_with fail
      go_end0
      exact ⟨rfl, hN.out⟩
end Go.Proofs.YtlmgfikjkflffaaDoor
