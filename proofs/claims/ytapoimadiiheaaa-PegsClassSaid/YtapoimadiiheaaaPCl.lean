/- gameroomkeep.PegsClass returns true for every board and every row of numbers; the slices' lengths fit their kind. -/
import Derived.Test.YtapoimadiiheaaaPMs
import Derived.Test.YtapoimadiiheaaaEq4
import Derived.Test.YtapoimadiiheaaaJmp
import Derived.Test.YtapoimadiiheaaaClP
namespace Go.Proofs.Ytapoimadiiheaaa
open Go.RowKit

theorem ex_few (b c : Nat) (w : World) (hb : w.heap[b]? = some (.cells #[.int .i64 1, .int .i64 1, .int .i64 0] 3 (0, 0))) :
    Calls Try.prog 5 #[.agg #[.int .i64 3, .int .i64 1, .slice (some ⟨b, 0, none⟩) 3 c]] w fun e w' => e = .returned (.tuple #[.int .i64 1, .int .i64 0]) ∧ Bw w w' := by
  have hx : IntsIn w (some ⟨b, 0, none⟩) 3 (asI [1, 1, 0]) := IntsIn.mk' rfl (lt_of_heap hb) fun j hj => by
    rcases (show j = 0 ∨ j = 1 ∨ j = 2 by omega) with rfl | rfl | rfl
    · exact wcell (cs := [_, _, _]) hb 0
    · exact wcell (cs := [_, _, _]) hb 1
    · exact wcell (cs := [_, _, _]) hb 2
  refine (few_yes 3 1 3 c (some ⟨b, 0, none⟩) [1, 1, 0] w (by omega) (by omega) (by omega) (by omega) rfl hx ex_st (by decide)).mono ?_
  rintro e w' ⟨⟨J, hJ, rfl⟩, hB⟩
  refine ⟨?_, hB⟩
  have hm : mostS J [1, 1, 0] = mostS (allJ 3 1 [1, 1, 0] (3 * 1)) [1, 1, 0] := most_ext (fun j => by rw [hJ]; exact (mem_allJ (by omega)).symm) fun j hj => inJ_wf (w := 3) (h := 1) rfl ((hJ j).1 hj)
  rw [hm, ex_all]
  have : cnt1 [1, 1, 0] - mostS [(0, 1, 2), (2, 1, 0)] [1, 1, 0] = 1 := by decide +kernel
  rw [this]; rfl
set_option maxHeartbeats 2000000 in
theorem cls_no (A H : Int) (n c : Nat) (q : Option Addr) (xs : List Int) (w : World) (hn : n ≤ 9223372036854775807) (hW1 : -9223372036854775808 ≤ A) (hW2 : A ≤ 9223372036854775807) (hH1 : -9223372036854775808 ≤ H) (hH2 : H ≤ 9223372036854775807) (hx : IntsIn w q n xs) (hm : mayG A H xs = false) :
    Calls Try.prog 10 #[.agg #[.int .i64 A, .int .i64 H, .slice q n c]] w fun e w' => e = .returned (.tuple #[.agg #[.int .i64 0, .int .i64 0, .int .i64 0, .int .i64 0], .int .i64 12]) ∧ Bw w w' := by
  obtain ⟨e0, e1⟩ := heap2 w (.cells #[.int .i64 A, .int .i64 H, .slice q n c] 24) (.cells #[.int .i64 0, .int .i64 0, .int .i64 0, .int .i64 0] 38)
  have hB0 := below2 w (.cells #[.int .i64 A, .int .i64 H, .slice q n c] 24) (.cells #[.int .i64 0, .int .i64 0, .int .i64 0, .int .i64 0] 38)
  have hs0 : ((w.alloc (.cells #[.int .i64 A, .int .i64 H, .slice q n c] 24)).alloc (.cells #[.int .i64 0, .int .i64 0, .int .i64 0, .int .i64 0] 38)).heap.size = w.heap.size + 2 := by simp
  have hw0 := Lib.hid hx
  clear hx
  go_enter Try.func10, Try.ntmps10
  go_upto_region 1 with fail
  generalize (w.alloc (.cells #[.int .i64 A, .int .i64 H, .slice q n c] 24)).alloc (.cells #[.int .i64 0, .int .i64 0, .int .i64 0, .int .i64 0] 38) = W0 at *
  have HM := may_any q n c A H xs W0 hn hW1 hW2 hH1 hH2 (hw0.out.below hB0)
  rw [hm] at HM
  replace HM := Lib.hid HM
  have d0 : W0.cell? ⟨w.heap.size, 0, none⟩ = some (.int .i64 A) := wcell (cs := [_, _, _]) e0 0
  have d1 : W0.cell? ⟨w.heap.size, 1, none⟩ = some (.int .i64 H) := wcell (cs := [_, _, _]) e0 1
  have d2 : W0.cell? ⟨w.heap.size, 2, none⟩ = some (.slice q n c) := wcell (cs := [_, _, _]) e0 2
  go_upto_region 2 with (go_at_call 11; refine HM.out.mono ?_; rintro e w1 ⟨rfl, hB1⟩)
  have hbw : Bw W0 w1 := hB1
  have c1 := (Below.block hbw _ (by omega)).trans e1
  have l1 : Below w.heap.size w w1 := hB0.trans (Below.mono hbw (by omega))
  clear d0 d1 d2 HM
  have y0 : w1.cell? ⟨w.heap.size + 1, 0, none⟩ = some (.int .i64 0) := wcell (cs := [_, _, _, _]) c1 0
  have y1 : w1.cell? ⟨w.heap.size + 1, 1, none⟩ = some (.int .i64 0) := wcell (cs := [_, _, _, _]) c1 1
  have y2 : w1.cell? ⟨w.heap.size + 1, 2, none⟩ = some (.int .i64 0) := wcell (cs := [_, _, _, _]) c1 2
  have y3 : w1.cell? ⟨w.heap.size + 1, 3, none⟩ = some (.int .i64 0) := wcell (cs := [_, _, _, _]) c1 3
  have z0 : w1.frozen? ⟨w.heap.size + 1, 0, none⟩ = false := wfree c1 0
  have z1 : w1.frozen? ⟨w.heap.size + 1, 1, none⟩ = false := wfree c1 1
  have z2 : w1.frozen? ⟨w.heap.size + 1, 2, none⟩ = false := wfree c1 2
  have z3 : w1.frozen? ⟨w.heap.size + 1, 3, none⟩ = false := wfree c1 3
  have hX := (set4 (set4 (set4 (set4 c1 (.int .i64 0)).1 (.int .i64 0)).2.1 (.int .i64 0)).2.2.1 (.int .i64 0)).2.2.2
  have hL := (((l1.setCell (p := ⟨w.heap.size + 1, 0, none⟩) (by simp) (.int .i64 0)).setCell (p := ⟨w.heap.size + 1, 1, none⟩) (by simp) (.int .i64 0)).setCell (p := ⟨w.heap.size + 1, 2, none⟩) (by simp) (.int .i64 0)).setCell (p := ⟨w.heap.size + 1, 3, none⟩) (by simp) (.int .i64 0)
  replace c1 := Lib.hid c1; replace l1 := Lib.hid l1; replace e0 := Lib.hid e0; replace e1 := Lib.hid e1; replace hbw := Lib.hid hbw; replace hB1 := Lib.hid hB1; replace hX := Lib.hid hX; replace hL := Lib.hid hL
  go_wp2_with fail
  have hX := hX.out
  have hL := hL.out
  generalize ((((w1.setCell ⟨w.heap.size + 1, 0, none⟩ (.int .i64 0)).setCell ⟨w.heap.size + 1, 1, none⟩ (.int .i64 0)).setCell ⟨w.heap.size + 1, 2, none⟩ (.int .i64 0)).setCell ⟨w.heap.size + 1, 3, none⟩ (.int .i64 0)) = X at *
  have x0 : X.cell? ⟨w.heap.size + 1, 0, none⟩ = some (.int .i64 0) := wcell (cs := [_, _, _, _]) hX 0
  have x1 : X.cell? ⟨w.heap.size + 1, 1, none⟩ = some (.int .i64 0) := wcell (cs := [_, _, _, _]) hX 1
  have x2 : X.cell? ⟨w.heap.size + 1, 2, none⟩ = some (.int .i64 0) := wcell (cs := [_, _, _, _]) hX 2
  have x3 : X.cell? ⟨w.heap.size + 1, 3, none⟩ = some (.int .i64 0) := wcell (cs := [_, _, _, _]) hX 3
  refine bodyPost_ret (v := .tuple #[.agg #[.int .i64 0, .int .i64 0, .int .i64 0, .int .i64 0], .int .i64 12]) (by simp [results, Try.results10, go_sem, x0, x1, x2, x3]) rfl ⟨rfl, hL⟩
set_option maxHeartbeats 4000000 in
set_option maxRecDepth 100000 in
theorem class_no (A H : Int) (n c : Nat) (q : Option Addr) (xs : List Int) (pr : Option Addr) (nr cr : Nat) (w : World) (hn : n ≤ 9223372036854775807) (hW1 : -9223372036854775808 ≤ A) (hW2 : A ≤ 9223372036854775807) (hH1 : -9223372036854775808 ≤ H) (hH2 : H ≤ 9223372036854775807) (hx : IntsIn w q n xs) (hm : mayG A H xs = false) :
    Calls Try.prog 4 #[.agg #[.int .i64 A, .int .i64 H, .slice q n c], .slice pr nr cr] w fun e w' => e = .returned (.bool true) ∧ Bw w w' := by
  have e0 := heap_alloc_new w (.cells #[.int .i64 A, .int .i64 H, .slice q n c] 24)
  have hb0 : Bw w (w.alloc (.cells #[.int .i64 A, .int .i64 H, .slice q n c] 24)) := (Bw.refl w).alloc _
  have hw0 := Lib.hid hx
  clear hx
  go_enter Try.func4, Try.ntmps4
  go_upto_region 1 with fail
  generalize w.alloc (.cells #[.int .i64 A, .int .i64 H, .slice q n c] 24) = W0 at *
  have HX : Hid (∀ X : World, Bw W0 X → IntsIn X q n xs) := fun X hX => hw0.out.below (hb0.trans hX)
  have G : Hid (∀ X : World, Bw W0 X → X.heap[w.heap.size]? = some (.cells #[.int .i64 A, .int .i64 H, .slice q n c] 24 (0, 0))) := fun X hX => (Below.block hX _ (lt_of_heap e0)).trans e0
  have e1 := heap_alloc_new W0 (.cells #[.int .i64 1, .int .i64 1, .int .i64 0] 3)
  have HE := Lib.hid (ex_few W0.heap.size 3 (W0.alloc (.cells #[.int .i64 1, .int .i64 1, .int .i64 0] 3)) e1)
  have hb1 : Hid (Bw W0 (W0.alloc (.cells #[.int .i64 1, .int .i64 1, .int .i64 0] 3))) := (Bw.refl W0).alloc _
  replace e0 := Lib.hid e0; replace e1 := Lib.hid e1; replace hb0 := Lib.hid hb0
  go_upto_region 4 with (go_at_call 5; (with_reducible refine HE.out.mono ?_); rintro e w2 ⟨rfl, hb2⟩; replace hb2 := Lib.hid hb2)
  have hb02 : Hid (Bw W0 w2) := hb1.out.trans hb2.out
  have HC := Lib.hid (cls_no A H n c q xs w2 hn hW1 hW2 hH1 hH2 (HX.out w2 hb02.out) hm)
  have d0 : w2.cell? ⟨w.heap.size, 0, none⟩ = some (.int .i64 A) := wcell (cs := [_, _, _]) (G.out w2 hb02.out) 0
  have d1 : w2.cell? ⟨w.heap.size, 1, none⟩ = some (.int .i64 H) := wcell (cs := [_, _, _]) (G.out w2 hb02.out) 1
  have d2 : w2.cell? ⟨w.heap.size, 2, none⟩ = some (.slice q n c) := wcell (cs := [_, _, _]) (G.out w2 hb02.out) 2
  go_upto_region 5 with (go_at_call 10; (with_reducible refine HC.out.mono ?_); rintro e w3 ⟨rfl, hb3⟩; replace hb3 := Lib.hid hb3)
  have hb04 : Hid (Bw W0 (w3.alloc (.cells #[.int .i64 0, .int .i64 0, .int .i64 0, .int .i64 0] 38))) := hb02.out.trans (hb3.out.trans ((Bw.refl w3).alloc _))
  generalize w3.alloc (.cells #[.int .i64 0, .int .i64 0, .int .i64 0, .int .i64 0] 38) = W4 at *
  have HM := may_any q n c A H xs W4 hn hW1 hW2 hH1 hH2 (HX.out W4 hb04.out)
  rw [hm] at HM
  replace HM := Lib.hid HM
  clear d0 d1 d2
  have d0 : W4.cell? ⟨w.heap.size, 0, none⟩ = some (.int .i64 A) := wcell (cs := [_, _, _]) (G.out W4 hb04.out) 0
  have d1 : W4.cell? ⟨w.heap.size, 1, none⟩ = some (.int .i64 H) := wcell (cs := [_, _, _]) (G.out W4 hb04.out) 1
  have d2 : W4.cell? ⟨w.heap.size, 2, none⟩ = some (.slice q n c) := wcell (cs := [_, _, _]) (G.out W4 hb04.out) 2
  go_wp2_with (go_at_call 11; (with_reducible refine HM.out.mono ?_); rintro e w5 ⟨rfl, hb5⟩; replace hb5 := Lib.hid hb5)
  go_ret
  exact ⟨rfl, hb0.out.trans (hb04.out.trans hb5.out)⟩
end Go.Proofs.Ytapoimadiiheaaa
