/- What othello.New computes for a board of 4 by 4; no conditions. -/
import Derived.Test.YtlhbbkjplecghaaOPutX
namespace Go.Proofs.Ytlhbbkjplecghaa
open Go.RowKit

def four0 : List Nat := [0, 0, 0, 0, 0, 2, 1, 0, 0, 1, 2, 0, 0, 0, 0, 0]
/-- the world at some point of New: the row of sixteen reads as L, the box and the result's box stand. -/
def NewAt (w : World) (L : List Int) (wx : World) : Prop := Nums wx (w.heap.size + 1) 3 L ∧ wx.heap[w.heap.size + 1 + 1]? = some (.cells #[.int .i64 4, .int .i64 4, .slice (some ⟨w.heap.size + 1, 0, none⟩) 16 16] 24) ∧ wx.heap[w.heap.size]? = some (.cells #[.int .i64 0, .int .i64 0, .slice none 0 0] 24) ∧ Below w.heap.size w wx
theorem NewAt.set {w wx : World} {L : List Int} (h : NewAt w L wx) (i : Nat) (v : Int) : NewAt w (L.set i v) (wx.setCell ⟨w.heap.size + 1, i, none⟩ (.int .i64 v)) :=
  ⟨h.1.set i v, (wset_ne _ _ (by show w.heap.size + 1 + 1 ≠ w.heap.size + 1; omega)).trans h.2.1, (wset_ne _ _ (by show w.heap.size ≠ w.heap.size + 1; omega)).trans h.2.2.1, h.2.2.2.setCell (p := ⟨w.heap.size + 1, i, none⟩) (Nat.le_succ _) _⟩
theorem NewAt.drew {w wx : World} {L : List Int} (h : NewAt w L wx) : NewAt w L wx.drew := ⟨h.1, h.2.1, h.2.2.1, below_drewN h.2.2.2 1⟩

set_option maxRecDepth 20000 in
set_option maxHeartbeats 4000000 in
theorem new4_any (w : World) : Calls Try.prog 5 #[.int .i64 4, .int .i64 4] w fun e w' => ∃ p, e = .returned (.tuple #[.agg #[.int .i64 4, .int .i64 4, .slice p 16 16], .int .i64 0]) ∧ IntsIn w' p 16 (asI four0) ∧ Below w.heap.size w w' := by
  have HO := Lib.hid (fun W => odd_any 4 W (by omega) (by omega))
  have e4 : oddI 4 = false := by decide
  rw [e4] at HO
  have hmk := fun W : World => run_mk intG .i64 .i64 16 16 16 rfl rfl (by omega) W
  have hS0 : NewAt w (List.replicate 16 0) (((w.alloc (.cells #[.int .i64 0, .int .i64 0, .slice none 0 0] 24)).alloc (.cells #[.int .i64 0, .int .i64 0, .int .i64 0, .int .i64 0, .int .i64 0, .int .i64 0, .int .i64 0, .int .i64 0, .int .i64 0, .int .i64 0, .int .i64 0, .int .i64 0, .int .i64 0, .int .i64 0, .int .i64 0, .int .i64 0] 3)).alloc (.cells #[.int .i64 4, .int .i64 4, .slice (some ⟨w.heap.size + 1, 0, none⟩) 16 16] 24)) := by
    obtain ⟨x, y, z⟩ := heap3 w (.cells #[.int .i64 0, .int .i64 0, .slice none 0 0] 24) (.cells #[.int .i64 0, .int .i64 0, .int .i64 0, .int .i64 0, .int .i64 0, .int .i64 0, .int .i64 0, .int .i64 0, .int .i64 0, .int .i64 0, .int .i64 0, .int .i64 0, .int .i64 0, .int .i64 0, .int .i64 0, .int .i64 0] 3) (.cells #[.int .i64 4, .int .i64 4, .slice (some ⟨w.heap.size + 1, 0, none⟩) 16 16] 24)
    exact ⟨y, z, x, below3 w _ _ _⟩
  replace hS0 := Lib.hid hS0
  have q1 : IntKind.i64.wrap 6 = 6 := by decide
  have q2 : IntKind.i64.wrap 9 = 9 := by decide
  have q3 : IntKind.i64.wrap 10 = 10 := by decide
  have q4 : IntKind.i64.wrap (5 + 1) = 6 := by decide
  have q5 : IntKind.i64.wrap (5 + 4) = 9 := by decide
  have q6 : IntKind.i64.wrap (9 + 1) = 10 := by decide
  go_enter Try.func5, Try.ntmps5
  go_wp2_with fail
  refine (HO.out _).mono ?_
  rintro e w' ⟨rfl, rfl⟩
  go_wp2_with fail
  refine (HO.out _).mono ?_
  rintro e w' ⟨rfl, rfl⟩
  go_wp2_with fail
  generalize (((w.alloc (.cells #[.int .i64 0, .int .i64 0, .slice none 0 0] 24)).alloc (.cells #[.int .i64 0, .int .i64 0, .int .i64 0, .int .i64 0, .int .i64 0, .int .i64 0, .int .i64 0, .int .i64 0, .int .i64 0, .int .i64 0, .int .i64 0, .int .i64 0, .int .i64 0, .int .i64 0, .int .i64 0, .int .i64 0] 3)).alloc (.cells #[.int .i64 4, .int .i64 4, .slice (some ⟨w.heap.size + 1, 0, none⟩) 16 16] 24)) = W at *
  have c2 : W.cell? ⟨w.heap.size + 1 + 1, 2, none⟩ = some (.slice (some ⟨w.heap.size + 1, 0, none⟩) 16 16) := wcell (cs := [_, _, _]) hS0.out.2.1 2
  go_upto_region 6 with fail
  go_cut [] (fun wx => NewAt w (((List.replicate 16 0).set 5 2).set 6 1) wx)
  case first =>
    have k5 : W.cell? ⟨w.heap.size + 1, 5, none⟩ = some (.int .i64 0) := hS0.out.1.cell (i := 5) (by decide)
    have k6 : W.cell? ⟨w.heap.size + 1, 6, none⟩ = some (.int .i64 0) := hS0.out.1.cell (i := 6) (by decide)
    have f5 : W.frozen? ⟨w.heap.size + 1, 5, none⟩ = false := hS0.out.1.free 5
    have f6 : W.frozen? ⟨w.heap.size + 1, 6, none⟩ = false := hS0.out.1.free 6
    go_region_law (fail)
    all_goals
      go_wp2_with fail
      go_meet
      first | exact (hS0.out.drew.set 5 2).set 6 1 | exact (hS0.out.drew.set 6 1).set 5 2
  case rest =>
    have hS1 := Lib.hid hcut
    have c3 : wc.cell? ⟨w.heap.size + 1 + 1, 2, none⟩ = some (.slice (some ⟨w.heap.size + 1, 0, none⟩) 16 16) := wcell (cs := [_, _, _]) hcut.2.1 2
    clear c2 hcut hS0
    go_upto_region 7 with fail
    go_cut [] (fun wx => NewAt w (asI four0) wx)
    case first =>
      have k5 : wc.cell? ⟨w.heap.size + 1, 9, none⟩ = some (.int .i64 0) := hS1.out.1.cell (i := 9) (by decide)
      have k6 : wc.cell? ⟨w.heap.size + 1, 10, none⟩ = some (.int .i64 0) := hS1.out.1.cell (i := 10) (by decide)
      have f5 : wc.frozen? ⟨w.heap.size + 1, 9, none⟩ = false := hS1.out.1.free 9
      have f6 : wc.frozen? ⟨w.heap.size + 1, 10, none⟩ = false := hS1.out.1.free 10
      go_region_law (fail)
      all_goals
        go_wp2_with fail
        go_meet
        first | exact (hS1.out.drew.set 9 1).set 10 2 | exact (hS1.out.drew.set 10 2).set 9 1
    case rest =>
      obtain ⟨hN, hb, hr, hB⟩ := hcut
      have k0 : wc.cell? ⟨w.heap.size + 1 + 1, 0, none⟩ = some (.int .i64 4) := wcell (cs := [_, _, _]) hb 0
      have k1 : wc.cell? ⟨w.heap.size + 1 + 1, 1, none⟩ = some (.int .i64 4) := wcell (cs := [_, _, _]) hb 1
      have k2 : wc.cell? ⟨w.heap.size + 1 + 1, 2, none⟩ = some (.slice (some ⟨w.heap.size + 1, 0, none⟩) 16 16) := wcell (cs := [_, _, _]) hb 2
      have m0 : wc.cell? ⟨w.heap.size, 0, none⟩ = some (.int .i64 0) := wcell (cs := [_, _, _]) hr 0
      have m1 : wc.cell? ⟨w.heap.size, 1, none⟩ = some (.int .i64 0) := wcell (cs := [_, _, _]) hr 1
      have m2 : wc.cell? ⟨w.heap.size, 2, none⟩ = some (.slice none 0 0) := wcell (cs := [_, _, _]) hr 2
      have f0 : wc.frozen? ⟨w.heap.size, 0, none⟩ = false := wfree hr 0
      have f1 : wc.frozen? ⟨w.heap.size, 1, none⟩ = false := wfree hr 1
      have f2 : wc.frozen? ⟨w.heap.size, 2, none⟩ = false := wfree hr 2
      have z := wset (wset (wset hr 0 (.int .i64 4)) 1 (.int .i64 4)) 2 (.slice (some ⟨w.heap.size + 1, 0, none⟩) 16 16)
      have r0 := wcell (cs := [.int .i64 4, .int .i64 4, .slice (some ⟨w.heap.size + 1, 0, none⟩) 16 16]) (by simpa using z) 0
      have r1 := wcell (cs := [.int .i64 4, .int .i64 4, .slice (some ⟨w.heap.size + 1, 0, none⟩) 16 16]) (by simpa using z) 1
      have r2 := wcell (cs := [.int .i64 4, .int .i64 4, .slice (some ⟨w.heap.size + 1, 0, none⟩) 16 16]) (by simpa using z) 2
      have hB9 := Lib.hid (((hB.setCell (p := ⟨w.heap.size, 0, none⟩) (Nat.le_refl _) (.int .i64 4)).setCell (p := ⟨w.heap.size, 1, none⟩) (Nat.le_refl _) (.int .i64 4)).setCell (p := ⟨w.heap.size, 2, none⟩) (Nat.le_refl _) (.slice (some ⟨w.heap.size + 1, 0, none⟩) 16 16))
      have hx9 := Lib.hid ((hN.in (n := 16) rfl).keep (w' := ((wc.setCell ⟨w.heap.size, 0, none⟩ (.int .i64 4)).setCell ⟨w.heap.size, 1, none⟩ (.int .i64 4)).setCell ⟨w.heap.size, 2, none⟩ (.slice (some ⟨w.heap.size + 1, 0, none⟩) 16 16)) (by simp [World.setCell]) (fun b o e => by
        cases e
        rw [wset_ne _ _ (by show w.heap.size + 1 ≠ w.heap.size; omega), wset_ne _ _ (by show w.heap.size + 1 ≠ w.heap.size; omega), wset_ne _ _ (by show w.heap.size + 1 ≠ w.heap.size; omega)]))
      replace r0 := Lib.hid r0; replace r1 := Lib.hid r1; replace r2 := Lib.hid r2; replace hN := Lib.hid hN
      clear z hb hr hB hS1 c3
      go_wp2_with fail
      refine bodyPost_ret (v := .tuple #[.agg #[.int .i64 4, .int .i64 4, .slice (some ⟨w.heap.size + 1, 0, none⟩) 16 16], .int .i64 0]) (by simp [results, Try.results5, go_sem, r0.out, r1.out, r2.out]) rfl ⟨some ⟨w.heap.size + 1, 0, none⟩, rfl, hx9.out, hB9.out⟩
end Go.Proofs.Ytlhbbkjplecghaa
