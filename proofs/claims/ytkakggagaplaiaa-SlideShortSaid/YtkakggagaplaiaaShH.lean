/- What slide.home makes: the board at home; conditions: two by three places or three by two. -/
import Derived.Test.YtkakggagaplaiaaShP
import Derived.Test.YtkakggagaplaiaaSlV
namespace Go.Proofs.Ytkakggagaplaiaa
open Go.RowKit

theorem home_lit (j : Nat) : asI ((List.range (j + 1)).map (· + 1)) = asI ((List.range j).map (· + 1)) ++ [((j + 1 : Nat) : Int)] := by simp [asI, List.range_succ]
set_option maxRecDepth 100000 in
set_option maxHeartbeats 4000000 in
theorem home_any (a b : Nat) (w : World) (hab : Hid (6 = a * b)) :
    Calls Try.prog 54 #[.int .i64 a, .int .i64 b] w fun e w' => ∃ q c, e = .returned (.agg #[.int .i64 a, .int .i64 b, .slice q 6 c]) ∧ Own 3 w.heap.size w' q 6 c (asI hmB) ∧ Below w.heap.size w w' := by
  have e1 : (a : Int) * (b : Int) = 6 := by have := hab.out; exact_mod_cast this.symm
  clear hab
  go_enter Try.func54, Try.ntmps54
  go_upto_region 2 with fail
  obtain ⟨B, hBz⟩ : ∃ B, B = w.heap.size := ⟨_, rfl⟩
  generalize hW : (w.alloc (Obj.cells _ 39)).alloc (Obj.cells _ 39) = W0
  have h0 : W0.heap[w.heap.size]? = some (.cells #[.int .i64 0, .int .i64 0, .slice none 0 0] 39 (0, 0)) := by
    rw [← hW]; exact (Below.heap_alloc _ _ _ (by simp)).trans (heap_alloc_new w _)
  have h1 : W0.heap[w.heap.size + 1]? = some (.cells #[.int .i64 (a : Int), .int .i64 (b : Int), .slice none 0 0] 39 (0, 0)) := by
    have h := heap_alloc_new (w.alloc (.cells #[.int .i64 0, .int .i64 0, .slice none 0 0] 39)) (.cells #[.int .i64 (a : Int), .int .i64 (b : Int), .slice none 0 0] 39)
    rw [World.size_alloc] at h
    rw [← hW]; exact h
  have hB0 : Below w.heap.size w W0 := by rw [← hW]; exact ((Below.refl _ w).alloc (Nat.le_refl _) _).alloc (by simp) _
  have hz0 : w.heap.size + 2 ≤ W0.heap.size := by have := lt_of_heap h1; omega
  rw [← hBz] at h0 h1 hz0 ⊢
  replace hBz := Lib.hid hBz
  replace h0 := Lib.hid h0; replace h1 := Lib.hid h1; replace hB0 := Lib.hid hB0
  clear hW
  go_wp2_with fail
  go_loopg [6] 5 (fun gk iv W' => ∃ (j : Nat) (q : Option Addr) (c : Nat), j ≤ 5 ∧ gk = 5 - j ∧ iv = .int .i64 ((j + 1 : Nat) : Int) ∧ Hid (W'.heap[B]? = some (.cells #[.int .i64 0, .int .i64 0, .slice none 0 0] 39 (0, 0))) ∧ Hid (W'.heap[B + 1]? = some (.cells #[.int .i64 (a : Int), .int .i64 (b : Int), .slice q j c] 39 (0, 0))) ∧ Hid (Own 3 (B + 2) W' q j c (asI ((List.range j).map (· + 1)))) ∧ Hid (Below B w W') ∧ B + 2 ≤ W'.heap.size)
  case atStart => exact ⟨0, none, 0, by omega, by omega, rfl, h0, h1, Own.nil _ _ _, by rw [hBz.out]; exact hB0, hz0⟩
  case round =>
    clear h0 h1 hB0 hz0
    obtain ⟨j, q, c, hj, hgk, rfl, h0, h1, hO, hB, hz⟩ := hrel
    obtain ⟨W1, rfl⟩ : ∃ W1 : World, W1 = wr := ⟨_, rfl⟩
    replace hgk := Lib.hid hgk
    have d2 : W1.cell? ⟨B + 1, 2, none⟩ = some (.slice q j c) := wcell (cs := [_, _, _]) h1.out 2
    have ej : ((j + 1 : Nat) : Int) = (j : Int) + 1 := by push_cast; rfl
    have hqb : Hid (∀ z, q.map (·.block) = some z → B + 2 ≤ z) := fun z e => by
      cases q with
      | none => cases e
      | some x => simp at e; subst e; exact (OwnC.block (k := 1) hO.out x rfl).1
    by_cases hlt : j < 5
    · go_wp2_with (at_builtin; refine wp_append1 intG W1 rfl _ _ rfl (B + 2) q j c _ rfl hO.out ((j : Int) + 1) rfl (by omega) hz ?_; intro q2 c2 W3 hO2 hg2 _ hz2; have k2 : W3.cell? ⟨B + 1, 2, none⟩ = some (.slice q j c) := wcell (cs := [_, _, _]) ((hg2.block (B + 1) (lt_of_heap h1.out) (fun e => by have := hqb.out _ e.symm; omega)).trans h1.out) 2; have fz := wfree ((hg2.block (B + 1) (lt_of_heap h1.out) (fun e => by have := hqb.out _ e.symm; omega)).trans h1.out) 2; replace hO2 := Lib.hid hO2; replace hg2 := Lib.hid hg2)
      have g0 : Hid ((W3.setCell ⟨B + 1, 2, none⟩ (.slice q2 (j + 1) c2)).heap[B]? = some (.cells #[.int .i64 0, .int .i64 0, .slice none 0 0] 39 (0, 0))) :=
        (wset_ne _ _ (by simp)).trans ((hg2.out.block B (lt_of_heap h0.out) (fun e => by have := hqb.out _ e.symm; omega)).trans h0.out)
      have g1 : Hid ((W3.setCell ⟨B + 1, 2, none⟩ (.slice q2 (j + 1) c2)).heap[B + 1]? = some (.cells #[.int .i64 (a : Int), .int .i64 (b : Int), .slice q2 (j + 1) c2] 39 (0, 0))) :=
        wset ((hg2.out.block (B + 1) (lt_of_heap h1.out) (fun e => by have := hqb.out _ e.symm; omega)).trans h1.out) 2 _
      have gO : Hid (Own 3 (B + 2) (W3.setCell ⟨B + 1, 2, none⟩ (.slice q2 (j + 1) c2)) q2 (j + 1) c2 (asI ((List.range (j + 1)).map (· + 1)))) := by
        rw [home_lit, ej]
        exact OwnC.keep (k := 1) hO2.out fun x hx => wset_ne _ _ (by have := (OwnC.block (k := 1) hO2.out x hx).1; simp; omega)
      have gB := Lib.hid ((hB.out.grown hg2.out (by omega) (fun z e => by have := hqb.out z e; omega)).setCell (p := ⟨B + 1, 2, none⟩) (by simp) (.slice q2 (j + 1) c2))
      have hgk := hgk.out
      go_roundg (5 - (j + 1))
      case measure => omega
      case rel => exact ⟨j + 1, q2, c2, by omega, rfl, by push_cast; rfl, g0, g1, gO, gB, by simp [World.setCell]; omega⟩
    · obtain rfl : j = 5 := by omega
      clear ej
      go_wp2_with (at_builtin; refine wp_append1 intG W1 rfl _ _ rfl (B + 2) q 5 c _ rfl hO.out (0 : Int) rfl (by omega) hz ?_; intro q2 c2 W3 hO2 hg2 _ hz2; have y0 := (hg2.block B (lt_of_heap h0.out) (fun e => by have := hqb.out _ e.symm; omega)).trans h0.out; have y1 := (hg2.block (B + 1) (lt_of_heap h1.out) (fun e => by have := hqb.out _ e.symm; omega)).trans h1.out; have k2 : W3.cell? ⟨B + 1, 2, none⟩ = some (.slice q 5 c) := wcell (cs := [_, _, _]) y1 2; have fz := wfree y1 2; have k0 : W3.cell? ⟨B + 1, 0, none⟩ = some (.int .i64 (a : Int)) := wcell (cs := [_, _, _]) y1 0; have k1 : W3.cell? ⟨B + 1, 1, none⟩ = some (.int .i64 (b : Int)) := wcell (cs := [_, _, _]) y1 1; have r0 : W3.cell? ⟨B, 0, none⟩ = some (.int .i64 0) := wcell (cs := [_, _, _]) y0 0; have r1 : W3.cell? ⟨B, 1, none⟩ = some (.int .i64 0) := wcell (cs := [_, _, _]) y0 1; have r2 : W3.cell? ⟨B, 2, none⟩ = some (.slice none 0 0) := wcell (cs := [_, _, _]) y0 2; have v0 := wfree y0 0; have v1 := wfree y0 1; have v2 := wfree y0 2; replace y0 := Lib.hid y0; replace y1 := Lib.hid y1; replace hO2 := Lib.hid hO2; replace hg2 := Lib.hid hg2)
      have hBw : w.heap.size ≤ B := by have := hBz.out; omega
      have gB := hB.out.grown hg2.out (by omega) (fun z e => by have := hqb.out z e; omega)


      have hO3 := OwnC.mono (k := 1) (B' := w.heap.size) hO2.out (by omega)
      have hkeep : ∀ x, q2 = some x → B + 2 ≤ x.block := fun x hx => (OwnC.block (k := 1) hO2.out x hx).1
      refine bodyPost_ret (v := .agg #[.int .i64 a, .int .i64 b, .slice q2 6 c2]) (by simp [results, Try.results54, go_sem, r0, r1, r2]) rfl ⟨q2, c2, rfl, ?_, ?_⟩
      · have := OwnC.keep (k := 1) (w' := ((((W3.setCell ⟨B + 1, 2, none⟩ (.slice q2 6 c2)).setCell ⟨B, 0, none⟩ (.int .i64 a)).setCell ⟨B, 1, none⟩ (.int .i64 b)).setCell ⟨B, 2, none⟩ (.slice q2 6 c2))) hO3 fun x hx => by
          have hb := hkeep x hx
          rw [wset_ne _ _ (by simp; omega), wset_ne _ _ (by simp; omega), wset_ne _ _ (by simp; omega), wset_ne _ _ (by simp; omega)]
        exact this
      · have gW : Below w.heap.size w W3 := ⟨gB.os, gB.tape, gB.output, gB.size, fun k hk => gB.block k (by omega)⟩
        repeat' (first | exact gW | refine Below.setCell ?_ (by simp; omega) _)
end Go.Proofs.Ytkakggagaplaiaa
