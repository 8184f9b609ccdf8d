/- The walk of gameroomkeep.ClockNever: it returns true; conditions: the slice's length fits its kind, and what the library reads of its own lies as Gl tells. -/
import Derived.Test.YtlmgfikjkflffaaDoorCkY
import Derived.Test.YtlmgfikjkflffaaDoorPick
namespace Go.Proofs.YtlmgfikjkflffaaDoor
open Go.RowKit

/-- what both runs answer. -/
theorem both_any (b k m r n : Int) (p : Option Addr) (l cq : Nat) (xs : List Int) (w0 : World) (hl : l ≤ 9223372036854775807) (hx0 : IntsIn w0 p l xs) : ∃ (D : Dv) (E : Int) (LL : Nat),
    (∀ W, IntsIn W p l xs → Calls Tryd.prog 4 #[ctl b k n m r, .slice p l cq] W fun e w' => e = .returned (.tuple #[clk D, .int .i64 E]) ∧ Below W.heap.size W w') ∧
    (∀ W, IntsIn W p l xs → Calls Tryd.prog 5 #[ctl b k n m r, .slice p l cq] W fun e w' => (∃ q cc, e = .returned (.tuple #[.slice q LL cc, .int .i64 E])) ∧ Below W.heap.size W w') ∧
    (E = 0 → ∃ (c : Ct) (s : List Nat), b = c.base ∧ k = c.kind ∧ n = c.bonus ∧ m = c.moves ∧ r = c.more ∧ xs = asI s ∧ c.base ≤ 36000000 ∧ c.bonus ≤ 36000000 ∧ c.more ≤ 36000000 ∧ c.moves ≤ 1000 ∧ c.kind ≤ 3 ∧ s.length ≤ 200 ∧ runS c (dev0 c) s = some D ∧ LL = D.mv + 1) := by
  have hlen := hx0.len
  by_cases h : errD b k n m r xs = 0
  · obtain ⟨c, s, rfl, rfl, rfl, rfl, rfl, rfl, h1, h2, h3, h4, h5, h6, h7⟩ := errD_yes h
    rw [asI_len] at hlen
    refine ⟨runD (runS c (dev0 c) s), runE (runS c (dev0 c) s), runL (runS c (dev0 c) s), fun W hW => Run_yes c s p l cq W hl hW h h1 h2 h3 h4 (by omega) h7, fun W hW => Left_yes c s p l cq W hl hW h h1 h2 h3 h4 (by omega) h7, fun hE => ?_⟩
    cases hR : runS c (dev0 c) s with
    | none => rw [hR] at hE; cases hE
    | some d => exact ⟨c, s, rfl, rfl, rfl, rfl, rfl, rfl, h1, h2, h3, h4, h5, h6, hR, rfl⟩
  · exact ⟨dvZ, errD b k n m r xs, 0, fun W hW => Run_no b k m r n p l cq xs W hl hW h, fun W hW => (Left_no b k m r n p l cq xs W hl hW h).mono fun e w' hh => ⟨⟨none, 0, hh.1⟩, hh.2⟩, fun hE => absurd hE h⟩

/-- the second run's box. -/
def YAt (W8 : World) (D : Dv) (v : Value) (X : World) : Prop :=
  ∃ yb, v = .pointer (some ⟨yb, 0, none⟩) ∧ X.heap[yb]? = some (.cells #[.int .i64 D.t0, .int .i64 D.t1, .int .i64 D.fl, .int .i64 D.mv] 27 (0, 0)) ∧ Below W8.heap.size W8 X
theorem yAt_new {W8 w6 : World} {D : Dv} (hb : Below W8.heap.size W8 w6) : YAt W8 D (.pointer (some ⟨w6.heap.size, 0, none⟩)) (w6.alloc (.cells #[.int .i64 D.t0, .int .i64 D.t1, .int .i64 D.fl, .int .i64 D.mv] 27)) :=
  ⟨_, rfl, heap_alloc_new _ _, hb.alloc hb.size _⟩
theorem yAt_set {W8 w6 : World} {D : Dv} {yb : Nat} (hb : Below W8.heap.size W8 w6) (hy : w6.heap[yb]? = some (.cells #[.int .i64 0, .int .i64 0, .int .i64 0, .int .i64 0] 27 (0, 0))) (hyb : W8.heap.size ≤ yb) :
    YAt W8 D (.pointer (some ⟨yb, 0, none⟩)) ((((w6.setCell ⟨yb, 0, none⟩ (.int .i64 D.t0)).setCell ⟨yb, 1, none⟩ (.int .i64 D.t1)).setCell ⟨yb, 2, none⟩ (.int .i64 D.fl)).setCell ⟨yb, 3, none⟩ (.int .i64 D.mv)) := by
  refine ⟨yb, rfl, ?_, ?_⟩
  · have h1 := wset hy 0 (.int .i64 D.t0)
    have h2 := wset h1 1 (.int .i64 D.t1)
    have h3 := wset h2 2 (.int .i64 D.fl)
    exact wset h3 3 (.int .i64 D.mv)
  · exact (((hb.setCell (p := ⟨yb, 0, none⟩) hyb _).setCell (p := ⟨yb, 1, none⟩) hyb _).setCell (p := ⟨yb, 2, none⟩) hyb _).setCell (p := ⟨yb, 3, none⟩) hyb _

set_option maxRecDepth 20000 in
set_option maxHeartbeats 8000000 in
theorem never_any (b k n m r t : Int) (p : Option Addr) (l cq : Nat) (xs : List Int) (w : World) (hl : l ≤ 9223372036854775807) (hx : IntsIn w p l xs) (ht1 : -9223372036854775808 ≤ t) (ht2 : t ≤ 9223372036854775807) (hg : Gl w) :
    Calls Tryd.prog 3 #[ctl b k n m r, .slice p l cq, .int .i64 t] w fun e w' => e = .returned (.bool true) ∧ Below w.heap.size w w' := by
  obtain ⟨D, E, LL, HR, HL, hE⟩ := both_any b k m r n p l cq xs w hl hx
  obtain ⟨w1, hw1⟩ : ∃ w1, w1 = w.alloc (.cells #[.int .i64 b, .int .i64 k, .int .i64 n, .int .i64 m, .int .i64 r] 23) := ⟨_, rfl⟩
  have hB1 : Below w.heap.size w w1 := by rw [hw1]; exact (Below.refl _ _).alloc (Nat.le_refl _) _
  have hbx : w1.heap[w.heap.size]? = some (.cells #[.int .i64 b, .int .i64 k, .int .i64 n, .int .i64 m, .int .i64 r] 23) := by rw [hw1]; exact heap_alloc_new _ _
  have H1 := HR w1 (hx.below hB1)
  rw [hw1] at H1
  have hzE : (E != E) = false := by simp
  unfold ctl at *
  unfold clk at H1
  replace HR := Lib.hid HR; replace HL := Lib.hid HL; replace hE := Lib.hid hE; replace hx := Lib.hid hx; replace hg := Lib.hid hg
  replace hB1 := Lib.hid hB1; replace hbx := Lib.hid hbx; replace H1 := Lib.hid H1; replace hw1 := Lib.hid hw1
  go_enter Tryd.func3, Tryd.ntmps3
  go_wp2_with fail
  refine H1.out.mono ?_
  rintro e w2 ⟨rfl, hB2⟩
  rw [← hw1.out] at hB2
  obtain ⟨w3, hw3⟩ : ∃ w3, w3 = w2.alloc (.cells #[.int .i64 D.t0, .int .i64 D.t1, .int .i64 D.fl, .int .i64 D.mv] 27) := ⟨_, rfl⟩
  have hB3 : Below w1.heap.size w1 w3 := by rw [hw3]; exact hB2.alloc hB2.size _
  have hbc := (hB3.block _ (lt_of_heap hbx.out)).trans hbx.out
  have hxb : w3.heap[w2.heap.size]? = some (.cells #[.int .i64 D.t0, .int .i64 D.t1, .int .i64 D.fl, .int .i64 D.mv] 27 (0, 0)) := by rw [hw3]; exact heap_alloc_new _ _
  have hBw3 : Below w.heap.size w w3 := hB1.out.trans (hB3.mono hB1.out.size)
  have H2 := HL.out w3 (hx.out.below hBw3)
  have a0 := wcell (cs := [_, _, _, _, _]) hbc 0; have a1 := wcell (cs := [_, _, _, _, _]) hbc 1; have a2 := wcell (cs := [_, _, _, _, _]) hbc 2; have a3 := wcell (cs := [_, _, _, _, _]) hbc 3; have a4 := wcell (cs := [_, _, _, _, _]) hbc 4
  rw [hw3] at H2 a0 a1 a2 a3 a4
  replace hB2 := Lib.hid hB2; replace hB3 := Lib.hid hB3; replace hbc := Lib.hid hbc; replace hxb := Lib.hid hxb; replace hBw3 := Lib.hid hBw3; replace H2 := Lib.hid H2; replace hw3 := Lib.hid hw3
  go_upto_if 36 with (go_at_call 5; refine H2.out.mono ?_; rintro e w4 ⟨⟨q, cc, rfl⟩, hB4⟩; rw [← hw3.out] at hB4; replace hB4 := Lib.hid hB4)
  have hBw4 : Hid (Below w.heap.size w w4) := hBw3.out.trans (hB4.out.mono hBw3.out.size)
  have hbc4 := (hB4.out.block _ (lt_of_heap hbc.out)).trans hbc.out
  have hxb4 := (hB4.out.block _ (lt_of_heap hxb.out)).trans hxb.out
  clear a0 a1 a2 a3 a4 H1 H2
  obtain ⟨xb, hxbe⟩ : ∃ xb, xb = w2.heap.size := ⟨_, rfl⟩
  rw [← hxbe] at hxb4 hxb ⊢
  have hb1 : w.heap.size < w4.heap.size := lt_of_heap hbc4
  have hb2 : xb < w4.heap.size := lt_of_heap hxb4
  replace hbc4 := Lib.hid hbc4; replace hxb4 := Lib.hid hxb4; replace hxbe := Lib.hid hxbe
  go_cut [] (fun wx => Below w.heap.size w wx)
  case first =>
    by_cases hE0 : E = 0
    · obtain ⟨c, s, rfl, rfl, rfl, rfl, rfl, rfl, q1, q2, q3, q4, q5, q6, hrun, hLL⟩ := hE.out hE0
      have hzE0 : (E == 0) = true := by simp [hE0]
      have hll : s.length = l := by have := hx.out.len; rwa [asI_len] at this
      obtain ⟨f0, f1, hP, hmv⟩ := run_law hrun
      obtain ⟨Y, hY, hYm, hYf, hYt⟩ := zeros_law c s.length
      have x0 := wcell (cs := [_, _, _, _]) hxb4.out 0
      have x1 := wcell (cs := [_, _, _, _]) hxb4.out 1
      have x2 := wcell (cs := [_, _, _, _]) hxb4.out 2
      have x3 := wcell (cs := [_, _, _, _]) hxb4.out 3
      have hLi : ((LL : Int) != (D.mv : Int) + 1) = false := by rw [hLL]; simp
      have hm200 : D.mv ≤ 200 := by omega
      have g0 : ¬ (D.fl < -1) := by omega
      have g1 : ¬ (1 < D.fl) := by omega
      have e0 : decide ((D.t0 : Int) < 0) = false := decide_eq_false (by omega)
      have e1 : decide ((D.t1 : Int) < 0) = false := decide_eq_false (by omega)
      have e2 : decide (D.fl < -1) = false := decide_eq_false g0
      have e3 : decide (1 < D.fl) = false := decide_eq_false g1
      replace hYm := Lib.hid hYm; replace hYf := Lib.hid hYf
      replace hrun := Lib.hid hrun; replace hLL := Lib.hid hLL; replace hP := Lib.hid hP; replace hY := Lib.hid hY; replace hYt := Lib.hid hYt; replace f0 := Lib.hid f0; replace f1 := Lib.hid f1; replace hE0 := Lib.hid hE0; replace hll := Lib.hid hll; replace q6 := Lib.hid q6
      go_upto_region 8 with fail
      have hlen0 : IntsIn w4 p l (asI s) := hx.out.below hBw4.out
      obtain ⟨Z, hZ⟩ : ∃ Z : Obj, Z = .cells (Array.replicate l (.int .i64 0)) 3 := ⟨_, rfl⟩
      obtain ⟨X, hX⟩ : ∃ X : Obj, X = .cells #[.int .i64 0, .int .i64 0, .int .i64 0, .int .i64 0] 27 := ⟨_, rfl⟩
      have l200 : l ≤ 200 := by have := hll.out; have := q6.out; omega
      have hmk := fun W : World => run_mk intG .i64 .i64 (l : Int) (l : Int) l rfl rfl (by omega) W
      have hrep : (List.replicate l (0 : Int)) = asI (List.replicate l 0) := by unfold asI; rw [List.map_replicate]; rfl
      have hst0 : ∀ j, st (List.replicate l 0) j ≤ 36000000 := fun j => by
        unfold st
        by_cases hj : j < l
        · rw [List.getElem?_eq_getElem (by simpa using hj)]; simp
        · rw [List.getElem?_eq_none (by simpa using hj)]; simp
      have herr : errD c.base c.kind c.bonus c.moves c.more (asI (List.replicate l 0)) = 0 := (errD_of q1 q2 q3 q4 q5 (by simpa using l200) hst0).2
      have hY2 : runS c (dev0 c) (List.replicate l 0) = some Y := by rw [← hll.out]; exact hY.out
      have HY : ∀ W q, IntsIn W (some ⟨q, 0, none⟩) l (List.replicate l 0) → Calls Tryd.prog 4 #[ctl c.base c.kind c.bonus c.moves c.more, .slice (some ⟨q, 0, none⟩) l l] W fun e w' => e = .returned (.tuple #[clk Y, .int .i64 0]) ∧ Below W.heap.size W w' := fun W q hW => by
        have h := Run_yes c (List.replicate l 0) (some ⟨q, 0, none⟩) l l W hl (by rw [← hrep]; exact hW) herr q1 q2 q3 q4 l200 hst0
        rw [hY2] at h
        exact h
      have kc : ∀ W, Below w4.heap.size w4 W → W.cell? ⟨w.heap.size, 0, none⟩ = some (.int .i64 c.base) ∧ W.cell? ⟨w.heap.size, 1, none⟩ = some (.int .i64 c.kind) ∧ W.cell? ⟨w.heap.size, 2, none⟩ = some (.int .i64 c.bonus) ∧ W.cell? ⟨w.heap.size, 3, none⟩ = some (.int .i64 c.moves) ∧ W.cell? ⟨w.heap.size, 4, none⟩ = some (.int .i64 c.more) := fun W hW => by
        have h := (hW.block _ hb1).trans hbc4.out
        exact ⟨wcell (cs := [_, _, _, _, _]) h 0, wcell (cs := [_, _, _, _, _]) h 1, wcell (cs := [_, _, _, _, _]) h 2, wcell (cs := [_, _, _, _, _]) h 3, wcell (cs := [_, _, _, _, _]) h 4⟩
      have r0 := Below.refl w4.heap.size w4
      have rZ : Below w4.heap.size w4 (w4.alloc Z) := r0.alloc (Nat.le_refl _) _
      have rX : Below w4.heap.size w4 (w4.alloc X) := r0.alloc (Nat.le_refl _) _
      have rZX : Below w4.heap.size w4 ((w4.alloc Z).alloc X) := rZ.alloc (by simp) _
      have rXZ : Below w4.heap.size w4 ((w4.alloc X).alloc Z) := rX.alloc (by simp) _
      obtain ⟨a0, a1, a2, a3, a4⟩ := kc _ r0
      obtain ⟨b0, b1, b2, b3, b4⟩ := kc _ rZ
      obtain ⟨c0, c1, c2, c3, c4⟩ := kc _ rX
      obtain ⟨d0, d1, d2, d3, d4⟩ := kc _ rZX
      obtain ⟨i0, i1, i2, i3, i4⟩ := kc _ rXZ
      have iZ : IntsIn (w4.alloc Z).drew (some ⟨w4.heap.size, 0, none⟩) l (List.replicate l 0) := by rw [hZ]; exact IntsIn.new w4 _ 3 _ l _ rfl (by simp) (by simp)
      have iZX : IntsIn ((w4.alloc Z).alloc X).drew (some ⟨w4.heap.size, 0, none⟩) l (List.replicate l 0) := by rw [hZ]; exact (IntsIn.new w4 _ 3 _ l _ rfl (by simp) (by simp)).alloc X
      have iXZ : IntsIn ((w4.alloc X).alloc Z).drew (some ⟨w4.heap.size + 1, 0, none⟩) l (List.replicate l 0) := by rw [hZ]; exact IntsIn.new (w4.alloc X) _ 3 _ l _ (by simp) (by simp) (by simp)
      have YZ := HY _ _ iZ
      have YZX := HY _ _ iZX
      have YXZ := HY _ _ iXZ
      have hxZX : ((w4.alloc Z).alloc X).heap[w4.heap.size + 1]? = some (.cells #[.int .i64 0, .int .i64 0, .int .i64 0, .int .i64 0] 27 (0, 0)) := by rw [(heap2 w4 Z X).2, hX]
      have hxXZ : ((w4.alloc X).alloc Z).heap[w4.heap.size]? = some (.cells #[.int .i64 0, .int .i64 0, .int .i64 0, .int .i64 0] 27 (0, 0)) := by rw [(heap2 w4 X Z).1, hX]
      unfold ctl at YZ YZX YXZ
      unfold clk at YZ YZX YXZ
      subst hZ; subst hX
      replace YZ := Lib.hid YZ; replace YZX := Lib.hid YZX; replace YXZ := Lib.hid YXZ; replace hxZX := Lib.hid hxZX; replace hxXZ := Lib.hid hxXZ
      replace rZ := Lib.hid rZ; replace rX := Lib.hid rX; replace rZX := Lib.hid rZX; replace rXZ := Lib.hid rXZ; replace iZ := Lib.hid iZ; replace iZX := Lib.hid iZX; replace iXZ := Lib.hid iXZ
      replace hst0 := Lib.hid hst0; replace herr := Lib.hid herr; replace hY2 := Lib.hid hY2; replace hrep := Lib.hid hrep; replace HY := Lib.hid HY; replace kc := Lib.hid kc; replace r0 := Lib.hid r0
      go_cut [11, 12] (fun s11 s12 wx => YAt w4 Y s11 wx ∧ s12 = .int .i64 0)
      case first =>
        go_region_law (go_simp; go_at_call 4; first
          | ((with_reducible refine YZ.out.mono ?_); rintro e w6 ⟨rfl, hb6⟩; have hbox : Hid (YAt w4 Y (.pointer (some ⟨w6.heap.size, 0, none⟩)) (w6.alloc (.cells #[.int .i64 Y.t0, .int .i64 Y.t1, .int .i64 Y.fl, .int .i64 Y.mv] 27))) := yAt_new (rZ.out.drew.trans (hb6.mono (by simp))); clear hb6)
          | ((with_reducible refine YZX.out.mono ?_); rintro e w6 ⟨rfl, hb6⟩; have hy6 := (hb6.block (w4.heap.size + 1) (by simp)).trans hxZX.out; have m0 := wcell (cs := [_, _, _, _]) hy6 0; have m1 := wcell (cs := [_, _, _, _]) hy6 1; have m2 := wcell (cs := [_, _, _, _]) hy6 2; have m3 := wcell (cs := [_, _, _, _]) hy6 3; have v0 := wfree hy6 0; have v1 := wfree hy6 1; have v2 := wfree hy6 2; have v3 := wfree hy6 3; have hbox := Lib.hid (yAt_set (D := Y) (rZX.out.drew.trans (hb6.mono (by simp; omega))) hy6 (by omega)); replace hy6 := Lib.hid hy6; clear hb6)
          | ((with_reducible refine YXZ.out.mono ?_); rintro e w6 ⟨rfl, hb6⟩; have hy6 := (hb6.block w4.heap.size (by simp; omega)).trans hxXZ.out; have m0 := wcell (cs := [_, _, _, _]) hy6 0; have m1 := wcell (cs := [_, _, _, _]) hy6 1; have m2 := wcell (cs := [_, _, _, _]) hy6 2; have m3 := wcell (cs := [_, _, _, _]) hy6 3; have v0 := wfree hy6 0; have v1 := wfree hy6 1; have v2 := wfree hy6 2; have v3 := wfree hy6 3; have hbox := Lib.hid (yAt_set (D := Y) (rXZ.out.drew.trans (hb6.mono (by simp; omega))) hy6 (by omega)); replace hy6 := Lib.hid hy6; clear hb6))
        all_goals
          go_simp
          go_wp2_with fail
          go_meet
          exact ⟨hbox.out, rfl⟩
      case rest =>
        obtain ⟨⟨yb, rfl, hyc, hBy⟩, rfl⟩ := hcut
        obtain ⟨w5, rfl⟩ : ∃ w5 : World, w5 = wc := ⟨_, rfl⟩
        obtain ⟨z0, z1, z2, z3, z4⟩ := kc.out w5 hBy
        have hx5 := (hBy.block _ hb2).trans hxb4.out
        have u0 := wcell (cs := [_, _, _, _]) hx5 0
        have y0 := wcell (cs := [_, _, _, _]) hyc 0
        have y2 := wcell (cs := [_, _, _, _]) hyc 2
        have y3 := wcell (cs := [_, _, _, _]) hyc 3
        clear a0 a1 a2 a3 a4 b0 b1 b2 b3 b4 c0 c1 c2 c3 c4 d0 d1 d2 d3 d4 i0 i1 i2 i3 i4 x0 x1 x2 x3 YZ YZX YXZ hmk e0 e1 e2 e3
        obtain ⟨K, hK⟩ : ∃ K, (l + 1) / 2 = K := ⟨_, rfl⟩
        have hKi : ((l : Int) + 1) / 2 = K := by omega
        have hK200 : K ≤ 200 := by omega
        have HP := Pace_any c K w5 q1 q2 q3 q4 q5 hK200
        have hDP : D.t0 ≤ P c K := by rw [← hK, ← hll.out]; exact hP.out
        have hYP : c.kind < 2 → Y.t0 = P c K := by rw [← hK, ← hll.out]; exact hYt.out
        unfold ctl at HP
        obtain ⟨PP, hPP⟩ : ∃ PP, P c K = PP := ⟨_, rfl⟩
        rw [hPP] at HP hDP hYP
        rw [hYf.out] at y2
        have e4 : ((Y.mv : Int) != (l : Int)) = false := by rw [hYm.out, hll.out]; simp
        replace hBy := Lib.hid hBy; replace hyc := Lib.hid hyc; replace hx5 := Lib.hid hx5; replace HP := Lib.hid HP; replace hPP := Lib.hid hPP; replace hYP := Lib.hid hYP; replace hK := Lib.hid hK
        have hfin : Hid (Below w.heap.size w w5) := hBw4.out.trans (hBy.out.mono hBw4.out.size)
        have hDPd : decide (PP < D.t0) = false := decide_eq_false (by omega)
        have hDPi : decide ((PP : Int) < (D.t0 : Int)) = false := decide_eq_false (by omega)
        by_cases hk2 : c.kind < 2
        · have e5 : ((Y.t0 : Int) != (PP : Int)) = false := by rw [hYP.out hk2]; simp
          have hki : (c.kind : Int) < 2 := by omega
          replace hk2 := Lib.hid hk2
          go_wp2_with fail
          refine HP.out.mono ?_
          rintro e w6 ⟨rfl, hB6⟩
          have hfin6 : Hid (Below w.heap.size w w6) := hfin.out.trans (hB6.mono hfin.out.size)
          have b5 := hb1
          obtain ⟨z0, z1, z2, z3, z4⟩ := kc.out w6 (hBy.out.trans (hB6.mono hBy.out.size))
          have x6 := (hB6.block _ (lt_of_heap hx5.out)).trans hx5.out
          have y6 := (hB6.block _ (lt_of_heap hyc.out)).trans hyc.out
          have u0 := wcell (cs := [_, _, _, _]) x6 0
          have y0 := wcell (cs := [_, _, _, _]) y6 0
          replace x6 := Lib.hid x6; replace y6 := Lib.hid y6; replace hB6 := Lib.hid hB6
          go_wp2_with fail
          all_goals
            go_meet
            exact hfin6.out
        · have hki : 2 ≤ (c.kind : Int) := by omega
          replace hk2 := Lib.hid hk2
          go_wp2_with fail
          refine HP.out.mono ?_
          rintro e w6 ⟨rfl, hB6⟩
          have hfin6 : Hid (Below w.heap.size w w6) := hfin.out.trans (hB6.mono hfin.out.size)
          obtain ⟨z0, z1, z2, z3, z4⟩ := kc.out w6 (hBy.out.trans (hB6.mono hBy.out.size))
          have x6 := (hB6.block _ (lt_of_heap hx5.out)).trans hx5.out
          have y6 := (hB6.block _ (lt_of_heap hyc.out)).trans hyc.out
          have u0 := wcell (cs := [_, _, _, _]) x6 0
          have y0 := wcell (cs := [_, _, _, _]) y6 0
          replace x6 := Lib.hid x6; replace y6 := Lib.hid y6; replace hB6 := Lib.hid hB6
          go_wp2_with fail
          all_goals
            go_meet
            exact hfin6.out
    · have hzE0 : (E == 0) = false := by simp [hE0]
      replace hE0 := Lib.hid hE0
      go_wp2_with fail
      go_meet
      exact hBw4.out
  case rest =>
    obtain ⟨w5, rfl⟩ : ∃ w5 : World, w5 = wc := ⟨_, rfl⟩
    have hB5 := Lib.hid hcut
    clear hcut hbc4 hxb4 hb1 hb2 hzE
    have hp := pick_lt t 36000001 (by omega)
    have HP := Lib.hid (picked_any t 36000001 w5 ht1 ht2 (by omega) (by omega) 36000001 (Lib.hid rfl))
    generalize pick t 36000001 = N at *
    have hN : N ≤ 36000000 := by omega
    have hR := readN_le N
    have HS := fun W (hW : Gl W) => Show_any N W hN hW
    have HQ := fun W (hW : Gl W) => Read_any N W hN hW
    have HU := fun W (hW : Gl W) => Show_any (readN N) W (by omega) hW
    rw [show_read] at HU
    generalize readN N = R at *
    generalize BS (showS N) = S at *
    have hg5 := Lib.hid (hg.out.below hB5.out)
    have hS5 := Lib.hid (HS w5 hg5.out)
    replace HS := Lib.hid HS; replace HQ := Lib.hid HQ; replace HU := Lib.hid HU
    go_wp2_with fail
    refine HP.out.mono ?_
    rintro e w' ⟨rfl, rfl⟩
    go_wp2_with fail
    refine hS5.out.mono ?_
    rintro e w6 ⟨rfl, hB6⟩
    have hg6 := Lib.hid (hg5.out.below hB6)
    have hQ6 := Lib.hid (HQ.out w6 hg6.out)
    replace hB6 := Lib.hid hB6
    go_wp2_with fail
    refine hQ6.out.mono ?_
    rintro e w7 ⟨rfl, hB7⟩
    have hg7 := Lib.hid (hg6.out.below hB7)
    have hU7 := Lib.hid (HU.out w7 hg7.out)
    replace hB7 := Lib.hid hB7
    go_wp2_with fail
    refine hU7.out.mono ?_
    rintro e w8 ⟨rfl, hB8⟩
    replace hB8 := Lib.hid hB8
    go_wp2_with fail
    go_ret
    refine ⟨rfl, ?_⟩
    have e6 := hB5.out.trans (hB6.out.mono hB5.out.size)
    have e7 := e6.trans (hB7.out.mono e6.size)
    exact e7.trans (hB8.out.mono e7.size)
end Go.Proofs.YtlmgfikjkflffaaDoor
