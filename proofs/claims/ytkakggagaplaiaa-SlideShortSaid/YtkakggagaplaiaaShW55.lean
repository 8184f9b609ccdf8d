/- The walk of slide.rings with the closure 55: it is told each ring; conditions stand in it. -/
import Derived.Test.YtkakggagaplaiaaShX
import Derived.Deep.Cut
import Derived.Deep.CutBlock
import Derived.Deep.DeepCutAuto
import Derived.Deep.RegionLaw
namespace Go.Proofs.Ytkakggagaplaiaa
open Go.RowKit

set_option maxRecDepth 100000 in
set_option maxHeartbeats 16000000 in
theorem rings55_any (a b x1 x2 c0 : Nat) (p : Option Addr) (J Fin : Nat → World → Prop) (w : World) (hab : a = 2 ∧ b = 3 ∨ a = 3 ∧ b = 2) (h1 : x1 < w.heap.size) (h2 : x2 < w.heap.size) (hx : IntsIn w p 6 (asI hmB))
    (hJ : ∀ d A B, J d A → w.heap.size ≤ A.heap.size → Below w.heap.size A B → J d B) (h0 : J 0 w)
    (HT : ∀ d W q m c mb, d ≤ 21 → J d W → RgM w.heap.size W a b q m c (stg a b d).2 → KnM W mb (stg a b d).1 →
      Calls Try.prog 55 #[.slice q m c, .map (some mb), .pointer (some ⟨x1, 0, none⟩), .pointer (some ⟨x2, 0, none⟩)] W fun e W' =>
        (e = .returned (.bool true) ∧ d < 21 ∧ J (d + 1) W' ∧ TwS x1 x2 W W') ∨ (e = .returned (.bool false) ∧ Fin d W' ∧ TwS x1 x2 W W')) :
    Calls Try.prog 53 #[.agg #[.int .i64 a, .int .i64 b, .slice p 6 c0], .func (.func 55) #[] #[.pointer (some ⟨x1, 0, none⟩), .pointer (some ⟨x2, 0, none⟩)]] w fun e w' => e = .returned (.tuple #[]) ∧ (∃ d, d ≤ 21 ∧ Fin d w') ∧ TwS x1 x2 w w' := by
  have hd : 2 ≤ a ∧ a ≤ 3 ∧ 2 ≤ b ∧ b ≤ 3 ∧ a * b = 6 := by rcases hab with ⟨rfl, rfl⟩ | ⟨rfl, rfl⟩ <;> decide
  obtain ⟨d1, d2, d3, d4, d5⟩ := hd
  have hst := Lib.hid (stages hab)
  have ho6 : IsOrd 6 hmB := ring_ord d1 d2 d3 d4 d5 0 hmB (by simp [stg, itR, sg0])
  replace hJ := Lib.hid hJ; replace h0 := Lib.hid h0; replace HT := Lib.hid HT
  obtain ⟨R0, hR0⟩ : ∃ R0, R0 = w.heap.size := ⟨_, rfl⟩
  go_enter Try.func53, Try.ntmps53
  go_upto_region 1 with fail
  generalize hW : w.alloc (Obj.cells _ 39) = W0
  have hb0 : W0.heap[w.heap.size]? = some (.cells #[.int .i64 (a : Int), .int .i64 (b : Int), .slice p 6 c0] 39 (0, 0)) := by rw [← hW]; exact heap_alloc_new w _
  have hB0 : Below w.heap.size w W0 := by rw [← hW]; exact (Below.refl _ w).alloc (Nat.le_refl _) _
  have hs0 : W0.heap.size = w.heap.size + 1 := by rw [← hW]; simp
  clear hW
  -- the map
  have hm1 := knM_made W0
  have hB1 : Below w.heap.size w (W0.alloc (.map #[] 0)) := hB0.alloc hB0.size _
  have k2 : (W0.alloc (.map #[] 0)).cell? ⟨w.heap.size, 2, none⟩ = some (.slice p 6 c0) := wcell (cs := [_, _, _]) ((Below.heap_alloc W0 (.map #[] 0) w.heap.size (by omega)).trans hb0) 2
  have HN := Lib.hid (name_any p c0 hmB (W0.alloc (.map #[] 0)) (hx.below hB1))
  have hz1 : (W0.alloc (.map #[] 0)).heap.size = w.heap.size + 2 := by simp [hs0]
  have hb1 : (W0.alloc (.map #[] 0)).heap[w.heap.size]? = some (.cells #[.int .i64 (a : Int), .int .i64 (b : Int), .slice p 6 c0] 39 (0, 0)) := (Below.heap_alloc W0 (.map #[] 0) w.heap.size (by omega)).trans hb0
  replace hb1 := Lib.hid hb1; replace hm1 := Lib.hid hm1; replace hB1 := Lib.hid hB1; replace hz1 := Lib.hid hz1
  have hsq : (W0.alloc (.map #[] 0)).heap.size = R0 + 2 := by rw [hR0]; exact hz1.out
  obtain ⟨mb, hmb⟩ : ∃ mb, mb = W0.heap.size := ⟨_, rfl⟩
  have hmR : R0 + 1 = mb := by rw [hmb, hs0, hR0]
  rw [← hmb] at hm1
  have hmm : (Instr.makeMap 92 none).run Try.prog W0 = .ok (.map (some mb)) (W0.alloc (.map #[] 0)) := by rw [hmb]; rfl
  replace hR0 := Lib.hid hR0; replace hmb := Lib.hid hmb; replace hmR := Lib.hid hmR; replace hsq := Lib.hid hsq
  rw [← hR0.out] at hb1 k2 ⊢
  clear hs0 hb0 hB0
  obtain ⟨W1, hW1⟩ : ∃ W1, W1 = W0.alloc (.map #[] 0) := ⟨_, rfl⟩
  rw [← hW1] at hmm hm1 hB1 k2 HN hz1 hb1 hsq
  clear hW1
  unfold nmV at HN
  go_wp2_with fail
  refine HN.out.mono ?_
  rintro e W2 ⟨rfl, hb2⟩
  have hm2 := hm1.out.below hb2
  obtain ⟨W3, hp3, hm3, hg3⟩ := kn_put hm2 ho6 (by simp) (x := -1) (by omega)
  have hb13 : Below R0 W1 W3 := ((hb2.mono (by rw [hsq.out]; omega)).grown hg3 (by have := hsq.out; have := hb2.size; omega) (fun k e => by cases e; have := hmR.out; omega))
  have q3 : W3.heap[R0]? = some (.cells #[.int .i64 (a : Int), .int .i64 (b : Int), .slice p 6 c0] 39 (0, 0)) := (hg3.block R0 (by have := hsq.out; have := hb2.size; omega) (by intro e; injection e with e; have := hmR.out; omega)).trans ((hb2.block R0 (by rw [hsq.out]; omega)).trans hb1.out)
  have a0 : W3.cell? ⟨R0, 0, none⟩ = some (.int .i64 (a : Int)) := wcell (cs := [_, _, _]) q3 0
  have a1 : W3.cell? ⟨R0, 1, none⟩ = some (.int .i64 (b : Int)) := wcell (cs := [_, _, _]) q3 1
  have a2 : W3.cell? ⟨R0, 2, none⟩ = some (.slice p 6 c0) := wcell (cs := [_, _, _]) q3 2
  have hB3 : Below R0 w W3 := by
    have := hB1.out; rw [← hR0.out] at this; exact this.trans hb13
  have hx3 : IntsIn W3 p 6 (asI hmB) := hx.below (by rw [← hR0.out]; exact hB3)
  have hNT := Lib.hid (newTray_any a b 6 c0 p hmB W3 (by omega) (by omega) hx3 ho6)
  have hz3 : R0 + 2 ≤ W3.heap.size := by have := hsq.out; have := hb2.size; have := hg3.size; omega
  unfold nmV at hp3
  replace hm3 := Lib.hid hm3; replace hB3 := Lib.hid hB3; replace hz3 := Lib.hid hz3
  clear hm2 hb2 hg3 hb13 q3 hx3 hm1 hB1 hz1 hb1 HN hx
  go_wp2_with fail
  refine hNT.out.mono ?_
  rintro e W4 ⟨tb, q, c', rfl, hTr, hb4⟩
  have hz4 : R0 ≤ W4.heap.size := by have := hz3.out; have := hb4.size; omega
  have hrg : RgM R0 (W4.alloc (.cells #[.pointer (some ⟨tb, 0, none⟩)] 77)) a b (some ⟨W4.heap.size, 0, none⟩) 1 1 (stg a b 0).2 := RgM.one (tray_read hTr (by have := hz3.out; omega)) hz4
  have hb45 : Below W3.heap.size W3 (W4.alloc (.cells #[.pointer (some ⟨tb, 0, none⟩)] 77)) := hb4.alloc hb4.size _
  have hkm : KnM (W4.alloc (.cells #[.pointer (some ⟨tb, 0, none⟩)] 77)) mb (stg a b 0).1 := hm3.out.below hb45
  have hB5 : Below R0 w (W4.alloc (.cells #[.pointer (some ⟨tb, 0, none⟩)] 77)) := hB3.out.trans (hb45.mono (by have := hz3.out; omega))
  have hj0 : J 0 (W4.alloc (.cells #[.pointer (some ⟨tb, 0, none⟩)] 77)) := hJ.out 0 w _ h0.out (Nat.le_refl _) (by rw [← hR0.out]; exact hB5)
  have htw : TwS x1 x2 w (W4.alloc (.cells #[.pointer (some ⟨tb, 0, none⟩)] 77)) := (TwS.refl _ _ _).low hB5 (by rw [← hR0.out]; exact Nat.le_refl _)
  replace hrg := Lib.hid hrg; replace hkm := Lib.hid hkm; replace hj0 := Lib.hid hj0; replace htw := Lib.hid htw
  clear hTr hb4 hb45 hB5 hNT hm3 hB3 hp3 hmm a0 a1 a2
  go_wp2_with fail
  go_loopg [5] 22 (fun gk rv W' => ∃ (d m c : Nat) (q : Option Addr), d ≤ 21 ∧ gk = 22 - d ∧ rv = .slice q m c ∧ Hid (RgM R0 W' a b q m c (stg a b d).2) ∧ Hid (KnM W' mb (stg a b d).1) ∧ Hid (J d W') ∧ Hid (TwS x1 x2 w W'))
  case atStart => exact ⟨0, 1, 1, _, by omega, by omega, rfl, hrg, hkm, hj0, htw⟩
  case round =>
    clear hrg hkm hj0 htw
    obtain ⟨d, m, c, q, hd, hgk, rfl, hrg, hkm, hj, htw⟩ := hrel
    obtain ⟨W1, rfl⟩ : ∃ W1 : World, W1 = wr := ⟨_, rfl⟩
    replace hgk := Lib.hid hgk
    have hml := hrg.out.len
    have hm1 : 0 < m := by
      have := (hst.out.1 d (by omega)).1
      rcases Nat.eq_zero_or_pos m with h | h
      · exact absurd (List.eq_nil_of_length_eq_zero (by omega)) this
      · exact h
    have hm360 : m ≤ 360 := by have := (cm_le hab hd).2; omega
    have dm : decide ((0 : Int) < (m : Int)) = true := decide_eq_true (by omega)
    have HTd := Lib.hid (HT.out d W1 q m c mb hd hj.out (by rw [← hR0.out]; exact hrg.out) hkm.out)
    have r1 : x1 < R0 := by rw [hR0.out]; exact h1
    have r2 : x2 < R0 := by rw [hR0.out]; exact h2
    replace hml := Lib.hid hml
    go_wp2_with fail
    refine HTd.out.mono ?_
    rintro e W2 (⟨rfl, hd2, hj2, ht2⟩ | ⟨rfl, hf2, ht2⟩)
    · have hrg2 := hrg.out.two ht2 r1 r2
      have hkm2 := hkm.out.two ht2 (by have := hmR.out; omega) (by have := hmR.out; omega)
      have htw2 := htw.out.trans ht2
      have hwR : w.heap.size = R0 := by rw [hR0.out]
      have hRs : R0 ≤ W2.heap.size := by have := htw2.size; omega
      have hord := ring_ord d1 d2 d3 d4 d5 d
      have hlen2 := (cm_le hab (d := d + 1) (by omega))
      replace hrg2 := Lib.hid hrg2; replace hkm2 := Lib.hid hkm2; replace htw2 := Lib.hid htw2; replace hj2 := Lib.hid hj2; replace hRs := Lib.hid hRs; replace hord := Lib.hid hord; replace hwR := Lib.hid hwR; replace hlen2 := Lib.hid hlen2
      clear hrg hkm htw hj ht2 HTd
      have hlen1 := hrg2.out.len
      replace hlen1 := Lib.hid hlen1
      go_wp2_with fail
      go_loopg [6, 32] m (fun gk lv iv W' => ∃ (i m2 c2 : Nat) (q2 : Option Addr), i ≤ m ∧ gk = m - i ∧ iv = .int .i64 i ∧ lv = .slice q2 m2 c2 ∧ Hid (Stg W2 W' mb) ∧ Hid (KnM W' mb (((stg a b d).2.take i).foldl (stT a b) ((stg a b d).1, [])).1) ∧ Hid (RgM W2.heap.size W' a b q2 m2 c2 (((stg a b d).2.take i).foldl (stT a b) ((stg a b d).1, [])).2))
      case atStart => exact ⟨0, 0, 0, none, by omega, by omega, rfl, rfl, Stg.refl _ _, hkm2.out, RgM.nil _ _ _ _⟩
      case round =>
        obtain ⟨i, m2, c2, q2, hi, hgk2, rfl, rfl, hSt, hKn, hNx⟩ := hrel
        obtain ⟨W1, rfl⟩ : ∃ W1 : World, W1 = wr := ⟨_, rfl⟩
        replace hgk2 := Lib.hid hgk2
        rcases Nat.lt_or_ge i m with hlt | hge
        · have dm2 : decide ((i : Int) < (m : Int)) = true := decide_eq_true (by omega)
          have hlm : i < (stg a b d).2.length := by rw [hlen1.out]; exact hlt
          obtain ⟨t, ht⟩ : ∃ t, (stg a b d).2[i] = t := ⟨_, rfl⟩
          have hgt : (stg a b d).2[i]?.getD [] = t := by rw [List.getElem?_eq_getElem hlm, ← ht]; rfl
          have hto : IsOrd 6 t := hord.out t (by rw [← ht]; exact List.getElem_mem hlm)
          have hTk := take_fold (stT a b) ((stg a b d).1, []) (stg a b d).2 i hlm
          rw [ht] at hTk
          obtain ⟨acc0, hac⟩ : ∃ acc0, ((stg a b d).2.take i).foldl (stT a b) ((stg a b d).1, []) = acc0 := ⟨_, rfl⟩
          rw [hac] at hTk hKn hNx
          have hnl : acc0.1.length ≤ 99990 ∧ acc0.2.length ≤ acc0.1.length := by
            have h8 := (foldT_len a b ((stg a b d).2.take i) ((stg a b d).1, [])).1
            rw [hac] at h8
            have h9 : ((stg a b d).1, ([] : List (List Nat))).2.length = 0 := rfl
            have h5 := (cm_le hab hd)
            have h6 := (foldT_len a b ((stg a b d).2.take i) ((stg a b d).1, [])).2
            rw [hac, List.length_take] at h6
            have h7 : ((stg a b d).1, ([] : List (List Nat))).1.length = (stg a b d).1.length := rfl
            rw [h7] at h6 h8
            rw [h9] at h8
            exact ⟨by omega, by omega⟩
          have hRg1 : RgM R0 W1 a b q m c (stg a b d).2 := hrg2.out.map hkm2.out hSt.out
          obtain ⟨gq, tb, hqq, hgq, hcq, hTr⟩ := hRg1.at hlt
          rw [hgt] at hTr
          have i1 : (i : Int) < (m : Int) := by omega
          have i0 : (0 : Int) ≤ (i : Int) := by omega
          obtain rfl := hqq
          replace hto := Lib.hid hto; replace hTk := Lib.hid hTk; replace hTr := Lib.hid hTr; replace hnl := Lib.hid hnl
          clear hgt ht hRg1 hac
          go_wp2_with fail
          go_loopg [6, 36] 4 (fun gk lv jv W' => ∃ (j m3 c3 : Nat) (q3 : Option Addr), j ≤ 4 ∧ gk = 4 - j ∧ jv = .int .i64 j ∧ lv = .slice q3 m3 c3 ∧ Hid (Stg W2 W' mb) ∧ Hid (TrR R0 W' a b tb t) ∧ Hid (KnM W' mb ((List.range j).foldl (stD a b t) acc0).1) ∧ Hid (RgM W2.heap.size W' a b q3 m3 c3 ((List.range j).foldl (stD a b t) acc0).2))
          case atStart => exact ⟨0, m2, c2, q2, by omega, by omega, rfl, rfl, hSt, hTr, hKn, hNx⟩
          case round =>
            clear hSt hTr hKn hNx hcq
            obtain ⟨j, m3, c3, q3, hj4, hgk3, rfl, rfl, hSt, hTr, hKn, hNx⟩ := hrel
            obtain ⟨W3, rfl⟩ : ∃ W3 : World, W3 = wr := ⟨_, rfl⟩
            replace hgk3 := Lib.hid hgk3
            rcases Nat.lt_or_ge j 4 with hlt4 | hge4
            · have dm4 : decide ((j : Int) < 4) = true := decide_eq_true (by omega)
              have hnj : ((List.range j).foldl (stD a b t) acc0).1.length ≤ 100000 ∧ ((List.range j).foldl (stD a b t) acc0).2.length ≤ 100000 := by
                have h8 := (fold_len a b t (List.range j) acc0).1
                have h9 := (fold_len a b t (List.range j) acc0).2
                rw [List.length_range] at h9
                have := hnl.out
                exact ⟨by omega, by omega⟩
              have hSc := foldR_succ (stD a b t) acc0 j
              obtain ⟨acc, hac⟩ : ∃ acc, (List.range j).foldl (stD a b t) acc0 = acc := ⟨_, rfl⟩
              rw [hac] at hSc hKn hNx hnj
              obtain ⟨g, c0, hbx, hix, htb, hgR⟩ := hTr.out.ints
              have htl := lt_of_heap hbx
              have e0 : W3.cell? ⟨tb, 0, none⟩ = some (.int .i64 (a : Int)) := wcell (cs := [_, _, _, _]) hbx 0
              have e1 : W3.cell? ⟨tb, 1, none⟩ = some (.int .i64 (b : Int)) := wcell (cs := [_, _, _, _]) hbx 1
              have e2 : W3.cell? ⟨tb, 2, none⟩ = some (.slice (some ⟨g, 0, none⟩) 6 c0) := wcell (cs := [_, _, _, _]) hbx 2
              have e3 : W3.cell? ⟨tb, 3, none⟩ = some (.int .i64 (ixN t 0 : Nat)) := wcell (cs := [_, _, _, _]) hbx 3
              replace hbx := Lib.hid hbx; replace hix := Lib.hid hix; replace htl := Lib.hid htl; replace hSc := Lib.hid hSc; replace hnj := Lib.hid hnj
              clear hac
              go_upto_region 11 with fail
              go_region_law (fail)
              all_goals
                generalize hW5 : (W3.alloc _).drew = W5
                have q5 : W5.heap[W3.heap.size]? = some (.cells #[.int .i64 (a : Int), .int .i64 (b : Int), .slice (some ⟨g, 0, none⟩) 6 c0, .int .i64 (ixN t 0 : Nat)] 80 (0, 0)) := by rw [← hW5]; exact heap_alloc_new W3 _
                have hB5 : Below W3.heap.size W3 W5 := by rw [← hW5]; exact ((Below.refl _ W3).alloc (Nat.le_refl _) _).drew
                have hs5 : W5.heap.size = W3.heap.size + 1 := by rw [← hW5]; simp
                clear hW5
                have e25 : W5.cell? ⟨tb, 2, none⟩ = some (.slice (some ⟨g, 0, none⟩) 6 c0) := wcell (cs := [_, _, _, _]) ((hB5.block tb htl.out).trans hbx.out) 2
                have HC := Lib.hid (clone_any (some ⟨g, 0, none⟩) 6 c0 (asI t) W5 (by omega) (hix.out.below hB5))
                replace q5 := Lib.hid q5; replace hB5 := Lib.hid hB5; replace hs5 := Lib.hid hs5
                clear e0 e1 e2 e3
                go_upto_region 12 with fail
                go_wp2_with fail
                refine HC.out.mono ?_
                rintro e W6 ⟨p6, c6, rfl, hO6, hB6⟩
                obtain ⟨hT7, fz⟩ := tray_made (W0 := W3) q5.out (Nat.le_refl _) (by rw [hs5.out]; omega) hO6 hB6
                have e26 : W6.cell? ⟨W3.heap.size, 2, none⟩ = some (.slice (some ⟨g, 0, none⟩) 6 c0) := wcell (cs := [_, _, _, _]) ((hB6.block W3.heap.size (by rw [hs5.out]; omega)).trans q5.out) 2
                have hB7 : Below W3.heap.size W3 (W6.setCell ⟨W3.heap.size, 2, none⟩ (.slice p6 6 c6)) := (hB5.out.trans (hB6.mono (by rw [hs5.out]; omega))).setCell (p := ⟨W3.heap.size, 2, none⟩) (Nat.le_refl _) (.slice p6 6 c6)
                replace hT7 := Lib.hid hT7; replace hB7 := Lib.hid hB7
                clear HC hO6 hB6 e25 q5 hB5
                go_upto_region 13 with fail
                generalize W6.setCell ⟨W3.heap.size, 2, none⟩ (.slice p6 6 c6) = W7 at *
                clear e26 fz
                have hS3 : W2.heap.size ≤ W3.heap.size := hSt.out.size
                replace hS3 := Lib.hid hS3
                rcases hf : frm a b (ixN t 0) j with _ | k
                · have HM := Lib.hid (move_no W3.heap.size W3.heap.size a b 6 c6 (ixN t 0) j p6 t W7 d1 d2 d3 d4 (by rw [d5]; exact (st_ix hto.out (by omega)).1) hlt4 hT7.out hf)
                  rw [stD_none (mvB_none hf)] at hSc
                  clear hT7
                  go_wp2_with fail
                  refine HM.out.mono ?_
                  rintro e W8 ⟨rfl, r, rfl⟩
                  have hB8 : Below W3.heap.size W3 (W7.drewN r) := below_drewN hB7.out r
                  replace hB8 := Lib.hid hB8
                  clear HM hB7
                  go_wp2_with fail
                  have hgk3 := hgk3.out
                  go_roundg (4 - (j + 1))
                  case measure => omega
                  case rel => exact ⟨j + 1, m3, c3, q3, by omega, by omega, by go_num, rfl, hSt.out.low hB8.out hS3.out, hTr.out.below hB8.out, by rw [hSc.out]; exact hKn.out.below hB8.out, by rw [hSc.out]; exact hNx.out.below hB8.out⟩
                · have HM := Lib.hid (move_yes W3.heap.size W3.heap.size a b 6 c6 (ixN t 0) j k p6 t W7 d1 d2 d3 d4 d5.symm hlt4 hT7.out hto.out rfl hf)
                  have hmv := mvB_some hf
                  have hix0 := ix_moved d1 d2 d3 d4 d5 hto.out hlt4 hf
                  obtain ⟨u, hu⟩ : ∃ u, exc t (ixN t 0) k = u := ⟨_, rfl⟩
                  rw [hu] at HM hmv hix0
                  have huo : IsOrd 6 u := (mvB_ord d1 d2 d3 d4 d5 hto.out hlt4 hmv).1
                  replace huo := Lib.hid huo; replace hmv := Lib.hid hmv
                  clear hT7 hu
                  go_wp2_with fail
                  refine HM.out.mono ?_
                  rintro e W8 ⟨rfl, hT8, hB8⟩
                  have hB38 : Below W3.heap.size W3 W8 := hB7.out.trans hB8
                  have q8 := hT8.box
                  have hlt8 := lt_of_heap q8
                  have e28 : W8.cell? ⟨W3.heap.size, 2, none⟩ = some (.slice p6 6 c6) := wcell (cs := [_, _, _, _]) q8 2
                  have HN := Lib.hid (name_any p6 c6 u W8 hT8.own.in)
                  replace hT8 := Lib.hid hT8; replace hB38 := Lib.hid hB38; replace q8 := Lib.hid q8; replace hlt8 := Lib.hid hlt8
                  unfold nmV at HN
                  clear hB8 HM hB7
                  go_wp2_with fail
                  refine HN.out.mono ?_
                  rintro e W9 ⟨rfl, hb9⟩
                  have hB39 : Below W3.heap.size W3 W9 := hB38.out.trans (hb9.mono (by have := hlt8.out; omega))
                  have hT9 : Tray W3.heap.size W9 W3.heap.size a b 6 p6 c6 k u := ⟨(hb9.block _ hlt8.out).trans q8.out, OwnC.below (k := 1) hT8.out.own hb9 (Nat.le_refl _), hT8.out.low, hT8.out.ne⟩
                  have hKn9 := hKn.out.below hB39
                  obtain ⟨x9, hlk, _⟩ := kn_look hKn9 huo.out
                  unfold nmV at hlk
                  have hcl : W9.heap.size ≥ W3.heap.size + 1 := by have := hlt8.out; have := hb9.size; omega
                  replace hB39 := Lib.hid hB39; replace hT9 := Lib.hid hT9; replace hKn9 := Lib.hid hKn9; replace hcl := Lib.hid hcl
                  clear hb9 hB38 hT8 q8 hlt8 HN e28
                  cases hlc : (lkC acc.1 u).isSome
                  · rw [hlc] at hlk
                    rw [stD_new hmv.out hlc] at hSc
                    have e29 : W9.cell? ⟨W3.heap.size, 2, none⟩ = some (.slice p6 6 c6) := wcell (cs := [_, _, _, _]) hT9.out.box 2
                    have HN := Lib.hid (name_any p6 c6 u W9 hT9.out.own.in)
                    unfold nmV at HN
                    go_wp2_with fail
                    refine HN.out.mono ?_
                    rintro e W10 ⟨rfl, hb10⟩
                    have hB310 : Below W3.heap.size W3 W10 := hB39.out.trans (hb10.mono (by have := hcl.out; omega))
                    have hT10 : Tray W3.heap.size W10 W3.heap.size a b 6 p6 c6 k u := ⟨(hb10.block _ (by have := hcl.out; omega)).trans hT9.out.box, OwnC.below (k := 1) hT9.out.own hb10 (Nat.le_refl _), hT9.out.low, hT9.out.ne⟩
                    obtain ⟨W11, hp11, hKn11, hg11⟩ := kn_put (hKn9.out.below hb10) huo.out hnj.out.1 (x := (j : Int)) (by omega)
                    unfold nmV at hp11
                    have hSt11 := (hSt.out.low hB310 hS3.out).put hg11
                    have hTr11 := (hTr.out.below hB310).map (hKn9.out.below hb10) hg11
                    have hNx11 := (hNx.out.below hB310).map (hKn9.out.below hb10) hg11
                    have hTu11 := (tray_read (by rw [← hix0]; exact hT10) hS3.out : TrR W2.heap.size W10 a b W3.heap.size u).map (hKn9.out.below hb10) hg11
                    have hz11 : W2.heap.size ≤ W11.heap.size := hSt11.size
                    obtain ⟨vs, hO11, hl11, hv11⟩ := hNx11
                    have hm3 : m3 < 1099511627776 := by have := hnj.out.2; omega
                    replace hSt11 := Lib.hid hSt11; replace hTr11 := Lib.hid hTr11; replace hTu11 := Lib.hid hTu11; replace hKn11 := Lib.hid hKn11; replace hO11 := Lib.hid hO11; replace hv11 := Lib.hid hv11; replace hl11 := Lib.hid hl11
                    clear hB310 hT10 hb10 hg11 HN hB39 hT9 hKn9
                    go_wp2_with (at_builtin; refine wp_appendVs el77 W11 rfl _ _ rfl W2.heap.size q3 m3 c3 vs rfl hO11.out #[.pointer (some ⟨W3.heap.size, 0, none⟩)] rfl rfl W11.heap.size rfl rfl hm3 hz11 ?_; intro q13 c13 W13 hO13 hg13 _ hz13; replace hO13 := Lib.hid hO13; replace hg13 := Lib.hid hg13; replace hz13 := Lib.hid hz13)
                    have hmbs : mb < W2.heap.size := hkm2.out.lt
                    have hB13 : Below W2.heap.size W11 W13 := (Below.refl _ W11).grown hg13.out hz11 (fun k e => by
                      cases q3 with
                      | none => cases e
                      | some ad => simp at e; subst e; exact (OwnC.block (k := 1) hO11.out ad rfl).1)
                    have r1' := hSt11.out.low hB13 (Nat.le_refl _)
                    have r2' := hTr11.out.app hO11.out hg13.out
                    have r3' := hKn11.out.grown hg13.out (OwnC.apart (k := 1) hO11.out mb hmbs)
                    have r4' := RgM.snocV hO11.out hl11.out hv11.out hTu11.out hO13.out hg13.out
                    have hgk3 := hgk3.out
                    go_roundg (4 - (j + 1))
                    case measure => omega
                    case rel => exact ⟨j + 1, m3 + 1, c13, q13, by omega, by omega, by go_num, rfl, r1', r2', by rw [hSc.out]; exact r3', by rw [hSc.out]; exact r4'⟩
                  · rw [hlc] at hlk
                    rw [stD_old hmv.out hlc] at hSc
                    go_wp2_with fail
                    have hgk3 := hgk3.out
                    go_roundg (4 - (j + 1))
                    case measure => omega
                    case rel => exact ⟨j + 1, m3, c3, q3, by omega, by omega, by go_num, rfl, hSt.out.low hB39.out hS3.out, hTr.out.below hB39.out, by rw [hSc.out]; exact hKn9.out, by rw [hSc.out]; exact hNx.out.below hB39.out⟩
            · obtain rfl : j = 4 := by omega
              have e2 : (List.range 4).foldl (stD a b t) acc0 = stT a b acc0 t := rfl
              rw [e2, ← hTk.out] at hKn hNx
              go_wp2_with fail
              have hgk2 := hgk2.out
              go_roundg (m - (i + 1))
              case measure => omega
              case rel => exact ⟨i + 1, m3, c3, q3, by omega, by omega, by go_num, rfl, hSt, hKn, hNx⟩
        · obtain rfl : i = m := by omega
          have e1 : (stg a b d).2.take i = (stg a b d).2 := List.take_of_length_le (by have := hlen1.out; omega)
          have e2 : ((stg a b d).2.take i).foldl (stT a b) ((stg a b d).1, []) = stg a b (d + 1) := by rw [e1, stg_succ]; rfl
          rw [e2] at hKn hNx
          have dm2 : decide ((i : Int) < (i : Int)) = false := decide_eq_false (by omega)
          have hmm : R0 ≤ mb := by have := hmR.out; omega
          have hbw := hSt.out.below hmm hRs.out
          have hjF : J (d + 1) W1 := hJ.out (d + 1) W2 W1 hj2.out (by rw [hwR.out]; exact hRs.out) (by rw [hwR.out]; exact hbw)
          have htF : TwS x1 x2 w W1 := htw2.out.low hbw (by rw [hwR.out]; exact Nat.le_refl _)
          have hrF : RgM R0 W1 a b q2 m2 c2 (stg a b (d + 1)).2 := hNx.out.mono hRs.out
          replace hjF := Lib.hid hjF; replace htF := Lib.hid htF; replace hrF := Lib.hid hrF
          clear hSt hNx hbw e1 e2
          go_wp2_with fail
          have hgk := hgk.out
          go_roundg (22 - (d + 1))
          case measure => omega
          case rel => exact ⟨d + 1, m2, c2, q2, by omega, by omega, rfl, hrF, hKn, hjF, htF⟩
    · have hfin : Hid ((∃ d, d ≤ 21 ∧ Fin d W2) ∧ TwS x1 x2 w W2) := ⟨⟨d, hd, hf2⟩, htw.out.trans ht2⟩
      clear hf2 ht2 HTd
      go_wp2_with fail
      go_end0
      exact ⟨rfl, hfin.out⟩
end Go.Proofs.Ytkakggagaplaiaa
