import Derived.Test.YtcibkchfdiijfaaHxV
import Derived.Test.YtcibkchfdiijfaaHxQ
import Derived.StillTailTactics
/- hex.groups walks: the groups of a player's places; conditions: a board of 1 to 10 by as many, who is 1 or 2. -/
namespace Go.Proofs.Ytcibkchfdiijfaa
open Go.RowKit Go.Shelf

section
attribute [local go_sem] Oper.semAt_some
set_option maxRecDepth 100000 in
set_option maxHeartbeats 4000000 in
theorem groups_any (n who : Nat) (gp : Option Addr) (gc : Nat) (s : List Nat) (w : World) (hn1 : 1 ≤ n) (hn : n ≤ 10) (hs : s.length = n * n) (hx : IntsIn w gp (n * n) (asI s)) (hs2 : ∀ j, st s j ≤ 2) :
    Calls Try.prog 22 #[.agg #[.int .i64 (n : Int), .int .i64 (n : Int), .slice gp (n * n : Nat) gc], .int .i64 (who : Int)] w fun e w' => ∃ q l c L, e = .returned (.slice q l c) ∧ OwnRows 22 w.heap.size w' q l c (L.map asI) ∧ (∃ f, Whole n (fun a => st s a = who) L f ∧ ∀ a, a < n * n → st s a = who → f a = true) ∧ l ≤ n * n ∧ Below w.heap.size w w' := by
  obtain ⟨N, hN⟩ : ∃ N, N = n * n := ⟨_, rfl⟩
  rw [← hN] at hx hs ⊢
  have hN100 : N ≤ 100 := by rw [hN]; exact Nat.mul_le_mul hn hn
  have hmk : ∀ W : World, (Instr.makeSlice 61 (.int .i64 (N : Int)) (.int .i64 (N : Int))).run Try.prog W = .ok (.slice (some ⟨W.heap.size, 0, none⟩) N N) (W.alloc (.cells (Array.replicate N (.bool false)) 4)) := fun W => run_mkb N (by omega) W
  have hN0 : 0 < N := by rw [hN]; exact Nat.mul_pos hn1 hn1
  obtain ⟨b, o, hgp, hb, hcell⟩ := hx.at hN0
  subst hgp
  have hcs : ∀ j, j < N → w.cell? ⟨b, o + j, none⟩ = some (.int .i64 (st s j : Nat)) := fun j hj => by have := hcell j hj; rwa [asI_at] at this
  clear hcell
  replace hN := Lib.hid hN; replace hx := Lib.hid hx; replace hcs := Lib.hid hcs; replace hs2 := Lib.hid hs2; replace hs := Lib.hid hs
  refine (callsIn_wide (n := 20)).1 ?_
  refine callsIn_of_wp_marks Try.func22 rfl trivial ?_ rfl
  simp only [Try.ntmps22, List.size_toArray, List.length_cons, List.length_nil, Nat.reduceAdd, Nat.reduceSub, Array.replicate_succ, Array.replicate_zero, List.push_toArray, List.append_toArray, List.nil_append, List.cons_append]
  refine wpIn_wide.2 ?_
  go_wp2_with fail
  clear hmk
  refine wp_loop_ghost_k (GO n who N gc (some ⟨b, o, none⟩) s w) N ?start ?round
  case start =>
    exact GO.intro [] 0 none 0 0 [] (fun _ => false) (Gw.new _ w rfl) rfl (Nat.zero_le _) 0 rfl rfl
  case round =>
    intro gk a wr hI J K hJ hK
    obtain ⟨ff, ms, k, q, l, c, L, f, rfl, hgk, hk, hG⟩ := hI
    replace hJ := Lib.hid hJ
    replace hgk := Lib.hid hgk
    by_cases hlt : k < N
    · have hbox := wcell (cs := [_, _, _]) hG.box
      have ck := (hG.bel.cell (p := ⟨b, o + k, none⟩) hb).trans (hcs.out k hlt)
      have cw := wcell (cs := [_]) hG.whb 0
      have csb := wcell (cs := [_]) hG.sb 0
      have csk := hG.seen.cell hlt
      have fsk := hG.seen.free k
      have hst := hs2.out k
      obtain ⟨x, hxk⟩ : ∃ x, x = st s k := ⟨_, rfl⟩
      rw [← hxk] at ck hst
      by_cases hw : x = who
      · have hd1 : ((x : Int) != (who : Int)) = false := by rw [hw]; simp
        by_cases hf : f k = true
        · rw [hf] at csk
          have hG2 : Hid (Gw n who N gc (some ⟨b, o, none⟩) s w wr (k + 1) ms q l c L f) := { hG with done := fun a ha h => (show a < k ∨ a = k by omega).elim (fun h2 => hG.done a h2 h) (fun h2 => by rw [h2]; exact hf), lk := Nat.le_succ_of_le hG.lk }
          replace hG := Lib.hid hG; replace hxk := Lib.hid hxk; replace hw := Lib.hid hw; replace hf := Lib.hid hf
          clear hbox
          go_wp2_with fail
          have hgk := hgk.out
          refine Handed.intro (N - (k + 1)) (by omega) (hJ.out _ _ _ (GO.intro ms (k + 1) q l c L f hG2.out rfl (by omega) _ rfl (by push_cast; rfl)))
        · have hf' : f k = false := by cases h : f k with
            | false => rfl
            | true => exact absurd h hf
          rw [hf'] at csk
          replace hG := Lib.hid hG; replace hxk := Lib.hid hxk; replace hw := Lib.hid hw; replace hf := Lib.hid hf
          have hW0 := Hw.start hG.out (by rw [← hN.out]; exact hlt) (by rw [← hxk.out]; exact hw.out) hf'
          replace hW0 := Lib.hid hW0
          go_wp2_with fail
          have hG4 : w.heap.size + 4 ≤ wr.heap.size := by have := lt_of_heap hG.out.sb; omega
          refine wp_loop_ghost_k (HI n who N gc (some ⟨b, o, none⟩) s w wr f (wr.heap.size + 1) k q l c) N ?start2 ?round2
          case start2 =>
            exact HI.intro ms 0 _ _ _ _ hW0.out (fun j h => absurd h (Nat.not_lt_zero j)) rfl (Nat.zero_le _) 0 rfl rfl
          case round2 =>
            intro gk2 a2 wr2 hI2 J2 K2 hJ2 hK2
            clear hW0 csk fsk ck cw csb
            obtain ⟨ff2, ms2, i, gq, gcap, Gr, f2, rfl, hgk2, hiG, hH, hcl⟩ := hI2
            replace hJ2 := Lib.hid hJ2
            replace hgk2 := Lib.hid hgk2
            replace hcl := Lib.hid hcl
            have hA := hG.out.after hH.gro
            obtain ⟨m1, m2, m3, m4, m5⟩ := hA
            have c0 : wr2.cell? ⟨w.heap.size, 0, none⟩ = some (.int .i64 (n : Int)) := wcell (cs := [_, _, _]) m1 0
            have cg := wcell (cs := [_]) hH.gb 0
            by_cases hlt2 : i < Gr.length
            · obtain ⟨g, hgq, hgH, hgl, hgc⟩ := hH.own.where (by omega)
              subst hgq
              have ce := hH.own.cell hlt2
              rw [asI_at] at ce
              obtain ⟨p, hp⟩ : ∃ p, p = st Gr i := ⟨_, rfl⟩
              rw [← hp] at ce
              have hlen : Gr.length ≤ 100 := by have := hH.sp.len; rw [← hN.out] at this; omega
              replace hH := Lib.hid hH; replace hp := Lib.hid hp; replace m1 := Lib.hid m1; replace m2 := Lib.hid m2; replace m3 := Lib.hid m3; replace m4 := Lib.hid m4; replace m5 := Lib.hid m5
              go_upto_region 12 with fail
              go_still_tail 6, (by kernel_rfl)
              change wpList _ _ _ _ _ wr2.drew
              go_wp2_with (go_at_call 21; refine (near_any n p _).mono ?_; rintro e w' ⟨rfl, rfl⟩)
              obtain ⟨X, hX⟩ : ∃ X, X = wr2.heap.size := ⟨_, rfl⟩
              have hGX : wr.heap.size + 1 < X := by rw [hX]; exact lt_of_heap hH.out.gb
              have hgX : g < X := by rw [hX]; exact hgl
              obtain ⟨V, hV⟩ : ∃ V : World, V = ((wr2.alloc (.cells #[.int .i64 (n : Int)] 3)).alloc (.cells #[.int .i64 (p : Int)] 3)).drew := ⟨_, rfl⟩
              have hVs : V.heap.size = X + 2 := by rw [hV, hX]; simp [World.drew]
              have hVB : Below wr2.heap.size wr2 V := by rw [hV]; exact (below2 _ _ _).drew
              have hVh := heap2 wr2 (.cells #[.int .i64 (n : Int)] 3) (.cells #[.int .i64 (p : Int)] 3)
              have hVa : V.heap[X]? = some (.cells #[.int .i64 (n : Int)] 3 (0, 0)) := by rw [hV, hX]; exact hVh.1
              have hVb : V.heap[X + 1]? = some (.cells #[.int .i64 (p : Int)] 3 (0, 0)) := by rw [hV, hX]; exact hVh.2
              have hVO : KeepsOthers wr2 V := ⟨hVB.size, fun i o h _ => (hVB.block i (lt_of_heap h)).trans h⟩
              have hms : ∀ D ∈ ms2, D < X := fun D hD => by rw [hX]; exact lt_of_heap (hH.out.mrk.2 D hD).2
              have hR0 : Rw n who N gc (some ⟨b, o, none⟩) s w wr f k (wr.heap.size + 1) X i p ms2 [] V := by
                refine ⟨_, _, _, _, hH.out.keep (l := X) (grown_below hVB _) (by omega) hG4 (by omega) (fun a ha => by injection ha with ha; subst ha; simp; omega) (hH.out.mrk.keep hVO), hlt2, hp.out.symm, hcl.out, by simp, fun a ha => by injection ha with ha; subst ha; exact .inl hgX, hVa, by omega⟩
              rw [← hV, ← hX]
              have hpn : p < n * n := by
                have := hH.out.sp.ok p (by rw [hp.out]; unfold st; rw [List.getElem?_eq_getElem hlt2]; exact List.getElem_mem hlt2)
                exact this.1
              replace hV := Lib.hid hV; replace hX := Lib.hid hX; replace hVh := Lib.hid hVh; replace hVO := Lib.hid hVO; replace hms := Lib.hid hms; replace hR0 := Lib.hid hR0
              refine (wpIn_wide (n := 9)).1 ?_
              refine wpIn_near X (X + 1) n p hn1 hn hpn rfl rfl (wcell (cs := [_]) hVb 0) (by omega) (fun pre W => Rw n who N gc (some ⟨b, o, none⟩) s w wr f k (wr.heap.size + 1) X i p ms2 pre W) ?hIn ?hI hR0.out ?hround ?hdone
              case hIn =>
                rintro pre A ⟨_, _, _, _, _, _, _, _, _, _, h7, _⟩
                exact wcell (cs := [_]) h7 0
              case hI =>
                intro pre A B hA hg
                rw [hVs] at hg
                exact Rw.keep hA hg hG4 (by omega) hGX hms.out
              case hround =>
                intro m pre x1 W hxn hxm hRw hsz
                gi_wp2
                refine ⟨trivial, fun W2 hR2 hsz2 => ?_⟩
                obtain ⟨gq2, gcap2, Gr2, f3, h1, h2, h3, h4, h5, h6, h7, h8⟩ := hR2
                obtain ⟨z1, z2, z3, z4, z5⟩ := hG.out.after h1.gro
                have d0 := wcell (cs := [_, _, _]) z1 2
                have dw := wcell (cs := [_]) z2 0
                have ds := wcell (cs := [_]) z3 0
                have dg := wcell (cs := [_]) h1.gb 0
                have dgf := wfree h1.gb 0
                have hx1 : x1 < N := by rw [hN.out]; exact hxn
                have dx := h1.seen.cell hx1
                have dxf := h1.seen.free x1
                have dy := (z5.cell (p := ⟨b, o + x1, none⟩) hb).trans (hcs.out x1 hx1)
                obtain ⟨y, hy⟩ : ∃ y, y = st s x1 := ⟨_, rfl⟩
                have hy2 := hs2.out x1
                rw [← hy] at dy hy2
                simp only [List.getElem?_cons_zero, List.getElem?_cons_succ] at d0 dw ds dg
                replace h1 := Lib.hid h1; replace h3 := Lib.hid h3; replace h4 := Lib.hid h4; replace h5 := Lib.hid h5; replace h6 := Lib.hid h6; replace h7 := Lib.hid h7; replace hy := Lib.hid hy; replace hRw := Lib.hid hRw; replace hxm := Lib.hid hxm
                clear z1 z2 z3 z4 z5
                by_cases hyw : y = who
                · have e1 : ((y : Int) == (who : Int)) = true := by rw [hyw]; simp
                  replace hyw := Lib.hid hyw
                  by_cases hf3 : f3 x1 = true
                  · rw [hf3] at dx
                    gi_wp2
                    (refine wpIn_quiet_r (by kernel_rfl) (by kernel_rfl) rfl ?_; gi_big_quiet_want; gi_big_quiet_op; go_big_quiet_on; gi_big_quiet_want; gi_big_quiet_op; go_big_quiet_on; gi_big_quiet_want; gi_big_quiet_op; go_big_quiet_on; gi_big_quiet_want; gi_big_quiet_op; go_big_quiet_on; gi_big_quiet_want; gi_big_quiet_op; go_big_quiet_on; gi_big_quiet_want; gi_big_quiet_op; go_big_quiet_on; gi_big_quiet_want; gi_big_quiet_op; go_big_quiet_on; gi_big_quiet_want; gi_big_quiet_op; go_big_quiet_on; gi_big_quiet_want; gi_big_quiet_op; go_big_quiet_on; gi_big_quiet_want; gi_big_quiet_op; go_big_quiet_on; gi_big_quiet_want; gi_big_quiet_op; go_big_quiet_on; gi_big_quiet_want; gi_big_quiet_op; go_big_quiet_on; gi_big_quiet_want; gi_big_quiet_op; go_big_quiet_on; gi_big_quiet_want; gi_big_quiet_op; go_big_quiet_on; refine wpQuietIn_nil ?_; intro _ hw2; obtain ⟨nq, hw3⟩ := hw2; subst hw3)
                    gi_wp2
                    exact ⟨⟨Nat.le_refl _, fun _ _ h _ => h⟩, Rw.skip h1.out h2 h3.out h4.out h5.out h6.out h7.out h8 (fun _ => hf3) rfl rfl rfl rfl⟩
                  · have hf4 : f3 x1 = false := by cases h : f3 x1 with
                      | false => rfl
                      | true => exact absurd h hf3
                    rw [hf4] at dx
                    replace hf3 := Lib.hid hf3; replace hf4 := Lib.hid hf4
                    gi_wp2
                    (refine wpIn_quiet_r (by kernel_rfl) (by kernel_rfl) rfl ?_; gi_big_quiet_want; gi_big_quiet_op; go_big_quiet_on; gi_big_quiet_want; gi_big_quiet_op; go_big_quiet_on; gi_big_quiet_want; gi_big_quiet_op; go_big_quiet_on; gi_big_quiet_want; gi_big_quiet_op; go_big_quiet_on; gi_big_quiet_want; gi_big_quiet_op; go_big_quiet_on; gi_big_quiet_want; gi_big_quiet_op; go_big_quiet_on; gi_big_quiet_want; gi_big_quiet_op; go_big_quiet_on; gi_big_quiet_want; gi_big_quiet_op; go_big_quiet_on; gi_big_quiet_want; gi_big_quiet_op; go_big_quiet_on; gi_big_quiet_want; gi_big_quiet_op; go_big_quiet_on; gi_big_quiet_want; gi_big_quiet_op; go_big_quiet_on; gi_big_quiet_want; gi_big_quiet_op; go_big_quiet_on; gi_big_quiet_want; gi_big_quiet_op; go_big_quiet_on; gi_big_quiet_want; gi_big_quiet_op; go_big_quiet_on; refine wpQuietIn_nil ?_; intro _ hw2; obtain ⟨nq, hw3⟩ := hw2; subst hw3)
                    have hsz3 : (W2.drewN nq).heap.size = W2.heap.size := rfl
                    obtain ⟨W3, hW3⟩ : ∃ W3, W3 = W2.drewN nq := ⟨_, rfl⟩
                    have h13 : Hw n who N gc (some ⟨b, o, none⟩) s w wr W3 f k (wr.heap.size + 1) ms2 gq2 gcap2 Gr2 f3 := by rw [hW3]; exact ⟨⟨h1.out.gro.os, h1.out.gro.tape, h1.out.gro.output, h1.out.gro.size, h1.out.gro.block⟩, h1.out.seen, h1.out.gb, h1.out.own.keep fun _ _ => rfl, h1.out.gH, h1.out.sp, h1.out.fst, h1.out.mrk⟩
                    have h73 : W3.heap[X]? = some (.cells #[.int .i64 (n : Int)] 3 (0, 0)) := by rw [hW3]; exact h7.out
                    have h83 : X + 2 ≤ W3.heap.size := by rw [hW3]; exact h8
                    have hO3 : KeepsOthers W2 W3 := by rw [hW3]; exact ⟨Nat.le_refl _, fun _ _ h _ => h⟩
                    rw [← hW3]
                    replace hW3 := Lib.hid hW3
                    obtain ⟨z1, z2, z3, z4, z5⟩ := hG.out.after h13.gro
                    have ds3 := wcell (cs := [_]) z3 0
                    have dx3 := h13.seen.cell hx1
                    have dxf3 := h13.seen.free x1
                    have dg3 : (W3.setCell ⟨w.heap.size + 1 + 1, x1, none⟩ (.bool true)).cell? ⟨wr.heap.size + 1, 0, none⟩ = some (.slice gq2 Gr2.length gcap2) := (World.cell?_of_block (Below.heap_setCell W3 ⟨w.heap.size + 1 + 1, x1, none⟩ _ (wr.heap.size + 1) (by simp; omega))).trans (wcell (cs := [_]) h13.gb 0)
                    simp only [List.getElem?_cons_zero] at ds3
                    have hown : Own 3 wr.heap.size (W3.setCell ⟨w.heap.size + 1 + 1, x1, none⟩ (.bool true)) gq2 Gr2.length gcap2 (asI Gr2) := h13.own.keep fun a ha => Below.heap_setCell W3 ⟨w.heap.size + 1 + 1, x1, none⟩ _ a.block (by have := (h13.own.block a ha).1; simp; omega)
                    have hgq : ∀ a, gq2 = some a → a.block ≠ X := fun a ha => by have := h6.out a ha; omega
                    have hl2 : Gr2.length ≤ 100 := by have := h13.sp.len; rw [← hN.out] at this; omega
                    have hbig : X + 4 ≤ W3.heap.size := by rw [hW3.out]; rw [hVs] at hsz2; exact hsz2
                    have hWsz : (W3.setCell ⟨w.heap.size + 1 + 1, x1, none⟩ (.bool true)).heap.size = W3.heap.size := by simp [World.setCell]
                    have hwrX : wr.heap.size ≤ X := by omega
                    have hbnd : Hid (wr.heap.size ≤ W3.heap.size) := by show _ ≤ _; omega
                    replace hown := Lib.hid hown; replace h13 := Lib.hid h13; replace h73 := Lib.hid h73; replace hO3 := Lib.hid hO3; replace hgq := Lib.hid hgq
                    clear z1 z2 z3 z4 z5 d0 dw ds dg dgf dx dxf dy
                    gi_wp2_with (gi_at_builtin; refine wpIn_append1 intG (W3.setCell ⟨w.heap.size + 1 + 1, x1, none⟩ (.bool true)) rfl _ _ rfl wr.heap.size gq2 Gr2.length gcap2 (asI Gr2) rfl hown.out (x1 : Int) _ (by rw [hWsz]) rfl (by omega) (by rw [hWsz]; exact hbnd.out) ?_; intro p2 c2 w2 hO2 hg2 hor2 hz2; obtain ⟨ra, rb, rc⟩ := Rw.appended h13.out h2 h3.out h4.out h5.out ((mem_near hpn).1 hxm.out) (hy.out.symm.trans hyw.out) hf4.out h6.out h73.out hbig hG4 hwrX hGX hgq.out hO2 hg2 hor2; have dg4 := wcell (cs := [_]) ra 0; have dgf4 := wfree ra 0; replace ra := Lib.hid ra; replace rb := Lib.hid rb; replace rc := Lib.hid rc; replace hO2 := Lib.hid hO2; replace hg2 := Lib.hid hg2; replace hor2 := Lib.hid hor2)
                    exact ⟨hO3.out.trans rb.out, rc.out⟩
                · have e1 : ((y : Int) == (who : Int)) = false := by simp; omega
                  replace hyw := Lib.hid hyw
                  gi_wp2
                  (refine wpIn_quiet_r (by kernel_rfl) (by kernel_rfl) rfl ?_; gi_big_quiet_want; gi_big_quiet_op; go_big_quiet_on; gi_big_quiet_want; gi_big_quiet_op; go_big_quiet_on; gi_big_quiet_want; gi_big_quiet_op; go_big_quiet_on; gi_big_quiet_want; gi_big_quiet_op; go_big_quiet_on; gi_big_quiet_want; gi_big_quiet_op; go_big_quiet_on; gi_big_quiet_want; gi_big_quiet_op; go_big_quiet_on; gi_big_quiet_want; gi_big_quiet_op; go_big_quiet_on; gi_big_quiet_want; gi_big_quiet_op; go_big_quiet_on; gi_big_quiet_skip; gi_big_quiet_skip; gi_big_quiet_skip; gi_big_quiet_skip; gi_big_quiet_skip; gi_big_quiet_want; gi_big_quiet_op; go_big_quiet_on; refine wpQuietIn_nil ?_; intro _ hw2; obtain ⟨nq, hw3⟩ := hw2; subst hw3)
                  gi_wp2
                  exact ⟨⟨Nat.le_refl _, fun _ _ h _ => h⟩, Rw.skip h1.out h2 h3.out h4.out h5.out h6.out h7.out h8 (fun h => absurd (hy.out.trans h) hyw.out) rfl rfl rfl rfl⟩
              case hdone =>
                intro W hRw hD hKO
                obtain ⟨gq2, gcap2, Gr2, f3, h1, h2, h3, h4, h5, h6, h7, h8⟩ := hRw
                have hM : Mk w.heap.size (V.heap.size :: ms2) W := (hH.out.mrk.keep hVO.out).cons hKO (by omega) hD
                have hHn : Hid (Hw n who N gc (some ⟨b, o, none⟩) s w wr W f k (wr.heap.size + 1) (V.heap.size :: ms2) gq2 gcap2 Gr2 f3) := { h1 with mrk := hM }
                have hcn : Hid (∀ j, j < i + 1 → ∀ c, Nx n (st Gr2 j) c → st s c = who → f3 c = true) := fun j hj c hc hs => by
                  rcases (show j < i ∨ j = i by omega) with hj | rfl
                  · exact h4 j hj c hc hs
                  · rw [h3] at hc; exact h5 c ((mem_near hpn).2 hc) hs
                have hl2 : Gr2.length ≤ N := by have := h1.sp.len; rw [← hN.out] at this; exact this
                obtain ⟨D, hDD⟩ : ∃ D, D = V.heap.size := ⟨_, rfl⟩
                rw [← hDD] at hHn ⊢
                show Exit.inBlock 4 _ Exit.normal { tmps := _, defers := mks (D :: ms2) } W
                clear h1 h3 h4 h5 h6 h7 hD hKO hM
                dsimp only
                go_wp2_with fail
                have hiN : i < N := by have := hH.out.sp.len; rw [← hN.out] at this; omega
                have hgk2 := hgk2.out
                exact Handed.intro (N - (i + 1)) (by omega) (hJ2.out _ _ _ (HI.intro (D :: ms2) (i + 1) gq2 gcap2 Gr2 f3 hHn.out hcn.out rfl (by omega) _ rfl (by push_cast; rfl)))
            · obtain rfl : i = Gr.length := by omega
              have hclA : Hid (∀ a ∈ Gr, ∀ c, Nx n a c → st s c = who → f2 c = true) := fun a ha c hc hs => by
                obtain ⟨j, hj, rfl⟩ := List.mem_iff_getElem.1 ha
                exact hcl.out j hj c (by unfold st; rw [List.getElem?_eq_getElem hj]; exact hc) hs
              have hlen : Gr.length ≤ 100 := by have := hH.sp.len; rw [← hN.out] at this; omega
              have hSort := Lib.hid (fun (_ : Unit) => sort_any gq Gr.length gcap wr.heap.size Gr wr2 (by omega) hH.own)
              replace hH := Lib.hid hH; replace m1 := Lib.hid m1; replace m2 := Lib.hid m2; replace m3 := Lib.hid m3; replace m4 := Lib.hid m4; replace m5 := Lib.hid m5
              have hT : ElT Try.prog 46 22 (.slice none 0 0) 1 24 := ⟨Try.underlying46, by kernel_rfl, rfl, by decide, by decide⟩
              have hlk : l ≤ k := hG.out.lk
              go_wp2_with (first | (go_at_call 26; refine (hSort.out ()).mono ?_; rintro e Y ⟨rfl, H, hHp, _, hHi, hHg⟩; obtain ⟨y1, y2, y3, y4⟩ := hH.out.sorted hHg hG4; have yA := (hG.out.after y1).2.2.2.1; have cgY := wcell (cs := [_]) y4 0; have yne : Hid (∀ a, gq = some a → q.map (·.block) ≠ some a.block ∧ w.heap.size + 4 ≤ a.block ∧ a.block < Y.heap.size) := (fun a ha => ⟨fun e => (by cases q with | none => cases e | some qa => (simp at e; obtain ⟨vs, hOq, _, _⟩ := hG.out.rows; have h1 := (hOq.block qa rfl).2; have h2 := (hH.out.own.block a ha).1; omega)), Nat.le_trans hG4 (hH.out.own.block a ha).1, Nat.lt_of_lt_of_le (hH.out.own.block a ha).2 hHg.size⟩); have yS : Hid (w.heap.size + 4 ≤ Y.heap.size) := Nat.le_trans hG4 y1.size; replace y1 := Lib.hid y1; replace y2 := Lib.hid y2; replace y3 := Lib.hid y3; replace y4 := Lib.hid y4; replace yA := Lib.hid yA; replace hHp := Lib.hid hHp; replace hHi := Lib.hid hHi; replace hHg := Lib.hid hHg) | (refine wp_appendRows hT Y rfl _ _ rfl (w.heap.size + 4) q l c (L.map asI) rfl yA.out gq Gr.length gcap (asI H) hHi.out yne.out _ rfl rfl (by omega) yS.out ?_; intro q' c' Z hZ1 hZ2 hZ3; replace hZ1 := Lib.hid hZ1; replace hZ2 := Lib.hid hZ2))
              have hgk := hgk.out
              exact Handed.intro (N - (k + 1)) (by omega) (hJ.out _ _ _ (GO.intro ms2 (k + 1) q' (l + 1) c' (L ++ [H]) f2 (Gw.next hG.out y1.out y2.out y3.out hH.out.sp hclA.out hHp.out hH.out.fst hZ1.out hZ2.out) rfl (by omega) _ rfl (by push_cast; rfl)))
      · have hd1 : ((x : Int) != (who : Int)) = true := by simp; omega
        have hG2 : Hid (Gw n who N gc (some ⟨b, o, none⟩) s w wr (k + 1) ms q l c L f) := { hG with done := fun a ha h => (show a < k ∨ a = k by omega).elim (fun h2 => hG.done a h2 h) (fun h2 => by subst h2; exact absurd (hxk.trans h) hw), lk := Nat.le_succ_of_le hG.lk }
        replace hG := Lib.hid hG; replace hxk := Lib.hid hxk; replace hw := Lib.hid hw
        clear hbox
        go_wp2_with fail
        have hgk := hgk.out
        refine Handed.intro (N - (k + 1)) (by omega) (hJ.out _ _ _ (GO.intro ms (k + 1) q l c L f hG2.out rfl (by omega) _ rfl (by push_cast; rfl)))
    · obtain rfl : k = N := by omega
      replace hG := Lib.hid hG
      go_wp2_with fail
      exact leaves_marks ms wr hG.out.mrk fun W' hW' => ⟨_, results_tmp rfl _ _ _, q, l, c, L, rfl, (hW'.rows hG.out.rows).mono (by omega), ⟨f, hG.out.whole, fun a ha h => hG.out.done a ha h⟩, hG.out.lk, hW'.bel hG.out.bel⟩
end
end Go.Proofs.Ytcibkchfdiijfaa
