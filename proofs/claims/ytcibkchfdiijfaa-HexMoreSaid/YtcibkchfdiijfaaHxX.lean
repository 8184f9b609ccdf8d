import Derived.Test.YtcibkchfdiijfaaHxF
import Derived.Deep.RegionLaw
import Derived.StillTailTactics
import Derived.Laws.EntriesVeiled
/- hex.Shortest walks: how few signs join; conditions: a board of 1 to 10 by as many, of signs 0 to 2; who is 1 or 2. -/
namespace Go.Proofs.Ytcibkchfdiijfaa
open Go.RowKit Go.Shelf

theorem Shortest_no (q : Option Addr) (n c who : Nat) (W H : Int) (xs : List Int) (w : World) (hn : n ≤ 9223372036854775807) (hW1 : -9223372036854775808 ≤ W) (hW2 : W ≤ 9223372036854775807) (hH1 : -9223372036854775808 ≤ H) (hH2 : H ≤ 9223372036854775807) (hx : IntsIn w q n xs) (hwho : who = 1 ∨ who = 2) (hno : okH W H xs = false) :
    Calls Try.prog 11 #[.agg #[.int .i64 W, .int .i64 H, .slice q n c], .int .i64 (who : Int)] w fun e w' => e = .returned (.tuple #[.int .i64 0, .int .i64 12]) ∧ Below w.heap.size w w' := by
  have hB0 := below2 w (.cells #[.int .i64 W, .int .i64 H, .slice q n c] 24) (.cells #[.int .i64 (who : Int)] 3)
  have HM := Lib.hid (player_any q n c who W H xs ((w.alloc (.cells #[.int .i64 W, .int .i64 H, .slice q n c] 24)).alloc (.cells #[.int .i64 (who : Int)] 3)) hn hW1 hW2 hH1 hH2 (hx.below hB0) hwho)
  obtain ⟨w1, hw1⟩ : ∃ w1 : World, w1 = (w.alloc (.cells #[.int .i64 W, .int .i64 H, .slice q n c] 24)).alloc (.cells #[.int .i64 (who : Int)] 3) := ⟨_, rfl⟩
  rw [← hw1] at HM hB0
  rw [hno, if_neg (by simp)] at HM
  have hs1 : w.heap.size ≤ w1.heap.size := hB0.size
  replace hB0 := Lib.hid hB0
  go_enter Try.func11, Try.ntmps11
  go_wp2_with (go_at_call 12; rw [← hw1]; (with_reducible refine HM.out.mono ?_); rintro e w2 ⟨rfl, hB⟩; replace hB := Lib.hid hB)
  go_ret2
  exact ⟨rfl, hB0.out.trans (hB.out.mono hs1)⟩

section
attribute [local go_sem] Oper.semAt_some
set_option maxRecDepth 100000 in
set_option maxHeartbeats 4000000 in
theorem Shortest_yes (n N who gc : Nat) (gp : Option Addr) (s : List Nat) (w : World) (hN : N = n * n) (hn1 : 1 ≤ n) (hn : n ≤ 10) (hs : s.length = N) (hx : IntsIn w gp N (asI s)) (hs2 : ∀ j, st s j ≤ 2) (hwho : who = 1 ∨ who = 2) :
    Calls Try.prog 11 #[.agg #[.int .i64 (n : Int), .int .i64 (n : Int), .slice gp N gc], .int .i64 (who : Int)] w fun e w' => ∃ r : Int, e = .returned (.tuple #[.int .i64 r, .int .i64 0]) ∧ ShortI n who s r ∧ r ≤ 200 ∧ Below w.heap.size w w' := by
  have hN100 : N ≤ 100 := by rw [hN]; exact Nat.mul_le_mul hn hn
  have hN0 : 0 < N := by rw [hN]; exact Nat.mul_pos hn1 hn1
  have hBA := below2 w (.cells #[.int .i64 (n : Int), .int .i64 (n : Int), .slice gp N gc] 24) (.cells #[.int .i64 (who : Int)] 3)
  have hA := heap2 w (.cells #[.int .i64 (n : Int), .int .i64 (n : Int), .slice gp N gc] 24) (.cells #[.int .i64 (who : Int)] 3)
  have HM := Lib.hid (player_any gp N gc who (n : Int) (n : Int) (asI s) ((w.alloc (.cells #[.int .i64 (n : Int), .int .i64 (n : Int), .slice gp N gc] 24)).alloc (.cells #[.int .i64 (who : Int)] 3)) (by omega) (by omega) (by omega) (by omega) (by omega) (hx.below hBA) hwho)
  obtain ⟨w1, hw1⟩ : ∃ w1 : World, w1 = (w.alloc (.cells #[.int .i64 (n : Int), .int .i64 (n : Int), .slice gp N gc] 24)).alloc (.cells #[.int .i64 (who : Int)] 3) := ⟨_, rfl⟩
  rw [← hw1] at HM hBA hA
  rw [okH_of hn1 hn (by rw [hs, hN]) hs2, if_pos rfl] at HM
  obtain ⟨hA1, hA2⟩ := hA
  replace hBA := Lib.hid hBA; replace hN := Lib.hid hN; replace hs := Lib.hid hs; replace hx := Lib.hid hx; replace hs2 := Lib.hid hs2
  refine (callsIn_wide (n := 20)).1 ?_
  refine callsIn_of_wp_marks Try.func11 rfl trivial ?_ rfl
  simp only [Try.ntmps11, List.size_toArray, List.length_cons, List.length_nil, Nat.reduceAdd, Nat.reduceSub, Array.replicate_succ, Array.replicate_zero, List.push_toArray, List.append_toArray, List.nil_append, List.cons_append]
  refine wpIn_wide.2 ?_
  go_upto_region 8 with (first
    | (go_at_call 12; rw [← hw1]; (with_reducible refine HM.out.mono ?_); rintro e w2 ⟨rfl, hB2⟩; have b1 := (hB2.block _ (lt_of_heap hA1)).trans hA1; have b2 := (hB2.block _ (lt_of_heap hA2)).trans hA2; have d0 := wcell (cs := [_, _, _]) b1 0; have d1 := wcell (cs := [_, _, _]) b1 1; have d2 := wcell (cs := [_, _, _]) b1 2; have dw := wcell (cs := [_]) b2 0; simp only [List.getElem?_cons_zero, List.getElem?_cons_succ] at d0 d1 d2 dw; have dA2 := (World.cell?_of_block (a := ⟨w.heap.size, 2, none⟩) (Below.heap_alloc w2 (.cells #[.int .i64 (-1)] 3) w.heap.size (lt_of_heap b1))).trans d2; have HR := Lib.hid (repeat1_any w2.heap.size 1 (-1) N (w2.alloc (.cells #[.int .i64 (-1)] 3)) hN0 (by omega) (wcell (cs := [_]) (heap_alloc_new w2 (.cells #[.int .i64 (-1)] 3)) 0)); replace b1 := Lib.hid b1; replace b2 := Lib.hid b2; replace hB2 := Lib.hid hB2)
    | (go_at_call 17; (with_reducible refine HR.out.mono ?_); rintro e w3 ⟨rfl, hF, hB3⟩; replace hF := Lib.hid hF; replace hB3 := Lib.hid hB3))
  obtain ⟨W4, hW4⟩ : ∃ W4 : World, W4 = ((((w3.alloc (.cells #[.slice (some ⟨w2.heap.size + 1, 0, none⟩) N N] 22)).alloc (.cells #[.func (.func 18) #[] #[.pointer (some ⟨w.heap.size, 0, none⟩)]] 45)).alloc (.cells #[.slice none 0 0] 46)).alloc
      (.cells #[.func (.func 19) #[] #[.pointer (some ⟨w.heap.size, 0, none⟩), .pointer (some ⟨w.heap.size + 1, 0, none⟩), .pointer (some ⟨w3.heap.size, 0, none⟩), .pointer (some ⟨w3.heap.size + 1 + 1, 0, none⟩)]] 47)) := ⟨_, rfl⟩
  rw [← hW4]
  have hBw2 : Below w.heap.size w w2 := hBA.out.trans (hB2.out.mono hBA.out.size)
  have hPx : Px n who N gc gp s w (w2.heap.size + 1) w3.heap.size (fun k => k < w3.heap.size + 4) W4 (fun _ => -1) [] := Px.start w2 w3 W4 b1.out b2.out hx.out hN0 hBw2 (by have := hB3.out; rw [World.size_alloc] at this; exact this) (by have := hF.out; rw [World.size_alloc] at this; exact this) hW4
  have hgl : ∀ a, gp = some a → a.block < w3.heap.size + 4 := fun a ha => by
    obtain ⟨b, o, hgp, hbl, _⟩ := hx.out.at hN0
    rw [hgp] at ha; cases ha
    have h1 := hBw2.size; have h2 := hPx.fY
    show b < _; omega
  have hY4 : W4.heap.size = w3.heap.size + 4 := by rw [hW4]; simp
  obtain ⟨F, hFF⟩ : ∃ F, F = w2.heap.size + 1 := ⟨_, rfl⟩
  obtain ⟨Y, hYY⟩ : ∃ Y, Y = w3.heap.size := ⟨_, rfl⟩
  rw [← hFF, ← hYY] at hPx
  rw [← hYY] at hgl hY4 ⊢
  rw [← hFF]
  have d2 := wcell (cs := [_, _, _]) hPx.ps.gb 2
  simp only [List.getElem?_cons_zero, List.getElem?_cons_succ] at d2
  replace hW4 := Lib.hid hW4; replace hFF := Lib.hid hFF; replace hYY := Lib.hid hYY; replace hPx := Lib.hid hPx; replace hBw2 := Lib.hid hBw2; replace hgl := Lib.hid hgl
  clear d0 d1 dw dA2 HR HM
  go_wp2_with fail
  have HA := Lib.hid (fun (p : Nat) (hp : p < N) W => along_any n who p W hn1 hn (by rw [← hN.out]; exact hp))
  go_loopg [32] N (fun g iv W => ∃ (k : Nat) (far : Nat → Int) (R : List (List Nat)), k ≤ N ∧ g = N - k ∧ iv = .int .i64 (k : Int) ∧ Hid (Px n who N gc gp s w F Y (fun k => k < Y + 4) W far R) ∧ Hid (Sv n who s 0 far R) ∧ Hid (∀ p, p < k → alongS n who p = 0 → st s p ≠ 3 - who → 0 ≤ far p ∧ far p ≤ costS s p) ∧ Hid (Y + 4 ≤ W.heap.size))
  case atStart => exact ⟨0, _, _, Nat.zero_le _, rfl, rfl, hPx, Sv.start n who s, fun p h => absurd h (Nat.not_lt_zero p), by show _ ≤ _; omega⟩
  case round =>
    clear d2 hY4
    obtain ⟨k, far, R, hk, hgk, rfl, hP, hS, hst0, hsz⟩ := hrel
    obtain ⟨W, rfl⟩ : ∃ W : World, W = wr := ⟨_, rfl⟩
    replace hgk := Lib.hid hgk
    by_cases hlt : k < N
    · have d0 := wcell (cs := [_, _, _]) hP.out.ps.gb 0
      have dw := wcell (cs := [_]) hP.out.ps.wb 0
      have dp := wcell (cs := [_]) hP.out.pb 0
      have dc := wcell (cs := [_]) hP.out.cb 0
      simp only [List.getElem?_cons_zero] at d0 dw dp dc
      have HAk := Lib.hid (HA.out k hlt)
      obtain ⟨al, hal⟩ : ∃ al, al = alongS n who k := ⟨_, rfl⟩
      rw [← hal] at HAk
      by_cases hal0 : al = 0
      · have e0 : ((al : Int) == 0) = true := by simp; omega
        replace hal := Lib.hid hal; replace hal0 := Lib.hid hal0
        have HC := Lib.hid (cost_any n who N gc N w.heap.size (w.heap.size + 1) Y F (Y + 1 + 1) k gp s (fun k => k < Y + 4) far R W.drew (hP.out.ps.same rfl) hlt hN100 hs2.out)
        obtain ⟨m, hm⟩ : ∃ m, m = costS s k := ⟨_, rfl⟩
        have hm1 : m ≤ 1 := by rw [hm]; exact cost_le s k
        have HP := Lib.hid (put_any n who N gc N w.heap.size (w.heap.size + 1) Y F (Y + 1 + 1) k m gp s (fun k => k < Y + 4) far R W.drew (hP.out.ps.same rfl) hlt hN100 hwho (by omega) (by have := hS.out.rl; omega) (fun i => by have := hS.out.len i; rw [← hN.out] at this; omega) (fun k hk => Nat.lt_of_lt_of_le hk hsz.out))
        rw [← hm] at HC
        replace hm := Lib.hid hm
        go_upto_region 12 with (go_at_call 20; (with_reducible refine (HAk.out _).mono ?_); rintro e w' ⟨rfl, rfl⟩)
        go_still_tail 5, (by kernel_rfl)
        still_call ((HC.out).mono fun _ _ h => ⟨h.1, h.2.symm⟩)
        repeat still_step
        refine wpStill_nil ?_
        change wpList _ _ _ _ _ W.drew
        go_wp2_with (go_at_call 19; (with_reducible refine HP.out.mono ?_); rintro e W5 ⟨rfl, hpk, hp1, hp2⟩; replace hpk := Lib.hid hpk; replace hp1 := Lib.hid hp1; replace hp2 := Lib.hid hp2)
        have hgk := hgk.out
        have hPd : Px n who N gc gp s w F Y (fun k => k < Y + 4) W.drew far R := hP.out.same rfl rfl rfl rfl
        have hfin : Hid (∃ far' R', Px n who N gc gp s w F Y (fun k => k < Y + 4) W5 far' R' ∧ Sv n who s 0 far' R' ∧ (∀ p, p < k + 1 → alongS n who p = 0 → st s p ≠ 3 - who → 0 ≤ far' p ∧ far' p ≤ costS s p)) := by
          by_cases hc : st s k = 3 - who ∨ (0 ≤ far k ∧ far k ≤ (m : Int))
          · refine ⟨far, R, hPd.put (hp1.out hc) hpk.out, hS.out, fun p hp h1 h2 => ?_⟩
            rcases (show p < k ∨ p = k by omega) with h | rfl
            · exact hst0.out p h h1 h2
            · rw [← hm.out]; exact hc.resolve_left h2
          · have hR : Rc n who s k m := by
              rw [hm.out]; exact Rc.start (by rw [← hN.out]; exact hlt) (by rw [← hal.out]; exact hal0.out) (fun h => hc (.inl h))
            refine ⟨_, _, hPd.put (hp2.out hc) hpk.out, hS.out.put hR (by omega) (fun h => hc (.inr h)), fun p hp h1 h2 => ?_⟩
            unfold fupd
            split
            · rename_i e; subst e; rw [← hm.out]; exact ⟨by omega, Int.le_refl _⟩
            · rename_i e; exact hst0.out p (by omega) h1 h2
        obtain ⟨far', R', f1, f2, f3⟩ := hfin.out
        go_roundg (N - (k + 1))
        case measure => omega
        case rel => exact ⟨k + 1, far', R', by omega, rfl, by go_num, f1, f2, f3, Nat.le_trans hsz.out hpk.out.size⟩
      · have e0 : ((al : Int) == 0) = false := by simp; omega
        replace hal := Lib.hid hal; replace hal0 := Lib.hid hal0
        go_wp2_with (go_at_call 20; (with_reducible refine (HAk.out _).mono ?_); rintro e w' ⟨rfl, rfl⟩)
        have hgk := hgk.out
        go_roundg (N - (k + 1))
        case measure => omega
        case rel => exact ⟨k + 1, far, R, by omega, rfl, by go_num, hP, hS, fun p hp h1 h2 => (show p < k ∨ p = k by omega).elim (fun h => hst0.out p h h1 h2) (fun h => by subst h; exact absurd (hal.out.trans h1) hal0.out), hsz⟩
    · obtain rfl : k = N := by omega
      clear hk hlt
      have hSr : Hid (Sr n who s 0 0 far R) := ⟨hS.out, fun p h1 h2 h3 => hst0.out p (by rw [hN.out]; exact h1) h2 h3, fun p hp => by
        obtain ⟨q1, q2⟩ := hp
        rcases q2 with q2 | q2
        · omega
        · simp at q2⟩
      have hBN : Below W.heap.size W (W.alloc (.cells #[.int .i64 0] 3)) := (Below.refl _ W).alloc (Nat.le_refl _) _
      have hL0 : Hid (Lw n who k gc gp s w F Y (W.alloc (.cells #[.int .i64 0] 3)) 0 W.heap.size [] far R) :=
        ⟨(hP.out.zs (Z' := Zn Y W.heap.size) (fun j hj hz => hz.elim id fun e => by omega) (fun j hj => .inl hj) hgl.out).below hBN, heap_alloc_new W _, hsz.out, Mk.nil _ _⟩
      clear hBN
      go_upto_region 15 with fail
      refine wp_loop_ghost_k (GL n who k gc gp s w F Y) (k + 3) ?start ?round
      case start =>
        exact GL.intro [] 0 W.heap.size far R hL0.out (fun _ => hSr.out) (fun h p c hc => hSr.out.none (by have : R = [] := List.eq_nil_of_length_eq_zero (by omega); subst this; simp [Rm]) (by omega) hc) rfl (by omega) rfl
      case round =>
        clear hL0 hSr hst0 hS hP
        intro gk a W6 hI J K hJ hK
        obtain ⟨ff, ms, x, Nb, far, R, rfl, hgk, hx2, hL, h1, h2⟩ := hI
        replace hJ := Lib.hid hJ
        replace hgk := Lib.hid hgk
        obtain ⟨q, l, c, P, C, hrb, hrd⟩ := hL.px.ps.rd
        have cr := wcell (cs := [_]) hrb 0
        have cn := wcell (cs := [_]) hL.nb 0
        have hl : R.length = l := hrd.len
        simp only [List.getElem?_cons_zero] at cr cn
        by_cases hlt : x < l
        · have hSr := Lib.hid (h1 (by omega))
          have hrl : Hid (R.length ≤ x + 2) := hSr.out.sv.rl
          replace hL := Lib.hid hL; replace hrb := Lib.hid hrb; replace hrd := Lib.hid hrd; replace hl := Lib.hid hl; replace h1 := Lib.hid h1; replace h2 := Lib.hid h2
          go_upto_region 18 with fail
          refine wp_loop_ghost_k (HL n who k gc gp s w F Y x Nb) k ?start2 ?round2
          case start2 =>
            exact HL.intro ms 0 far R hL.out hSr.out (by rw [hl.out]; exact hlt) rfl (Nat.zero_le _) 0 rfl rfl
          case round2 =>
            clear hL hSr hrl hrb hrd hl cr cn h1 h2
            intro gk2 a2 W7 hI2 J2 K2 hJ2 hK2
            obtain ⟨ff2, ms2, i, far2, R2, rfl, hgk2, hi, hL, hSr, hxl⟩ := hI2
            replace hJ2 := Lib.hid hJ2
            replace hgk2 := Lib.hid hgk2
            obtain ⟨q2, l2, c2, P2, C2, hrb, hrd⟩ := hL.px.ps.rd
            have hl2 : R2.length = l2 := hrd.len
            have cr := wcell (cs := [_]) hrb 0
            have cn := wcell (cs := [_]) hL.nb 0
            have hlen := hSr.sv.len x
            rw [← hN.out] at hlen
            obtain ⟨qg, hqg, _, hql, _⟩ := hrd.row.where (by omega)
            subst hqg
            have crow := hrd.row.cell (i := x) (by omega)
            rw [rowsV_get hxl] at crow
            have hown := hrd.own x (by omega)
            have hxl2 : x < l2 := by omega
            simp only [List.getElem?_cons_zero] at cr cn
            obtain ⟨pm, hpm⟩ : ∃ pm, pm = P2 x := ⟨_, rfl⟩
            obtain ⟨cm, hcm⟩ : ∃ cm, cm = C2 x := ⟨_, rfl⟩
            obtain ⟨ln, hlnn⟩ : ∃ ln, ln = (Rm R2 x).length := ⟨_, rfl⟩
            rw [← hpm, ← hcm, ← hlnn] at crow hown
            rw [← hlnn] at hlen hi
            have hIn : (0 : Int) ≤ (x : Int) := by omega
            have hIl : (x : Int) < (l2 : Int) := by omega
            replace hrb := Lib.hid hrb; replace hrd := Lib.hid hrd; replace hl2 := Lib.hid hl2; replace hpm := Lib.hid hpm; replace hcm := Lib.hid hcm; replace hlnn := Lib.hid hlnn; replace hSr := Lib.hid hSr; replace hxl := Lib.hid hxl
            by_cases hil : i < ln
            · obtain ⟨pg, hpg, _, hpl, _⟩ := hown.where (by omega)
              subst hpg
              have cpp := hown.cell hil
              rw [asI_at] at cpp
              obtain ⟨p, hp⟩ : ∃ p, p = st (Rm R2 x) i := ⟨_, rfl⟩
              rw [← hp] at cpp
              have hpmem : Hid (p ∈ Rm R2 x) := by show _ ∈ _; rw [hp]; exact st_mem (by rw [← hlnn.out]; exact hil)
              have hpn : p < k := by rw [hN.out]; exact (hSr.out.sv.ent x p hpmem.out).2.2
              have cf := wcell (cs := [_]) hL.px.ps.fb 0
              have cF := hL.px.ps.fr.cell (i := p) (by simpa using hpn)
              rw [map_at hpn] at cF
              have d0 := wcell (cs := [_, _, _]) hL.px.ps.gb 0
              have dw := wcell (cs := [_]) hL.px.ps.wb 0
              simp only [List.getElem?_cons_zero] at cf d0 dw
              obtain ⟨d, hd⟩ : ∃ d, d = far2 p := ⟨_, rfl⟩
              rw [← hd] at cF
              replace hL := Lib.hid hL; replace hp := Lib.hid hp; replace hd := Lib.hid hd; replace hown := Lib.hid hown
              by_cases hdx : d < (x : Int)
              · have b1 : decide (d < (x : Int)) = true := decide_eq_true hdx
                have hSn : Hid (Sr n who s x (i + 1) far2 R2) := hSr.out.on (p := p) (by rw [hp.out]; unfold st; rw [List.getElem?_eq_getElem (by rw [← hlnn.out]; exact hil)]; rfl) (.inl (by rw [← hd.out]; exact hdx))
                go_wp2_with fail
                go_quiet (fail)
                go_wp2_with fail
                have hgk2 := hgk2.out
                exact Handed.intro (k - (i + 1)) (by omega) (hJ2.out _ _ _ (HL.intro ms2 (i + 1) far2 R2 (hL.out.drewN _) hSn.out hxl.out rfl (by rw [← hlnn.out]; omega) _ rfl (by push_cast; rfl)))
              · have b1 : decide (d < (x : Int)) = false := decide_eq_false hdx
                have HAp := Lib.hid (fun W => HA.out p hpn W)
                obtain ⟨al, hal⟩ : ∃ al, al = alongS n who p := ⟨_, rfl⟩
                rw [← hal] at HAp
                have hn1w : IntKind.i64.wrap ((n : Int) - 1) = (n : Int) - 1 := IntWalk.i64_in _ (by omega)
                by_cases haln : (al : Int) = (n : Int) - 1
                · have b2 : ((al : Int) == (n : Int) - 1) = true := by rw [haln]; simp
                  have hfnd : Hid (ShortI n who s x) := hSr.out.found hpmem.out (by rw [← hd.out]; exact hdx) (by rw [← hal]; omega)
                  replace hal := Lib.hid hal; replace haln := Lib.hid haln
                  go_wp2_with fail
                  go_quiet (fail)
                  go_wp2_with fail
                  go_quiet ((go_at_call 20; ((with_reducible refine (HAp.out _).mono ?_); exact fun _ _ h => ⟨h.1, _, h.2.symm⟩)))
                  go_wp2_with fail
                  exact leaves_marks ms2 _ (hL.out.drewN _).mrk fun W' hW' => ⟨_, results_tmp2 rfl _ _ _, (x : Int), rfl, hfnd.out, by omega, hW'.bel (hL.out.drewN _).px.bel⟩
                · have b2 : ((al : Int) == (n : Int) - 1) = false := by simp; omega
                  replace hal := Lib.hid hal; replace haln := Lib.hid haln
                  go_wp2_with fail
                  go_quiet (fail)
                  obtain ⟨nq1, rfl⟩ : ∃ n1, n1 = nq := ⟨_, rfl⟩
                  go_wp2_with fail
                  go_quiet ((go_at_call 20; ((with_reducible refine (HAp.out _).mono ?_); exact fun _ _ h => ⟨h.1, _, h.2.symm⟩)))
                  go_wp2_with (go_at_call 21; refine (near_any n p _).mono ?_; rintro e w' ⟨rfl, rfl⟩)
                  have hNbX : Nb < W7.heap.size := lt_of_heap hL.out.nb
                  obtain ⟨X, hX⟩ : ∃ X, X = W7.heap.size := ⟨_, rfl⟩
                  obtain ⟨W8, hW8⟩ : ∃ W8, W8 = W7.drewN (nq1 + nq) := ⟨_, rfl⟩
                  have hNbX2 : Nb < X := by rw [hX]; exact hNbX
                  have hX8 : W8.heap.size = X := by rw [hW8, hX]; rfl
                  have hL8 : Lw n who k gc gp s w F Y W8 x Nb ms2 far2 R2 := by rw [hW8]; exact hL.out.drewN _
                  rw [← hW8]
                  replace hW8 := Lib.hid hW8
                  obtain ⟨V, hV⟩ : ∃ V : World, V = (W8.alloc (.cells #[.int .i64 (n : Int)] 3)).alloc (.cells #[.int .i64 (p : Int)] 3) := ⟨_, rfl⟩
                  have hVs : V.heap.size = X + 2 := by rw [hV]; simp [hX8]
                  have hVB : Below W8.heap.size W8 V := by rw [hV]; exact below2 _ _ _
                  have hVh := heap2 W8 (.cells #[.int .i64 (n : Int)] 3) (.cells #[.int .i64 (p : Int)] 3)
                  rw [← hV, hX8] at hVh
                  obtain ⟨hVa, hVb⟩ := hVh
                  have hVO : KeepsOthers W8 V := ⟨hVB.size, fun i o h _ => (hVB.block i (lt_of_heap h)).trans h⟩
                  have hms : ∀ D ∈ ms2, D < X := fun D hD => by rw [← hX8]; exact lt_of_heap (hL8.mrk.2 D hD).2
                  have hYX : Y + 4 ≤ X := by have := hL8.nY; omega
                  have hR0 : Rl n who k gc gp s w F Y x Nb X i p ms2 [] V far2 R2 :=
                    ⟨(hL8.px.zs (Z' := Zx Y Nb X) (fun j hj hz => by rcases hz with h | h | h | h; exact .inl h; exact .inr h; omega; omega) (fun j hj => .inl hj) hgl.out).below hVB, (hVB.block _ (lt_of_heap hL8.nb)).trans hL8.nb, hL8.mrk.keep hVO, hSr.out, by rw [← hlnn.out]; exact hil, hp.out.symm, by rw [← hd.out]; omega, hxl.out, by simp, hVa, by omega⟩
                  rw [← hV, ← hX]
                  replace hV := Lib.hid hV; replace hX := Lib.hid hX; replace hVO := Lib.hid hVO; replace hms := Lib.hid hms; replace hR0 := Lib.hid hR0; replace hL8 := Lib.hid hL8
                  have hpnn : p < n * n := by rw [← hN.out]; exact hpn
                  refine (wpIn_wide (n := 9)).1 ?_
                  refine wpIn_near X (X + 1) n p hn1 hn hpnn rfl rfl (wcell (cs := [_]) hVb 0) (by omega) (fun pre W => ∃ far R, Rl n who k gc gp s w F Y x Nb X i p ms2 pre W far R) ?hIn ?hI ⟨_, _, hR0.out⟩ ?hround ?hdone
                  case hIn =>
                    rintro pre A ⟨_, _, h⟩
                    exact wcell (cs := [_]) h.xb 0
                  case hI =>
                    rintro pre A B ⟨_, _, hA⟩ hg
                    rw [hVs] at hg
                    exact ⟨_, _, hA.keep hg hN0 hYX hNbX2 hms.out hgl.out⟩
                  case hround =>
                    intro m pre x1 W hxn hxm hRw hsz
                    gi_wp2
                    refine ⟨trivial, fun W9 hR9 hsz9 => ?_⟩
                    obtain ⟨far9, R9, hR9⟩ := hR9
                    have dp := wcell (cs := [_]) hR9.px.pb 0
                    have dc := wcell (cs := [_]) hR9.px.cb 0
                    have dn := wcell (cs := [_]) hR9.nb 0
                    simp only [List.getElem?_cons_zero] at dp dc dn
                    rw [hVs] at hsz9
                    have hx1k : x1 < k := by rw [hN.out]; exact hxn
                    have HC := Lib.hid (cost_any n who k gc k w.heap.size (w.heap.size + 1) Y F (Y + 1 + 1) x1 gp s (Zx Y Nb X) far9 R9 W9.drew (hR9.px.ps.same rfl) hx1k hN100 hs2.out)
                    obtain ⟨cs, hcs⟩ : ∃ cs, cs = costS s x1 := ⟨_, rfl⟩
                    have hcs1 : cs ≤ 1 := by rw [hcs]; exact cost_le s x1
                    rw [← hcs] at HC
                    have hxk : x ≤ k + 2 := hx2
                    have HP := Lib.hid (put_any n who k gc k w.heap.size (w.heap.size + 1) Y F (Y + 1 + 1) x1 (x + cs) gp s (Zx Y Nb X) far9 R9 W9.drew (hR9.px.ps.same rfl) hx1k hN100 hwho (by omega) (by have := hR9.sr.sv.rl; omega) (fun i => by have := hR9.sr.sv.len i; rw [← hN.out] at this; omega) (fun j hj => by show j < W9.heap.size; rcases hj with h | h | h | h <;> omega))
                    have ecs : ((x + cs : Nat) : Int) = (x : Int) + (cs : Int) := by push_cast; rfl
                    rw [ecs] at HP
                    have hwcs : IntKind.i64.wrap ((x : Int) + (cs : Int)) = (x : Int) + (cs : Int) := IntWalk.i64_in _ (by omega)
                    replace hR9 := Lib.hid hR9; replace hcs := Lib.hid hcs; replace ecs := Lib.hid ecs; replace hxm := Lib.hid hxm
                    gi_wp2
                    refine wpIn_still_tail_r 7 (by kernel_rfl) (by kernel_rfl) rfl (by rintro ⟨a, w, h⟩; exact absurd h.1 (by simp)) ?_
                    simp only [List.take_succ_cons, List.take_zero, List.drop_succ_cons, List.drop_zero]
                    repeat still_step
                    still_call ((HC.out).mono fun _ _ h => ⟨h.1, h.2.symm⟩)
                    repeat still_step
                    refine wpStill_nil ?_
                    change wpList _ _ _ _ _ W9.drew
                    go_wp2_with (go_at_call 19; (with_reducible refine HP.out.mono ?_); rintro e WA ⟨rfl, hpk, hp1, hp2⟩; replace hpk := Lib.hid hpk; replace hp1 := Lib.hid hp1; replace hp2 := Lib.hid hp2)
                    have h1 := hp1.out
                    have h2 := hp2.out
                    rw [← ecs.out] at h1 h2
                    have hfY := hR9.out.px.fY
                    exact ⟨⟨hpk.out.oth.1, hpk.out.oth.2⟩, hR9.out.drew.put ((mem_near hpnn).1 hxm.out) (by rw [hcs.out]) ⟨by omega, by omega⟩ hL8.out.nY hYX hpk.out h1 h2⟩
                  case hdone =>
                    rintro W ⟨far9, R9, hR9⟩ hD hKO
                    have hM : Mk w.heap.size (V.heap.size :: ms2) W := (hL8.out.mrk.keep hVO.out).cons hKO (by have := hL8.out.nY; have := hR9.px.fY; omega) hD
                    have hLn : Hid (Lw n who k gc gp s w F Y W x Nb (V.heap.size :: ms2) far9 R9) := ⟨hR9.px.zs (Z' := Zn Y Nb) (fun j hj hz => hz.elim .inl fun e => .inr (.inl e)) (fun j hj => .inl hj) hgl.out, hR9.nb, hL8.out.nY, hM⟩
                    have hSn : Hid (Sr n who s x (i + 1) far9 R9) := hR9.done hpnn (by have := hal.out; have := haln.out; omega)
                    have hilR : Hid (i + 1 ≤ (Rm R9 x).length) := hR9.il
                    have hxlR : Hid (x < R9.length) := hR9.xl
                    have hik : i < k := by have h1 := hR9.il; have h2 := hR9.sr.sv.len x; rw [← hN.out] at h2; omega
                    obtain ⟨D, hDD⟩ : ∃ D, D = V.heap.size := ⟨_, rfl⟩
                    rw [← hDD] at hLn ⊢
                    show Exit.inBlock 6 _ Exit.normal { tmps := _, defers := mks (D :: ms2) } W
                    clear hR9 hD hKO hM
                    dsimp only
                    go_wp2_with fail
                    have hgk2 := hgk2.out
                    exact Handed.intro (k - (i + 1)) (by omega) (hJ2.out _ _ _ (HL.intro (D :: ms2) (i + 1) far9 R9 hLn.out hSn.out hxlR.out rfl hilR.out _ rfl (by push_cast; rfl)))
            · obtain rfl : i = ln := by omega
              have hNbl : Nb < W7.heap.size := lt_of_heap hL.nb
              have hBN : Below W7.heap.size W7 (W7.alloc (.cells #[.int .i64 ((x : Int) + 1)] 3)) := (Below.refl _ W7).alloc (Nat.le_refl _) _
              have hY7 : Y + 4 ≤ W7.heap.size := by have := hL.nY; omega
              have hL2 : Hid (Lw n who k gc gp s w F Y (W7.alloc (.cells #[.int .i64 ((x : Int) + 1)] 3)) (x + 1) W7.heap.size ms2 far2 R2) :=
                ⟨(hL.px.zs (Z' := Zn Y W7.heap.size) (fun j hj hz => hz.elim .inl fun e => by omega) (fun j hj => .inl hj) hgl.out).below hBN, by push_cast; exact heap_alloc_new W7 _, hY7, hL.mrk.keep ⟨hBN.size, fun j o h _ => (hBN.block j (lt_of_heap h)).trans h⟩⟩
              have hx3 : x + 1 ≤ k + 2 := by
                have h1 := hSr.out.sv.phi
                have h2 := hxl.out
                rw [← hN.out] at h1
                omega
              clear hBN
              replace hL := Lib.hid hL; replace hown := Lib.hid hown
              go_wp2_with fail
              have hgk := hgk.out
              exact Handed.intro (k + 3 - (x + 1)) (by omega) (hJ.out _ _ _ (GL.intro ms2 (x + 1) W7.heap.size far2 R2 hL2.out (fun h => hSr.out.next (by rw [← hlnn.out]; exact Nat.le_refl _) h) (fun h p c hc => hSr.out.none (by rw [← hlnn.out]; exact Nat.le_refl _) h hc) rfl hx3 rfl))
        · have hno := Lib.hid (h2 (by omega))
          replace hL := Lib.hid hL
          clear h1 h2 hrb hrd hl
          go_wp2_with fail
          refine leaves_marks ms W6 hL.out.mrk fun W' hW' => ⟨_, results_tmp2 rfl _ _ _, -1, rfl, .inl ⟨rfl, hno.out⟩, by omega, hW'.bel hL.out.px.bel⟩
end
end Go.Proofs.Ytcibkchfdiijfaa
