/- What do makes of the play's board; conditions: the way has two places or more, all of the board, and lies apart. -/
import Derived.Test.YtelhpfhnmnaefaaDrN
namespace Go.Proofs.Ytelhpfhnmnaefaa
open Go.RowKit

theorem stN_asI (l : List Nat) (j : Nat) : (asI l)[j]?.getD 0 = ((stN l j : Nat) : Int) := asI_at l j
theorem stN_in {way : List Nat} (h : InB way) {j : Nat} (hj : j < way.length) : 1 ≤ stN way j ∧ stN way j ≤ 32 := by
  unfold stN
  rw [List.getElem?_eq_getElem hj]
  exact h _ (List.getElem_mem hj)

set_option maxRecDepth 20000 in
set_option maxHeartbeats 8000000 in
theorem do_any (pb g cb : Nat) (s : Int) (b : List Int) (W : World) (hs : s = 1 ∨ s = -1) (hP : Pd pb g cb s b W) (way : List Nat) (p : Option Addr) (n c : Nat) (hI : IntsIn W p n (asI way)) (hn : 2 ≤ n) (hn2 : n ≤ 40) (hw : InB way) (hpg : ∀ a, p = some a → a.block ≠ g) :
    Calls Try.prog 12 #[.pointer (some ⟨pb, 0, none⟩), .slice p n c] W fun e W' => e = .returned (.tuple #[]) ∧ Pd pb g cb s (doS b s way) W' ∧ Ob g W W' := by
  have hlw : way.length = n := by have := hI.len; rwa [asI_len] at this
  have hne : way ≠ [] := by intro e; rw [e] at hlw; simp at hlw; omega
  have hfst := hw _ (fst_mem hne)
  have hlst := hw _ (lst_mem hne)
  obtain ⟨bw, ow, hpe, hbw, hcw⟩ := hI.at (by omega)
  subst hpe
  have cl := hcw (n - 1) (by omega)
  rw [stN_asI] at cl
  have elst : stN way (n - 1) = lst way := by unfold lst stN; rw [hlw]
  rw [elst] at cl
  have cf := hcw 0 (by omega)
  rw [stN_asI, Nat.add_zero] at cf
  have efst : stN way 0 = fst way := rfl
  rw [efst] at cf
  have hin : (n : Int) - 1 = ((n - 1 : Nat) : Int) := by omega
  have hbg : bw ≠ g := hpg _ rfl
  have hway : Hid (∀ W', Ob g W W' → ∀ j, j < n → W'.cell? ⟨bw, ow + j, none⟩ = some (.int .i64 ((stN way j : Nat) : Int))) := fun W' ho j hj => by
    rw [← stN_asI, ← hcw j hj]
    exact World.cell?_of_block (a := ⟨bw, ow + j, none⟩) (ho.block bw hbw hbg)
  have c0 := hP.c0
  have cv := hP.cb' hfst.2
  have fv := hP.fz (fst way)
  have hP1 := hP.set hfst.2 0
  have hO1 : Ob g W (W.setCell ⟨g, fst way, none⟩ (.int .i64 0)) := (Ob.refl g W).set _ _
  have hdo : doS b s way = (clr (b.set (fst way) 0) way (n - 1)).set (lst way) (endP b s way) := by unfold doS; rw [hlw]
  have hep : endP b s way = if lastS s (lst way) = true then 2 * s else b[fst way]?.getD 0 := rfl
  obtain ⟨fs, hfs⟩ : ∃ fs, fst way = fs := ⟨_, rfl⟩
  obtain ⟨ls, hls⟩ : ∃ ls, lst way = ls := ⟨_, rfl⟩
  rw [hfs] at cf cv fv hP1 hO1 hfst hdo hep
  rw [hls] at cl hlst hdo hep
  obtain ⟨pv, hpv⟩ : ∃ pv, b[fs]?.getD 0 = pv := ⟨_, rfl⟩
  rw [hpv] at cv hep
  have hn0 : ¬ n = 0 := by omega
  have hn1 : 0 < n := by omega
  have hn3 : (0 : Int) < (n : Int) := by omega
  have i1 : (0 : Int) ≤ (fs : Int) := by omega
  have i2 : (fs : Int) < 33 := by omega
  replace hdo := Lib.hid hdo; replace hep := Lib.hid hep; replace hP := Lib.hid hP; replace hP1 := Lib.hid hP1; replace hO1 := Lib.hid hO1; replace hI := Lib.hid hI; replace hlw := Lib.hid hlw; replace hne := Lib.hid hne; replace hfs := Lib.hid hfs; replace hls := Lib.hid hls; replace hpv := Lib.hid hpv; replace hw := Lib.hid hw; replace elst := Lib.hid elst; replace efst := Lib.hid efst
  clear hcw hpg
  go_enter Try.func12, Try.ntmps12
  go_wp2_with fail
  go_quiet (fail)
  go_upto_region 2 with fail
  go_cut [] (fun X => Pd pb g cb s (b.set fs 0) X ∧ Ob g W X)
  case first =>
    go_region_law (fail)
    all_goals
      go_wp2_with fail
      go_meet
      first | exact ⟨hP1.out.drew, hO1.out.drew⟩ | exact ⟨⟨hP1.out.hd, hP1.out.bd.keep (Nat.le_refl _) fun _ _ _ => rfl, hP1.out.fz, hP1.out.ne⟩, ⟨hO1.out.os, hO1.out.tape, hO1.out.output, hO1.out.size, hO1.out.block⟩⟩
  case rest =>
    obtain ⟨hP2, hO2⟩ := hcut
    obtain ⟨W2, rfl⟩ : ∃ W2 : World, W2 = wc := ⟨_, rfl⟩
    replace hP2 := Lib.hid hP2; replace hO2 := Lib.hid hO2
    clear c0 cv fv cl cf hP1 hO1
    go_wp2_with fail
    go_loopg [6] (n - 1) (fun gk iv W' => ∃ k : Nat, k ≤ n - 1 ∧ gk = n - 1 - k ∧ iv = .int .i64 ((k : Int) + 1) ∧ Pd pb g cb s (clr (b.set fs 0) way k) W' ∧ Ob g W W')
    case atStart => exact ⟨0, by omega, rfl, rfl, hP2.out, hO2.out⟩
    case round =>
      obtain ⟨k, hk, hgk, rfl, hPk, hOk⟩ := hrel
      obtain ⟨W3, rfl⟩ : ∃ W3 : World, W3 = wr := ⟨_, rfl⟩
      replace hgk := Lib.hid hgk
      clear hP2 hO2
      by_cases hlt : k < n - 1
      · have hki : (k : Int) + 1 < n := by omega
        have ck := hway.out W3 hOk k (by omega)
        have ck1 := hway.out W3 hOk (k + 1) (by omega)
        have hab := stN_in hw.out (j := k) (by rw [hlw.out]; omega)
        have hnx : clr (b.set fs 0) way (k + 1) = if 0 < midS (stN way k) (stN way (k + 1)) then (clr (b.set fs 0) way k).set (midS (stN way k) (stN way (k + 1))) 0 else clr (b.set fs 0) way k := rfl
        have hml := mid_le (b := stN way (k + 1)) hab.1 hab.2
        have HM : Hid (∀ r, Calls Try.prog 22 #[.int .i64 ((stN way k : Nat) : Int), .int .i64 ((stN way (k + 1) : Nat) : Int)] (W3.drewN r) fun e w' => e = .returned (.int .i64 (midS (stN way k) (stN way (k + 1)) : Nat)) ∧ ∃ q, w' = W3.drewN q) := fun r =>
          (middle_any _ _ hab.1 hab.2 (W3.drewN r)).mono fun e w' h => ⟨h.1, r, h.2⟩
        obtain ⟨m, hm⟩ : ∃ m, midS (stN way k) (stN way (k + 1)) = m := ⟨_, rfl⟩
        rw [hm] at hnx hml HM
        generalize stN way k = u at *
        generalize stN way (k + 1) = v at *
        have j1 : ((k : Int) + 1) - 1 = (k : Int) := by omega
        have j2 : (0 : Int) ≤ (k : Int) + 1 := by omega
        have j3 : (0 : Int) ≤ (k : Int) := by omega
        have j4 : (k : Int) < (n : Int) := by omega
        have j7 : IntKind.i64.wrap (k : Int) = k := IntWalk.i64_in _ (by omega)
        replace hm := Lib.hid hm; replace hab := Lib.hid hab
        by_cases hm0 : 0 < m
        · have hmi : (0 : Int) < (m : Int) := by omega
          rw [if_pos hm0] at hnx
          replace hnx := Lib.hid hnx
          replace hPk := Lib.hid hPk; replace hOk := Lib.hid hOk
          go_wp2_with fail
          go_quiet ((go_at_call 22; ((with_reducible refine (HM.out _).mono ?_); exact fun _ _ h => ⟨h.1, h.2⟩)))
          have hP4 := hPk.out.drewN nq
          have hO4 := hOk.out.drewN nq
          generalize W3.drewN nq = W4 at *
          have c0 := hP4.c0
          have cm := hP4.cb' hml
          have fm := hP4.fz m
          have hP5 := hP4.set hml 0
          have hO5 := hO4.set m (.int .i64 0)
          have m2 : (m : Int) < 33 := by omega
          clear ck ck1 HM hPk hOk
          replace hP4 := Lib.hid hP4; replace hO4 := Lib.hid hO4; replace hP5 := Lib.hid hP5; replace hO5 := Lib.hid hO5
          go_wp2_with fail
          have hgk := hgk.out
          go_roundg (n - 1 - (k + 1))
          case measure => omega
          case rel => exact ⟨k + 1, by omega, rfl, by go_num, by rw [hnx.out]; exact hP5.out, hO5.out⟩
        · have hmi : ¬ (0 : Int) < (m : Int) := by omega
          rw [if_neg hm0] at hnx
          replace hnx := Lib.hid hnx; replace hm0 := Lib.hid hm0
          replace hPk := Lib.hid hPk; replace hOk := Lib.hid hOk
          go_wp2_with fail
          go_quiet ((go_at_call 22; ((with_reducible refine (HM.out _).mono ?_); exact fun _ _ h => ⟨h.1, h.2⟩)))
          have hP4 := Lib.hid (hPk.out.drewN nq)
          have hO4 := Lib.hid (hOk.out.drewN nq)
          go_wp2_with fail
          have hgk := hgk.out
          go_roundg (n - 1 - (k + 1))
          case measure => omega
          case rel => exact ⟨k + 1, by omega, rfl, by go_num, by rw [hnx.out]; exact hP4.out, hO4.out⟩
      · have hkn : k = n - 1 := by omega
        have hki : ¬ ((k : Int) + 1 < n) := by omega
        rw [hkn] at hPk
        have HL := Lib.hid (last_pd pb g cb s _ W3 hs hPk ls)
        have c0 := hPk.c0
        have c1 := hPk.c1
        have cm := hPk.cb' hlst.2
        have fm := hPk.fz ls
        have hP5 := fun v => hPk.set hlst.2 v
        have hO5 := fun v => hOk.set ls (.int .i64 v)
        have m2 : (ls : Int) < 33 := by omega
        generalize (clr (b.set fs 0) way (n - 1))[ls]?.getD 0 = old at *
        replace hP5 := Lib.hid hP5; replace hO5 := Lib.hid hO5; replace hPk := Lib.hid hPk; replace hOk := Lib.hid hOk; replace hkn := Lib.hid hkn
        obtain ⟨la, hla⟩ : ∃ la, lastS s ls = la := ⟨_, rfl⟩
        rw [hla] at HL
        have hep2 := hep.out
        rw [hla] at hep2
        have hs2 : -2 ≤ 2 * s ∧ 2 * s ≤ 2 := by rcases hs with rfl | rfl <;> omega
        replace hla := Lib.hid hla
        cases la with
        | true =>
          rw [if_pos rfl] at hep2
          replace hep2 := Lib.hid hep2
          replace hs := Lib.hid hs
          go_wp2_with fail
          refine HL.out.mono ?_
          rintro e w' ⟨rfl, rfl⟩
          go_wp2_with fail
          go_end0
          rw [hdo.out, hep2.out]
          exact ⟨rfl, hP5.out _, hO5.out _⟩
        | false =>
          rw [if_neg (by simp)] at hep2
          replace hep2 := Lib.hid hep2
          replace hs := Lib.hid hs
          go_wp2_with fail
          refine HL.out.mono ?_
          rintro e w' ⟨rfl, rfl⟩
          go_wp2_with fail
          go_end0
          rw [hdo.out, hep2.out]
          exact ⟨rfl, hP5.out _, hO5.out _⟩
end Go.Proofs.Ytelhpfhnmnaefaa
