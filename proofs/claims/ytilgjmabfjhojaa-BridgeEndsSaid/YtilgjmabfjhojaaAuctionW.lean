/- What bridge.Auction computes: the fold of its calls; conditions: the slice reads as a list of ints. -/
import Derived.Test.YtilgjmabfjhojaaAuW
import Derived.Deep.RegionHeld3
namespace Go.Proofs.Ytilgjmabfjhojaa
open Go.RowKit

def firsts (n : Nat) : List Int := List.replicate n (-1) ++ List.replicate (10 - n) 0
def auF (n : Nat) : Au := { au0 with first := firsts n }
theorem firsts_len (n : Nat) (h : n ≤ 10) : (firsts n).length = 10 := by simp [firsts]; omega
theorem firsts_set (n : Nat) (h : n < 10) : (firsts n).set n (-1) = firsts (n + 1) := by
  have : ∀ n, n < 10 → (firsts n).set n (-1) = firsts (n + 1) := by decide
  exact this n h
theorem auF_ten : auF 10 = au0 := rfl
/-- a result box. -/
def CoB (rb : Nat) (w : World) (a b c d : Int) : Prop := w.heap[rb]? = some (.cells #[.int .i64 a, .int .i64 b, .int .i64 c, .int .i64 d] 24 (0, 0))
theorem CoB.cells {rb : Nat} {w : World} {a b c d : Int} (h : CoB rb w a b c d) : w.cell? ⟨rb, 0, none⟩ = some (.int .i64 a) ∧ w.cell? ⟨rb, 1, none⟩ = some (.int .i64 b) ∧ w.cell? ⟨rb, 2, none⟩ = some (.int .i64 c) ∧ w.cell? ⟨rb, 3, none⟩ = some (.int .i64 d) :=
  ⟨wcell (cs := [_, _, _, _]) h 0, wcell (cs := [_, _, _, _]) h 1, wcell (cs := [_, _, _, _]) h 2, wcell (cs := [_, _, _, _]) h 3⟩
theorem CoB.put {rb : Nat} {w : World} {a b c d : Int} (h : CoB rb w a b c d) (a' b' c' d' : Int) : CoB rb ((((w.setCell ⟨rb, 0, none⟩ (.int .i64 a')).setCell ⟨rb, 1, none⟩ (.int .i64 b')).setCell ⟨rb, 2, none⟩ (.int .i64 c')).setCell ⟨rb, 3, none⟩ (.int .i64 d')) a' b' c' d' := by
  have h1 := wset (wset (wset (wset h 0 (.int .i64 a')) 1 (.int .i64 b')) 2 (.int .i64 c')) 3 (.int .i64 d')
  exact h1.trans rfl
theorem CoB.below {rb B : Nat} {w w' : World} {a b c d : Int} (h : CoB rb w a b c d) (hB : Below B w w') (hrb : rb < B) : CoB rb w' a b c d := (hB.block rb hrb).trans h

set_option maxHeartbeats 8000000 in
set_option maxRecDepth 100000 in
theorem auction_any (p : Option Addr) (n c : Nat) (xs : List Int) (w : World) (hn : n ≤ 9223372036854775807) (hx : IntsIn w p n xs) :
    Calls Try.prog 5 #[.slice p n c] w fun e w' => e = .returned (.tuple #[.agg #[.int .i64 (fin (auS xs)).1.1, .int .i64 (fin (auS xs)).1.2.1, .int .i64 (fin (auS xs)).1.2.2.1, .int .i64 (fin (auS xs)).1.2.2.2], .int .i64 (fin (auS xs)).2]) ∧ Below w.heap.size w w' := by
  have hl := Lib.hid hx.len
  obtain ⟨a1, a2⟩ := heap2 w (.cells #[.int .i64 0, .int .i64 0, .int .i64 0, .int .i64 0] 24) (.cells #[.int .i64 (-1), .int .i64 0, .int .i64 0, .int .i64 0, .int .i64 0, .int .i64 0, .int .i64 0, .int .i64 0, .int .i64 0, .int .i64 0, .int .i64 0, .int .i64 0, .int .i64 0, .int .i64 0, .int .i64 0, .int .i64 0] 40)
  have hA0 : Hid (AuB (auF 0) (w.heap.size + 1) ((w.alloc (.cells #[.int .i64 0, .int .i64 0, .int .i64 0, .int .i64 0] 24)).alloc (.cells #[.int .i64 (-1), .int .i64 0, .int .i64 0, .int .i64 0, .int .i64 0, .int .i64 0, .int .i64 0, .int .i64 0, .int .i64 0, .int .i64 0, .int .i64 0, .int .i64 0, .int .i64 0, .int .i64 0, .int .i64 0, .int .i64 0] 40))) := ⟨a2.trans rfl, by decide⟩
  have hC0 : Hid (CoB w.heap.size ((w.alloc (.cells #[.int .i64 0, .int .i64 0, .int .i64 0, .int .i64 0] 24)).alloc (.cells #[.int .i64 (-1), .int .i64 0, .int .i64 0, .int .i64 0, .int .i64 0, .int .i64 0, .int .i64 0, .int .i64 0, .int .i64 0, .int .i64 0, .int .i64 0, .int .i64 0, .int .i64 0, .int .i64 0, .int .i64 0, .int .i64 0] 40)) 0 0 0 0) := a1
  have hB0 := Lib.hid (below2 w (.cells #[.int .i64 0, .int .i64 0, .int .i64 0, .int .i64 0] 24) (.cells #[.int .i64 (-1), .int .i64 0, .int .i64 0, .int .i64 0, .int .i64 0, .int .i64 0, .int .i64 0, .int .i64 0, .int .i64 0, .int .i64 0, .int .i64 0, .int .i64 0, .int .i64 0, .int .i64 0, .int .i64 0, .int .i64 0] 40))
  replace hx := Lib.hid hx
  clear a1 a2
  go_enter Try.func5, Try.ntmps5
  go_wp2_with fail
  generalize (w.alloc (.cells #[.int .i64 0, .int .i64 0, .int .i64 0, .int .i64 0] 24)).alloc (.cells #[.int .i64 (-1), .int .i64 0, .int .i64 0, .int .i64 0, .int .i64 0, .int .i64 0, .int .i64 0, .int .i64 0, .int .i64 0, .int .i64 0, .int .i64 0, .int .i64 0, .int .i64 0, .int .i64 0, .int .i64 0, .int .i64 0] 40) = W at *
  go_loopg [10] 2 (fun gk iv W' => ∃ i : Nat, i ≤ 2 ∧ gk = 2 - i ∧ iv = .int .i64 i ∧ AuB (auF (5 * i)) (w.heap.size + 1) W' ∧ CoB w.heap.size W' 0 0 0 0 ∧ Below w.heap.size w W')
  case atStart => exact ⟨0, by omega, by omega, rfl, hA0.out, hC0.out, hB0.out⟩
  case round =>
    clear hA0 hC0 hB0 W
    obtain ⟨i, hi, hgk, rfl, hA, hC, hB⟩ := hrel
    obtain ⟨W, rfl⟩ : ∃ W : World, W = wr := ⟨_, rfl⟩
    replace hgk := Lib.hid hgk; replace hA := Lib.hid hA; replace hC := Lib.hid hC; replace hB := Lib.hid hB
    by_cases hlt : i < 2
    · go_wp2_with fail
      go_loopg [13] 5 (fun gk kv W' => ∃ k : Nat, k ≤ 5 ∧ gk = 5 - k ∧ kv = .int .i64 k ∧ AuB (auF (5 * i + k)) (w.heap.size + 1) W' ∧ CoB w.heap.size W' 0 0 0 0 ∧ Below w.heap.size w W')
      case atStart => exact ⟨0, by omega, by omega, rfl, hA.out, hC.out, hB.out⟩
      case round =>
        clear hA hC hB W
        obtain ⟨k, hk, hgk2, rfl, hA, hC, hB⟩ := hrel
        obtain ⟨W, rfl⟩ : ∃ W : World, W = wr := ⟨_, rfl⟩
        replace hgk2 := Lib.hid hgk2
        by_cases hltk : k < 5
        · have e5 : 5 + i * 5 + k = 5 + (5 * i + k) := by omega
          have d5 := hA.c5 (5 * i + k) (by omega)
          have g5 := hA.free (5 + (5 * i + k))
          have hA2 := hA.first (5 * i + k) (by omega) (-1)
          have hC2 : CoB w.heap.size (W.setCell ⟨w.heap.size + 1, 5 + (5 * i + k), none⟩ (.int .i64 (-1))) 0 0 0 0 := (wset_ne _ _ (by simp)).trans hC
          have hB2 := hB.setCell (p := ⟨w.heap.size + 1, 5 + (5 * i + k), none⟩) (by simp) (.int .i64 (-1))
          have hs : { auF (5 * i + k) with first := (auF (5 * i + k)).first.set (5 * i + k) (-1) } = auF (5 * i + (k + 1)) := by
            show { auF (5 * i + k) with first := (firsts (5 * i + k)).set (5 * i + k) (-1) } = auF (5 * i + (k + 1))
            rw [firsts_set _ (by omega)]; rfl
          rw [hs] at hA2
          rw [← e5] at d5 g5 hA2 hC2 hB2
          replace hA2 := Lib.hid hA2; replace hC2 := Lib.hid hC2; replace hB2 := Lib.hid hB2; replace hA := Lib.hid hA; replace hC := Lib.hid hC; replace hB := Lib.hid hB
          clear e5 hs
          go_wp2_with fail
          have hgk2 := hgk2.out
          go_roundg (5 - (k + 1))
          case measure => omega
          case rel => exact ⟨k + 1, by omega, rfl, by go_num, hA2.out, hC2.out, hB2.out⟩
        · have hke : k = 5 := by omega
          subst hke
          replace hA := Lib.hid hA; replace hC := Lib.hid hC; replace hB := Lib.hid hB
          go_wp2_with fail
          have hgk := hgk.out
          go_roundg (2 - (i + 1))
          case measure => omega
          case rel => exact ⟨i + 1, by omega, rfl, by go_num, hA.out, hC.out, hB.out⟩
    · have hie : i = 2 := by omega
      subst hie
      have hA1 : Hid (AuB au0 (w.heap.size + 1) W) := hA.out
      clear hA
      go_wp2_with fail
      go_loopg [25] n (fun gk jv W' => ∃ j : Nat, ∃ s : Au, j ≤ n ∧ gk = n - j ∧ jv = .int .i64 j ∧ auS (xs.take j) = (0, s) ∧ AuB s (w.heap.size + 1) W' ∧ CoB w.heap.size W' 0 0 0 0 ∧ Below w.heap.size w W')
      case atStart => exact ⟨0, au0, by omega, by omega, rfl, rfl, hA1.out, hC.out, hB.out⟩
      case round =>
        clear hA1 hC hB W
        obtain ⟨j, s, hj, hgk2, rfl, hau, hA, hC, hB⟩ := hrel
        obtain ⟨W1, rfl⟩ : ∃ W1 : World, W1 = wr := ⟨_, rfl⟩
        have hinv : AuInv s := by have := auS_inv (xs.take j); rw [hau] at this; exact this
        have hcn : s.calls ≤ 1000000 := by have := hinv.n; have := hinv.b2; have := hinv.d; have := hinv.p; omega
        have HO := Lib.hid (over_any (w.heap.size + 1) s W1 hA)
        replace hgk2 := Lib.hid hgk2; replace hau := Lib.hid hau; replace hcn := Lib.hid hcn
        by_cases hlt : j < n
        · have hj' : j < xs.length := by have := hl.out; omega
          obtain ⟨gb, o, rfl, hgb, hcx⟩ := (hx.out.below hB).at (by omega)
          have hcj := hcx j hlt
          have hst : Hid (auS (xs.take (j + 1)) = auStep (0, s) (xs[j]?.getD 0)) := by
            show _ = _
            rw [List.take_succ_eq_append_getElem hj', auS_snoc, hau.out]
            simp [hj']
          have hauto : Hid (∀ e : Nat, e ≠ 0 → auStep (0, s) (xs[j]?.getD 0) = (e, s) → fin (auS xs) = ((0, 0, 0, 0), e)) := fun e he h => by
            rw [auS_stop xs (j + 1) (e, s) (by rw [hst.out, h]) he]
            unfold fin; rw [if_pos he]
          have HC := Lib.hid (fun h0 h37 => call_any (w.heap.size + 1) s (xs[j]?.getD 0) W1 hA hinv hcn.out h0 h37)
          have hstep : Hid (auStep (0, s) (xs[j]?.getD 0) = if (xs[j]?.getD 0) < 0 ∨ 37 < (xs[j]?.getD 0) then (3, s) else if s.over = true then (9, s) else match s.call (xs[j]?.getD 0) with
            | none => (8, s)
            | some s => (0, s)) := rfl
          replace hC := Lib.hid hC; replace hB := Lib.hid hB; replace hA := Lib.hid hA; replace hinv := Lib.hid hinv
          clear hcx
          generalize xs[j]?.getD 0 = cc at *
          obtain ⟨z0, z1, z2, z3⟩ := hC.out.cells
          have y0 := wfree hC.out 0
          have y1 := wfree hC.out 1
          have y2 := wfree hC.out 2
          have y3 := wfree hC.out 3
          by_cases g0 : cc < 0
          · have hfin : fin (auS xs) = ((0, 0, 0, 0), 3) := hauto.out 3 (by omega) (by rw [hstep.out, if_pos (.inl g0)])
            have hz := Lib.hid (hC.out.put 0 0 0 0)
            have hBz := Lib.hid ((((hB.out.setCell (p := ⟨w.heap.size, 0, none⟩) (Nat.le_refl _) (.int .i64 0)).setCell (p := ⟨w.heap.size, 1, none⟩) (Nat.le_refl _) (.int .i64 0)).setCell (p := ⟨w.heap.size, 2, none⟩) (Nat.le_refl _) (.int .i64 0)).setCell (p := ⟨w.heap.size, 3, none⟩) (Nat.le_refl _) (.int .i64 0))
            replace hfin := Lib.hid hfin
            go_wp2_with fail
            generalize (((W1.setCell ⟨w.heap.size, 0, none⟩ (.int .i64 0)).setCell ⟨w.heap.size, 1, none⟩ (.int .i64 0)).setCell ⟨w.heap.size, 2, none⟩ (.int .i64 0)).setCell ⟨w.heap.size, 3, none⟩ (.int .i64 0) = W5 at *
            obtain ⟨k0, k1, k2, k3⟩ := hz.out.cells
            exact bodyPost_ret (v := .tuple #[.agg #[.int .i64 0, .int .i64 0, .int .i64 0, .int .i64 0], .int .i64 3]) (by simp [results, Try.results5, go_sem, k0, k1, k2, k3]) rfl ⟨by rw [hfin.out]; rfl, hBz.out⟩
          · by_cases g1 : 37 < cc
            · have hfin : fin (auS xs) = ((0, 0, 0, 0), 3) := hauto.out 3 (by omega) (by rw [hstep.out, if_pos (.inr g1)])
              have hz := Lib.hid (hC.out.put 0 0 0 0)
              have hBz := Lib.hid ((((hB.out.setCell (p := ⟨w.heap.size, 0, none⟩) (Nat.le_refl _) (.int .i64 0)).setCell (p := ⟨w.heap.size, 1, none⟩) (Nat.le_refl _) (.int .i64 0)).setCell (p := ⟨w.heap.size, 2, none⟩) (Nat.le_refl _) (.int .i64 0)).setCell (p := ⟨w.heap.size, 3, none⟩) (Nat.le_refl _) (.int .i64 0))
              replace hfin := Lib.hid hfin
              go_wp2_with fail
              generalize (((W1.setCell ⟨w.heap.size, 0, none⟩ (.int .i64 0)).setCell ⟨w.heap.size, 1, none⟩ (.int .i64 0)).setCell ⟨w.heap.size, 2, none⟩ (.int .i64 0)).setCell ⟨w.heap.size, 3, none⟩ (.int .i64 0) = W5 at *
              obtain ⟨k0, k1, k2, k3⟩ := hz.out.cells
              exact bodyPost_ret (v := .tuple #[.agg #[.int .i64 0, .int .i64 0, .int .i64 0, .int .i64 0], .int .i64 3]) (by simp [results, Try.results5, go_sem, k0, k1, k2, k3]) rfl ⟨by rw [hfin.out]; rfl, hBz.out⟩
            · generalize hov : s.over = ov at *
              cases ov with
              | true =>
                replace hov := Lib.hid hov
                have hfin : fin (auS xs) = ((0, 0, 0, 0), 9) := hauto.out 9 (by omega) (by rw [hstep.out, if_neg (by omega), if_pos rfl])
                have hz := Lib.hid (hC.out.put 0 0 0 0)
                have hBz := Lib.hid ((((hB.out.setCell (p := ⟨w.heap.size, 0, none⟩) (Nat.le_refl _) (.int .i64 0)).setCell (p := ⟨w.heap.size, 1, none⟩) (Nat.le_refl _) (.int .i64 0)).setCell (p := ⟨w.heap.size, 2, none⟩) (Nat.le_refl _) (.int .i64 0)).setCell (p := ⟨w.heap.size, 3, none⟩) (Nat.le_refl _) (.int .i64 0))
                replace hfin := Lib.hid hfin
                go_wp2_with fail
                refine HO.out.mono ?_
                rintro e w' ⟨rfl, rfl⟩
                go_wp2_with fail
                generalize (((W1.setCell ⟨w.heap.size, 0, none⟩ (.int .i64 0)).setCell ⟨w.heap.size, 1, none⟩ (.int .i64 0)).setCell ⟨w.heap.size, 2, none⟩ (.int .i64 0)).setCell ⟨w.heap.size, 3, none⟩ (.int .i64 0) = W5 at *
                obtain ⟨k0, k1, k2, k3⟩ := hz.out.cells
                exact bodyPost_ret (v := .tuple #[.agg #[.int .i64 0, .int .i64 0, .int .i64 0, .int .i64 0], .int .i64 9]) (by simp [results, Try.results5, go_sem, k0, k1, k2, k3]) rfl ⟨by rw [hfin.out]; rfl, hBz.out⟩
              | false =>
                have HC2 := HC.out (by omega) (by omega)
                have hs2 : auStep (0, s) cc = match s.call cc with
                  | none => (8, s)
                  | some s => (0, s) := by rw [hstep.out, if_neg (by omega), if_neg (by simp)]
                rcases hcs : s.call cc with _ | t
                · have HC3 : Hid (Calls Try.prog 12 #[.pointer (some ⟨w.heap.size + 1, 0, none⟩), .int .i64 cc] W1 fun e w' => e = .returned (.bool false) ∧ Below (w.heap.size + 1) W1 w') := by
                    refine HC2.mono fun e w' h => ?_
                    unfold CallPost at h; rw [hcs] at h; exact h
                  rw [hcs] at hs2
                  clear HC HC2
                  replace hs2 := Lib.hid hs2; replace hcs := Lib.hid hcs; replace hov := Lib.hid hov
                  go_wp2_with fail
                  refine HO.out.mono ?_
                  rintro e w' ⟨rfl, rfl⟩
                  go_wp2_with fail
                  refine HC3.out.mono ?_
                  rintro e W2 ⟨rfl, hB2⟩
                  have hC' := hC.out.below hB2 (by omega)
                  have hB' := hB.out.trans (hB2.mono (by omega))
                  replace hC := Lib.hid hC'; replace hB := Lib.hid hB'
                  clear hC' hB' hB2 z0 z1 z2 z3 y0 y1 y2 y3 hA
                  obtain ⟨z0, z1, z2, z3⟩ := hC.out.cells
                  have y0 := wfree hC.out 0
                  have y1 := wfree hC.out 1
                  have y2 := wfree hC.out 2
                  have y3 := wfree hC.out 3
                  have hfin : fin (auS xs) = ((0, 0, 0, 0), 8) := hauto.out 8 (by omega) hs2.out
                  have hz := Lib.hid (hC.out.put 0 0 0 0)
                  have hBz := Lib.hid ((((hB.out.setCell (p := ⟨w.heap.size, 0, none⟩) (Nat.le_refl _) (.int .i64 0)).setCell (p := ⟨w.heap.size, 1, none⟩) (Nat.le_refl _) (.int .i64 0)).setCell (p := ⟨w.heap.size, 2, none⟩) (Nat.le_refl _) (.int .i64 0)).setCell (p := ⟨w.heap.size, 3, none⟩) (Nat.le_refl _) (.int .i64 0))
                  replace hfin := Lib.hid hfin
                  go_wp2_with fail
                  generalize (((W2.setCell ⟨w.heap.size, 0, none⟩ (.int .i64 0)).setCell ⟨w.heap.size, 1, none⟩ (.int .i64 0)).setCell ⟨w.heap.size, 2, none⟩ (.int .i64 0)).setCell ⟨w.heap.size, 3, none⟩ (.int .i64 0) = W5 at *
                  obtain ⟨k0, k1, k2, k3⟩ := hz.out.cells
                  exact bodyPost_ret (v := .tuple #[.agg #[.int .i64 0, .int .i64 0, .int .i64 0, .int .i64 0], .int .i64 8]) (by simp [results, Try.results5, go_sem, k0, k1, k2, k3]) rfl ⟨by rw [hfin.out]; rfl, hBz.out⟩
                · have HC3 : Hid (Calls Try.prog 12 #[.pointer (some ⟨w.heap.size + 1, 0, none⟩), .int .i64 cc] W1 fun e w' => e = .returned (.bool true) ∧ AuB t (w.heap.size + 1) w' ∧ Below (w.heap.size + 1) W1 w') := by
                    refine HC2.mono fun e w' h => ?_
                    unfold CallPost at h; rw [hcs] at h; exact h
                  rw [hcs] at hs2
                  clear HC HC2
                  replace hs2 := Lib.hid hs2; replace hcs := Lib.hid hcs; replace hov := Lib.hid hov
                  go_wp2_with fail
                  refine HO.out.mono ?_
                  rintro e w' ⟨rfl, rfl⟩
                  go_wp2_with fail
                  refine HC3.out.mono ?_
                  rintro e W2 ⟨rfl, hA2, hB2⟩
                  have hC2 := Lib.hid (hC.out.below hB2 (by omega))
                  have hB3 := Lib.hid (hB.out.trans (hB2.mono (by omega)))
                  replace hA2 := Lib.hid hA2
                  clear hB2 z0 z1 z2 z3 y0 y1 y2 y3 hA
                  go_wp2_with fail
                  have hgk2 := hgk2.out
                  go_roundg (n - (j + 1))
                  case measure => omega
                  case rel => exact ⟨j + 1, t, by omega, rfl, by go_num, by rw [hst.out, hs2.out], hA2.out, hC2.out, hB3.out⟩
        · have hje : xs.take j = xs := List.take_of_length_le (by have := hl.out; omega)
          have hau2 : auS xs = (0, s) := by have := hau.out; rwa [hje] at this
          replace hje := Lib.hid hje
          have hauto : Hid (fin (auS xs) = if s.over = false then ((0, 0, 0, 0), 13) else if s.bid < 0 then ((0, 0, 0, 0), 10) else ((s.bid / 5 + 1, s.bid % 5, s.doubled, decl s), 0)) := by
            show _ = _; rw [hau2]; rfl
          obtain ⟨z0, z1, z2, z3⟩ := hC.cells
          have y0 := wfree hC 0
          have y1 := wfree hC 1
          have y2 := wfree hC 2
          have y3 := wfree hC 3
          have d0 := hA.c0
          replace hC := Lib.hid hC; replace hB := Lib.hid hB; replace hau2 := Lib.hid hau2
          generalize hov : s.over = ov at *
          cases ov with
          | false =>
            replace hov := Lib.hid hov; replace hA := Lib.hid hA
            have hfin : fin (auS xs) = ((0, 0, 0, 0), 13) := by rw [hauto.out, if_pos rfl]
            have hz := Lib.hid (hC.out.put 0 0 0 0)
            have hBz := Lib.hid ((((hB.out.setCell (p := ⟨w.heap.size, 0, none⟩) (Nat.le_refl _) (.int .i64 0)).setCell (p := ⟨w.heap.size, 1, none⟩) (Nat.le_refl _) (.int .i64 0)).setCell (p := ⟨w.heap.size, 2, none⟩) (Nat.le_refl _) (.int .i64 0)).setCell (p := ⟨w.heap.size, 3, none⟩) (Nat.le_refl _) (.int .i64 0))
            replace hfin := Lib.hid hfin
            go_wp2_with fail
            refine HO.out.mono ?_
            rintro e w' ⟨rfl, rfl⟩
            go_wp2_with fail
            generalize (((W1.setCell ⟨w.heap.size, 0, none⟩ (.int .i64 0)).setCell ⟨w.heap.size, 1, none⟩ (.int .i64 0)).setCell ⟨w.heap.size, 2, none⟩ (.int .i64 0)).setCell ⟨w.heap.size, 3, none⟩ (.int .i64 0) = W5 at *
            obtain ⟨k0, k1, k2, k3⟩ := hz.out.cells
            exact bodyPost_ret (v := .tuple #[.agg #[.int .i64 0, .int .i64 0, .int .i64 0, .int .i64 0], .int .i64 13]) (by simp [results, Try.results5, go_sem, k0, k1, k2, k3]) rfl ⟨by rw [hfin.out]; rfl, hBz.out⟩
          | true =>
            replace hov := Lib.hid hov
            by_cases hbn : s.bid < 0
            · replace hA := Lib.hid hA
              have hfin : fin (auS xs) = ((0, 0, 0, 0), 10) := by rw [hauto.out, if_neg (by simp), if_pos hbn]
              have hz := Lib.hid (hC.out.put 0 0 0 0)
              have hBz := Lib.hid ((((hB.out.setCell (p := ⟨w.heap.size, 0, none⟩) (Nat.le_refl _) (.int .i64 0)).setCell (p := ⟨w.heap.size, 1, none⟩) (Nat.le_refl _) (.int .i64 0)).setCell (p := ⟨w.heap.size, 2, none⟩) (Nat.le_refl _) (.int .i64 0)).setCell (p := ⟨w.heap.size, 3, none⟩) (Nat.le_refl _) (.int .i64 0))
              replace hfin := Lib.hid hfin
              go_wp2_with fail
              refine HO.out.mono ?_
              rintro e w' ⟨rfl, rfl⟩
              go_wp2_with fail
              generalize (((W1.setCell ⟨w.heap.size, 0, none⟩ (.int .i64 0)).setCell ⟨w.heap.size, 1, none⟩ (.int .i64 0)).setCell ⟨w.heap.size, 2, none⟩ (.int .i64 0)).setCell ⟨w.heap.size, 3, none⟩ (.int .i64 0) = W5 at *
              obtain ⟨k0, k1, k2, k3⟩ := hz.out.cells
              exact bodyPost_ret (v := .tuple #[.agg #[.int .i64 0, .int .i64 0, .int .i64 0, .int .i64 0], .int .i64 10]) (by simp [results, Try.results5, go_sem, k0, k1, k2, k3]) rfl ⟨by rw [hfin.out]; rfl, hBz.out⟩
            · obtain ⟨bn, hbb⟩ : ∃ bn : Nat, s.bid = bn := ⟨s.bid.toNat, by omega⟩
              have hdecl : Hid (decl s = s.first[s.bidder % 2 * 5 + bn % 5]?.getD 0) := by
                show _ = _; unfold decl; rw [hbb]
                have : ((bn : Int) % 5).toNat = bn % 5 := by omega
                rw [this]
              have hfin : Hid (fin (auS xs) = (((bn : Int) / 5 + 1, (bn : Int) % 5, s.doubled, s.first[s.bidder % 2 * 5 + bn % 5]?.getD 0), 0)) := by
                show _ = _; rw [hauto.out, if_neg (by simp), if_neg hbn, hdecl.out, hbb]
              have d1 := hA.c1
              have d2 := hA.c2
              have d5 := hA.c5 (s.bidder % 2 * 5 + bn % 5) (by omega)
              rw [show 5 + (s.bidder % 2 * 5 + bn % 5) = 5 + s.bidder % 2 * 5 + bn % 5 by omega] at d5
              have hb34 := hinv.b2
              have hbd := hinv.bd
              have hand := and2 s.bidder (by omega)
              rw [hbb] at d0 hbn hb34
              replace hbb := Lib.hid hbb; replace hA := Lib.hid hA
              generalize s.first[s.bidder % 2 * 5 + bn % 5]?.getD 0 = fv at *
              generalize s.bidder = bdr at *
              generalize s.doubled = dbl at *
              go_wp2_with fail
              refine HO.out.mono ?_
              rintro e w' ⟨rfl, rfl⟩
              go_wp2_with fail
              obtain ⟨o, ho⟩ : ∃ o, bdr % 2 = o := ⟨_, rfl⟩
              have j1 : (0 : Int) ≤ (o : Int) := by omega
              have j2 : (o : Int) < 2 := by omega
              rw [ho] at hand d5
              replace ho := Lib.hid ho
              obtain ⟨m5, hm5e⟩ : ∃ m5 : Nat, bn % 5 = m5 := ⟨_, rfl⟩
              have hm5 : (bn : Int).tmod 5 = (m5 : Int) := by rw [Int.tmod_eq_emod_of_nonneg (by omega)]; omega
              have hq5 : (bn : Int).tdiv 5 = (bn : Int) / 5 := Int.tdiv_eq_ediv_of_nonneg (by omega)
              have hw1 : IntKind.i64.wrap ((bn : Int) / 5) = (bn : Int) / 5 := IntWalk.i64_in _ (by omega)
              have hw2 : IntKind.i64.wrap ((bn : Int) / 5 + 1) = (bn : Int) / 5 + 1 := IntWalk.i64_in _ (by omega)
              have hm5f : Hid ((bn : Int) % 5 = (m5 : Int)) := by show _ = _; omega
              have j3 : (0 : Int) ≤ (m5 : Int) := by omega
              have j4 : (m5 : Int) < 5 := by omega
              rw [hm5e] at d5
              replace hm5e := Lib.hid hm5e
              have hz := Lib.hid (hC.out.put ((bn : Int) / 5 + 1) (m5 : Int) dbl fv)
              go_region_held3 (fun w' => w'.cell? ⟨w.heap.size + 1, 0, none⟩ = some (.int .i64 bn) ∧ w'.cell? ⟨w.heap.size + 1, 1, none⟩ = some (.int .i64 bdr) ∧ w'.cell? ⟨w.heap.size + 1, 2, none⟩ = some (.int .i64 dbl) ∧ w'.cell? ⟨w.heap.size + 1, 5 + o * 5 + m5, none⟩ = some (.int .i64 fv)) (go_keep) (fail)
              go_wp2_with fail
              have hBz := Lib.hid (((((hB.out.setCell (p := ⟨w.heap.size, 0, none⟩) (Nat.le_refl _) (.int .i64 ((bn : Int) / 5 + 1))).setCell (p := ⟨w.heap.size, 1, none⟩) (Nat.le_refl _) (.int .i64 (m5 : Int))).setCell (p := ⟨w.heap.size, 2, none⟩) (Nat.le_refl _) (.int .i64 dbl)).setCell (p := ⟨w.heap.size, 3, none⟩) (Nat.le_refl _) (.int .i64 fv)).drew)
              generalize (((W1.setCell ⟨w.heap.size, 0, none⟩ (.int .i64 ((bn : Int) / 5 + 1))).setCell ⟨w.heap.size, 1, none⟩ (.int .i64 (m5 : Int))).setCell ⟨w.heap.size, 2, none⟩ (.int .i64 dbl)).setCell ⟨w.heap.size, 3, none⟩ (.int .i64 fv) = W5 at *
              obtain ⟨k0, k1, k2, k3⟩ := hz.out.cells
              exact bodyPost_ret (v := .tuple #[.agg #[.int .i64 ((bn : Int) / 5 + 1), .int .i64 (m5 : Int), .int .i64 dbl, .int .i64 fv], .int .i64 0]) (by simp [results, Try.results5, go_sem, k0, k1, k2, k3]) rfl ⟨by rw [hfin.out, hm5f.out]; rfl, hBz.out⟩
end Go.Proofs.Ytilgjmabfjhojaa
