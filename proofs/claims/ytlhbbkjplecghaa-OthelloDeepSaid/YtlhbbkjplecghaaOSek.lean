/- What othello.seek computes: seekS, whatever bounds it is given; conditions: a board of 1 to 10 by 1 to 10 places whose signs are 0 to 2, who is 1 or 2, bounds from -1000 to 1000. -/
import Derived.Test.YtlhbbkjplecghaaOMov
import Derived.Test.YtlhbbkjplecghaaOPut
import Derived.Lib.MinMax
namespace Go.Proofs.Ytlhbbkjplecghaa
open Go.RowKit

theorem mover_self {s : List Nat} {a b who : Nat} (h0 : moverS s a b who ≠ 0) : moverS s a b (moverS s a b who) = moverS s a b who := by
  rcases mover_pos h0 with ⟨h1, _⟩ | ⟨h1, h2⟩
  · rw [h1, h1]
  · rw [h1]; unfold moverS; rw [if_pos h2]
theorem putS_le (s : List Nat) (a b who p : Nat) (hl : s.length = a * b) (hp : p < a * b) (hw : who ≤ 2) (hs : ∀ j, st s j ≤ 2) : ∀ j, st (putS s a b who p) j ≤ 2 := by
  intro j
  rw [putS_st s a b who p j hl hp]
  have := hs j
  split
  · exact hw
  · split <;> omega
theorem putS_len (s : List Nat) (a b who p : Nat) : (putS s a b who p).length = s.length := by
  unfold putS; rw [setAll_len, List.length_set]
theorem places_lt {s : List Nat} {a b who : Nat} : ∀ {n p : Nat}, p ∈ placesN s a b who n → p < n := by
  intro n p h; exact ((places_mem s a b who n p).1 h).1

set_option maxRecDepth 100000 in
set_option maxHeartbeats 8000000 in
theorem seek_any (n a b : Nat) (ha1 : 1 ≤ a) (ha : a ≤ 10) (hb1 : 1 ≤ b) (hb : b ≤ 10) (hn : n = a * b) : ∀ (f : Nat) (q : Option Addr) (c who deep : Nat) (s : List Nat) (low high : Int) (w : World),
    1 ≤ who → who ≤ 2 → deep ≤ 100 → -1000 ≤ low → low ≤ 1000 → -1000 ≤ high → high ≤ 1000 → Hid (∀ j, st s j ≤ 2) → Hid (2 * deep + 1 + (if moverS s a b who = who then 0 else 1) ≤ f) → Hid (IntsIn w q n (asI s)) →
    ∀ (uI dI lI hI : Int), Hid (uI = who) → Hid (dI = deep) → Hid (lI = low) → Hid (hI = high) →
    Calls Try.prog 17 #[.agg #[.int .i64 a, .int .i64 b, .slice q n c], .int .i64 uI, .int .i64 dI, .int .i64 lI, .int .i64 hI] w fun e w' => e = .returned (.tuple #[.int .i64 (seekS a b f s who deep low high).1, .int .i64 (seekS a b f s who deep low high).2]) ∧ Below w.heap.size w w' := by
  have hn100 : n ≤ 100 := by rw [hn]; exact Nat.mul_le_mul ha hb
  intro f
  induction f with
  | zero => intro q c who deep s low high w _ _ _ _ _ _ _ _ h; exact absurd h.out (by omega)
  | succ f ih =>
    intro q c who deep s low high w hw1 hw2 hd hl1 hl2 hh1 hh2 hs hf hx uI dI lI hI huI hdI hlI hhI
    have huI := huI.out; have hdI := hdI.out; have hlI := hlI.out.symm; have hhI := hhI.out.symm
    subst huI hdI hlI hhI
    have e0 := heap_alloc_new w (.cells #[.int .i64 a, .int .i64 b, .slice q n c] 24)
    have hx0 := Lib.hid (hx.out.alloc (.cells #[.int .i64 a, .int .i64 b, .slice q n c] 24))
    have hB0 := Lib.hid ((Below.refl w.heap.size w).alloc (Nat.le_refl _) (.cells #[.int .i64 a, .int .i64 b, .slice q n c] 24))
    have hsz0 : w.heap.size < (w.alloc (.cells #[.int .i64 a, .int .i64 b, .slice q n c] 24)).heap.size := by simp
    have HM := Lib.hid (mover_any q n c a b who s (w.alloc (.cells #[.int .i64 a, .int .i64 b, .slice q n c] 24)) ha1 ha hb1 hb hn hw1 hw2 hs.out hx0.out)
    have HL := Lib.hid (fun W hx => lead_any q n c a b who s W hn hn100 hw1 hw2 hx hs.out)
    have HS : Hid (seekS a b (f + 1) s who deep low high = if deep = 0 ∨ moverS s a b who = 0 then (leadN s who (a * b), -1)
      else if moverS s a b who ≠ who then (-(seekS a b f s (moverS s a b who) deep (-high) (-low)).1, -1)
      else seekL (fun p lo hi => (seekS a b f (putS s a b who p) (3 - who) (deep - 1) lo hi).1) low high (placesN s a b who (a * b)) (-1000, -1)) := rfl
    have hMp : Hid (moverS s a b who ≠ 0 → (moverS s a b who = who ∧ placesN s a b who (a * b) ≠ []) ∨ (moverS s a b who = 3 - who ∧ placesN s a b (3 - who) (a * b) ≠ [])) := fun h => mover_pos h
    have hMs : Hid (moverS s a b who ≠ 0 → moverS s a b (moverS s a b who) = moverS s a b who) := fun h => mover_self h
    obtain ⟨S, hSd⟩ : ∃ S, S = seekS a b (f + 1) s who deep low high := ⟨_, rfl⟩
    rw [← hSd] at HS ⊢
    generalize moverS s a b who = M at *
    have hM2 : M ≤ 2 := by
      by_cases h : M = 0
      · omega
      · rcases hMp.out h with h | h <;> omega
    replace e0 := Lib.hid e0; replace hn := Lib.hid hn; replace hSd := Lib.hid hSd
    clear hx
    have d0 : (w.alloc (.cells #[.int .i64 a, .int .i64 b, .slice q n c] 24)).cell? ⟨w.heap.size, 0, none⟩ = some (.int .i64 (a : Int)) := wcell (cs := [_, _, _]) e0.out 0
    have d1 : (w.alloc (.cells #[.int .i64 a, .int .i64 b, .slice q n c] 24)).cell? ⟨w.heap.size, 1, none⟩ = some (.int .i64 (b : Int)) := wcell (cs := [_, _, _]) e0.out 1
    have d2 : (w.alloc (.cells #[.int .i64 a, .int .i64 b, .slice q n c] 24)).cell? ⟨w.heap.size, 2, none⟩ = some (.slice q n c) := wcell (cs := [_, _, _]) e0.out 2
    go_enter Try.func17, Try.ntmps17
    go_wp2_with fail
    generalize (w.alloc (.cells #[.int .i64 a, .int .i64 b, .slice q n c] 24)) = W at *
    refine HM.out.mono ?_
    rintro e w1 ⟨rfl, hB⟩
    have hB1 := Lib.hid (hB0.out.trans (hB.mono hB0.out.size))
    have e1 := Lib.hid ((hB.block _ hsz0).trans e0.out)
    have hx1 := Lib.hid (hx0.out.below hB)
    have hsz1 : w.heap.size < w1.heap.size := Nat.lt_of_lt_of_le hsz0 hB.size
    clear d0 d1 d2 HM hB e0 hx0
    have d0 : w1.cell? ⟨w.heap.size, 0, none⟩ = some (.int .i64 (a : Int)) := wcell (cs := [_, _, _]) e1.out 0
    have d1 : w1.cell? ⟨w.heap.size, 1, none⟩ = some (.int .i64 (b : Int)) := wcell (cs := [_, _, _]) e1.out 1
    have d2 : w1.cell? ⟨w.heap.size, 2, none⟩ = some (.slice q n c) := wcell (cs := [_, _, _]) e1.out 2
    by_cases hc1 : deep = 0 ∨ M = 0
    · rw [if_pos hc1] at HS
      by_cases hd0 : deep = 0
      · subst hd0
        have HL1 := Lib.hid (HL.out w1 hx1.out)
        clear ih hc1 HL
        go_wp2_with fail
        refine HL1.out.mono ?_
        rintro e w2 ⟨rfl, hB⟩
        have hB2 := Lib.hid (hB1.out.trans (hB.mono hB1.out.size))
        clear d0 d1 d2 hB hB1
        go_wp2_with fail
        go_ret2
        exact ⟨by rw [HS.out]; rfl, hB2.out⟩
      · have hM0 : M = 0 := by omega
        subst hM0
        have hdz : ((deep : Int) == 0) = false := by simp; omega
        have HL1 := Lib.hid (HL.out w1 hx1.out)
        clear ih hc1 HL
        go_wp2_with fail
        refine HL1.out.mono ?_
        rintro e w2 ⟨rfl, hB⟩
        have hB2 := Lib.hid (hB1.out.trans (hB.mono hB1.out.size))
        clear d0 d1 d2 hB hB1
        go_wp2_with fail
        go_ret2
        exact ⟨by rw [HS.out]; rfl, hB2.out⟩
    · rw [if_neg hc1] at HS
      have hd0 : 0 < deep := by omega
      have hM0 : 0 < M := by omega
      have hdz : ((deep : Int) == 0) = false := by simp; omega
      have hMz : ((M : Int) == 0) = false := by simp; omega
      clear hc1 HL
      have hMp' := hMp.out (by omega)
      have hMs' := Lib.hid (hMs.out (by omega))
      by_cases hMw : M = who
      · subst hMw
        rw [if_neg (by simp)] at HS
        have hP : placesN s a b M n ≠ [] := by
          rw [hn.out]
          rcases hMp' with h | h
          · exact h.2
          · omega
        clear hMp' hMp hMs
        have HP := Lib.hid (places_any q n c a b M s w1 ha1 ha hb1 hb hn.out hw1 hw2 hs.out hx1.out)
        have hPm := Lib.hid (fun p => places_mem s a b M n p)
        have hPl := placesN_len s a b M n
        rw [← hn.out] at HS
        generalize placesN s a b M n = P at *
        replace hP := Lib.hid hP
        have hfd : Hid (2 * deep + 1 ≤ f + 1) := by
          have := hf.out
          rw [if_pos rfl] at this
          exact this
        clear hf
        go_wp2_with fail
        refine HP.out.mono ?_
        rintro e w2 ⟨pP, cP, rfl, hpP, hB⟩
        have hB2 := Lib.hid (hB1.out.trans (hB.mono hB1.out.size))
        have e2 := Lib.hid ((hB.block _ hsz1).trans e1.out)
        have hx2 := Lib.hid (hx1.out.below hB)
        have hsz2 : w.heap.size < w2.heap.size := Nat.lt_of_lt_of_le hsz1 hB.size
        replace hpP := Lib.hid hpP
        clear d0 d1 d2 hB hB1 e1 hx1 hsz1 HP
        go_wp2_with fail
        go_loopg [15, 16, 18, 19, 20, 53] P.length (fun gk v15 v16 v18 v19 v20 v53 W' => ∃ (i : Nat) (x y : Int), i ≤ P.length ∧ gk = P.length - i ∧ v15 = .int .i64 x ∧ v16 = .int .i64 y ∧ v53 = .int .i64 i ∧ -1000 ≤ x ∧ x ≤ 1000 ∧ Below w2.heap.size w2 W' ∧ Hid (S = seekL (fun p lo hi => (seekS a b f (putS s a b M p) (3 - M) (deep - 1) lo hi).1) low high (P.drop i) (x, y)))
        case atStart => exact ⟨0, -1000, -1, by omega, by omega, rfl, rfl, rfl, by omega, by omega, Below.refl _ _, Lib.hid (by rw [List.drop_zero]; exact HS.out)⟩
        case round =>
          obtain ⟨i, x, y, hi, hgk, rfl, rfl, rfl, hx1', hx2', hBr, hS⟩ := hrel
          obtain ⟨W1, rfl⟩ : ∃ W1 : World, W1 = wr := ⟨_, rfl⟩
          replace hgk := Lib.hid hgk
          clear HS
          by_cases hlt : i < P.length
          · have er := (hBr.block _ hsz2).trans e2.out
            have d0 : W1.cell? ⟨w.heap.size, 0, none⟩ = some (.int .i64 (a : Int)) := wcell (cs := [_, _, _]) er 0
            have d1 : W1.cell? ⟨w.heap.size, 1, none⟩ = some (.int .i64 (b : Int)) := wcell (cs := [_, _, _]) er 1
            have d2 : W1.cell? ⟨w.heap.size, 2, none⟩ = some (.slice q n c) := wcell (cs := [_, _, _]) er 2
            have hpr := hpP.out.below hBr
            have hxr := hx2.out.below hBr
            obtain ⟨gb, go, rfl, hgb, hcx⟩ := hpr.at (by omega)
            clear hcx
            have k1 : W1.cell? ⟨gb, go + i, none⟩ = some (.int .i64 (st P i : Nat)) := hpr.cellN hlt
            have hpe : st P i = P[i] := by unfold st; rw [List.getElem?_eq_getElem hlt]; rfl
            have hxm : st P i ∈ P := by rw [hpe]; exact List.getElem_mem hlt
            obtain ⟨hpn, _⟩ := (hPm.out _).1 hxm
            have hdr : P.drop i = st P i :: P.drop (i + 1) := by rw [hpe]; exact List.drop_eq_getElem_cons hlt
            have hS' := hS.out
            rw [hdr, seekL] at hS'
            simp only at hS'
            generalize hpd : st P i = p at *
            have HPut := Lib.hid (put_any q n c a b M p s W1 ha1 ha hb1 hb hn.out hw1 hw2 hpn hs.out hxr)
            have hsl : s.length = a * b := by have := hxr.len; rw [asI_len] at this; rw [← hn.out]; exact this
            have hs2 := Lib.hid (putS_le s a b M p hsl (by rw [← hn.out]; exact hpn) hw2 hs.out)
            have hbd := seek_bd a b (by rw [← hn.out]; exact hn100) f (putS s a b M p) (3 - M) (deep - 1) (-high) (-(max low x)) (by omega) (by omega)
            have hmx1 : -1000 ≤ max low x := by omega
            have hmx2 : max low x ≤ 1000 := by omega
            have hmx : max low x = max low x := rfl
            generalize hmxd : max low x = mx at *
            have IH := Lib.hid (fun (q2 : Option Addr) (c2 : Nat) (w2 : World) (hx : Hid (IntsIn w2 q2 n (asI (putS s a b M p)))) => ih q2 c2 (3 - M) (deep - 1) (putS s a b M p) (-high) (-mx) w2 (by omega) (by omega) (by omega) (by omega) (by omega) (by omega) (by omega) hs2 (Lib.hid (by have := hfd.out; split <;> omega)) hx (3 - (M : Int)) ((deep : Int) - 1) (-high) (-mx) (Lib.hid (by omega)) (Lib.hid (by omega)) (Lib.hid rfl) (Lib.hid rfl))
            generalize (seekS a b f (putS s a b M p) (3 - M) (deep - 1) (-high) (-mx)).1 = N at *
            replace hBr := Lib.hid hBr; replace hpr := Lib.hid hpr; replace hxr := Lib.hid hxr; replace hdr := Lib.hid hdr; replace hpe := Lib.hid hpe; replace hpd := Lib.hid hpd; replace hxm := Lib.hid hxm; replace hS' := Lib.hid hS'; replace hsl := Lib.hid hsl
            clear ih hS er
            go_wp2_with fail
            refine HPut.out.mono ?_
            rintro e w3 ⟨p3, c3, rfl, hx3, _, hB⟩
            have hB3 := Lib.hid (hBr.out.trans (hB.mono hBr.out.size))
            have IH2 := Lib.hid (IH.out p3 c3 w3 (Lib.hid hx3))
            clear d0 d1 d2 k1 HPut hB hBr hpr hxr IH hx3
            go_wp2_with fail
            refine IH2.out.mono ?_
            rintro e w4 ⟨rfl, hB⟩
            have hB4 := Lib.hid (hB3.out.trans (hB.mono hB3.out.size))
            clear hB hB3 IH2
            replace hS' := hS'.out
            by_cases hg : -N > x
            · rw [if_pos hg] at hS'
              have hg' : x < -N := hg
              by_cases h2 : -N ≥ high
              · rw [if_pos h2] at hS'
                have h2' : high ≤ -N := h2
                replace hS' := Lib.hid hS'
                go_wp2_with fail
                go_ret2
                exact ⟨by rw [hS'.out]; rfl, (hB2.out.trans (hB4.out.mono hB2.out.size))⟩
              · rw [if_neg h2] at hS'
                have h2' : ¬ high ≤ -N := h2
                replace hS' := Lib.hid hS'
                go_wp2_with fail
                have hgk := hgk.out
                go_roundg (P.length - (i + 1))
                case measure => omega
                case rel => exact ⟨i + 1, -N, p, by omega, rfl, rfl, rfl, by go_num, by omega, by omega, hB4.out, hS'⟩
            · rw [if_neg hg] at hS'
              have hg' : ¬ x < -N := hg
              by_cases h2 : x ≥ high
              · rw [if_pos h2] at hS'
                have h2' : high ≤ x := h2
                replace hS' := Lib.hid hS'
                go_wp2_with fail
                go_ret2
                exact ⟨by rw [hS'.out]; rfl, (hB2.out.trans (hB4.out.mono hB2.out.size))⟩
              · rw [if_neg h2] at hS'
                have h2' : ¬ high ≤ x := h2
                replace hS' := Lib.hid hS'
                go_wp2_with fail
                have hgk := hgk.out
                go_roundg (P.length - (i + 1))
                case measure => omega
                case rel => exact ⟨i + 1, x, y, by omega, rfl, rfl, rfl, by go_num, by omega, by omega, hB4.out, hS'⟩
          · have hiP : i = P.length := by omega
            subst hiP
            have hS' := hS.out
            rw [List.drop_length, seekL] at hS'
            replace hS' := Lib.hid hS'
            clear hS ih
            go_wp2_with fail
            go_ret2
            exact ⟨by rw [hS'.out]; rfl, (hB2.out.trans (hBr.mono hB2.out.size))⟩
      · rw [if_pos hMw] at HS
        have hMm : M = 3 - who := by
          rcases hMp' with h | h
          · exact absurd h.1 hMw
          · exact h.1
        have hbd := seek_bd a b (by rw [← hn.out]; exact hn100) f s M deep (-high) (-low) (by omega) (by omega)
        have IH := Lib.hid (ih q c M deep s (-high) (-low) w1 (by omega) (by omega) (by omega) (by omega) (by omega) (by omega) (by omega) hs (Lib.hid (by
          have h1 := hf.out
          rw [if_neg hMw] at h1
          rw [hMs'.out, if_pos rfl]; omega)) (Lib.hid hx1.out) (M : Int) (deep : Int) (-high) (-low) (Lib.hid rfl) (Lib.hid rfl) (Lib.hid rfl) (Lib.hid rfl))
        have hne : ((M : Int) != (who : Int)) = true := by simp; omega
        generalize (seekS a b f s M deep (-high) (-low)).1 = N at *
        replace hMp' := Lib.hid hMp'; replace hMw := Lib.hid hMw; replace hMm := Lib.hid hMm
        clear ih hf
        go_wp2_with fail
        refine IH.out.mono ?_
        rintro e w2 ⟨rfl, hB⟩
        have hB2 := Lib.hid (hB1.out.trans (hB.mono hB1.out.size))
        clear d0 d1 d2 hB hB1 IH
        go_wp2_with fail
        go_ret2
        exact ⟨by rw [HS.out]; rfl, hB2.out⟩
end Go.Proofs.Ytlhbbkjplecghaa
