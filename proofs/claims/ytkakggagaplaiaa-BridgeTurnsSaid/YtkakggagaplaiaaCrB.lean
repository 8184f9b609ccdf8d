/- What crib.pairs and crib.flush compute; conditions: five cards below 52. -/
import Derived.Test.YtkakggagaplaiaaCrA
namespace Go.Proofs.Ytkakggagaplaiaa
open Go.RowKit

set_option maxRecDepth 20000 in
set_option maxHeartbeats 4000000 in
theorem pairs_any (p : Option Addr) (c : Nat) (cr : Bool) (l : List Nat) (w : World) (hx : IntsIn w p 5 (asI l)) (hl : ∀ i, i < 5 → st l i < 52) :
    Calls Try.prog 85 #[.slice p 5 c, .bool cr] w fun e w' => e = .returned (.int .i64 (2 * pS l 5 : Nat)) ∧ ∃ r, w' = w.drewN r := by
  obtain ⟨R, hR⟩ : ∃ R, R = 2 * pS l 5 := ⟨_, rfl⟩
  rw [← hR]
  replace hR := Lib.hid hR
  obtain ⟨bb, oo, rfl, _, hcc⟩ := hx.at (by omega)
  have hcell : Hid (∀ j, j < 5 → w.cell? ⟨bb, oo + j, none⟩ = some (.int .i64 (st l j : Nat))) := fun j hj => by rw [hcc j hj, asI_at]
  replace hl := Lib.hid hl
  clear hx hcc
  go_enter Try.func85, Try.ntmps85
  go_wp2_with fail
  go_loopg [5, 10] 5 (fun gk nv iv W' => ∃ i r A : Nat, i ≤ 5 ∧ gk = 5 - i ∧ iv = .int .i64 i ∧ nv = .int .i64 A ∧ Hid (A = 2 * pS l i) ∧ w.drewN r = W')
  case atStart => exact ⟨0, 0, 0, by omega, by omega, rfl, rfl, Lib.hid rfl, rfl⟩
  case round =>
    obtain ⟨i, r, A, hi, hgk, rfl, rfl, hA, rfl⟩ := hrel
    replace hgk := Lib.hid hgk
    have hAb : A ≤ 50 := by have := pS_le l i; have h2 : i * i ≤ 5 * 5 := Nat.mul_le_mul hi hi; rw [hA.out]; omega
    by_cases hlt : i < 5
    · go_wp2_with fail
      go_loopg [5, 14] i (fun gk2 nv jv W' => ∃ j r2 B : Nat, j ≤ i ∧ gk2 = i - j ∧ jv = .int .i64 j ∧ nv = .int .i64 B ∧ Hid (B = A + 2 * eP l i j) ∧ w.drewN r2 = W')
      case atStart => exact ⟨0, r, A, by omega, by omega, rfl, rfl, Lib.hid rfl, rfl⟩
      case round =>
        obtain ⟨j, r2, B, hj, hgk2, rfl, rfl, hB, rfl⟩ := hrel
        replace hgk2 := Lib.hid hgk2
        have hBb : B ≤ 100 := by have := eP_le l i j; rw [hB.out]; omega
        by_cases hlt2 : j < i
        · have c0 := hcell.out i hlt
          have c1 := hcell.out j (by omega)
          have hx52 := hl.out i hlt
          have hy52 := hl.out j (by omega)
          have hB2 : Hid (eP l i (j + 1) = eP l i j + if pipN (st l i) = pipN (st l j) then 1 else 0) := rfl
          generalize st l i = x at *
          generalize st l j = y at *
          have HP : Hid (∀ k, Calls Try.prog 105 #[.int .i64 x] (w.drewN k) fun e w' => e = .returned (.int .i64 (pipN x : Nat)) ∧ w.drewN k = w') := fun k => pip_any x (w.drewN k) (by omega)
          have HQ : Hid (∀ k, Calls Try.prog 105 #[.int .i64 y] (w.drewN k) fun e w' => e = .returned (.int .i64 (pipN y : Nat)) ∧ w.drewN k = w') := fun k => pip_any y (w.drewN k) (by omega)
          generalize pipN x = px at *
          generalize pipN y = py at *
          have i1 : (i : Int) < 5 := by omega
          have i2 : (j : Int) < 5 := by omega
          have i3 : (0 : Int) ≤ (i : Int) := by omega
          have i4 : (0 : Int) ≤ (j : Int) := by omega
          by_cases hpe : px = py
          · have hB3 : Hid (B + 2 = A + 2 * eP l i (j + 1)) := by show _ = _; rw [hB2.out, if_pos hpe, hB.out]; omega
            subst hpe
            clear hB2
            go_wp2_with fail
            go_quiet ((go_at_call 105; first | ((with_reducible refine (HP.out _).mono ?_); exact fun _ _ h => ⟨h.1, _, h.2.symm⟩) | ((with_reducible refine (HQ.out _).mono ?_); exact fun _ _ h => ⟨h.1, _, h.2.symm⟩)))
            go_wp2_with fail
            have hgk2 := hgk2.out
            go_roundg (i - (j + 1))
            case measure => omega
            case rel => exact ⟨j + 1, _, B + 2, by omega, rfl, by go_num, by go_num, hB3, rfl⟩
          · have hB3 : Hid (B = A + 2 * eP l i (j + 1)) := by show _ = _; rw [hB2.out, if_neg hpe, hB.out]; omega
            have eb : ((px : Int) == (py : Int)) = false := by simp; omega
            clear hB2
            go_wp2_with fail
            go_quiet ((go_at_call 105; first | ((with_reducible refine (HP.out _).mono ?_); exact fun _ _ h => ⟨h.1, _, h.2.symm⟩) | ((with_reducible refine (HQ.out _).mono ?_); exact fun _ _ h => ⟨h.1, _, h.2.symm⟩)))
            go_wp2_with fail
            have hgk2 := hgk2.out
            go_roundg (i - (j + 1))
            case measure => omega
            case rel => exact ⟨j + 1, _, B, by omega, rfl, by go_num, by go_num, hB3, rfl⟩
        · obtain rfl : j = i := by omega
          have hA2 : Hid (B = 2 * pS l (j + 1)) := by show _ = _; rw [hB.out, hA.out, pS]; omega
          go_wp2_with fail
          have hgk := hgk.out
          go_roundg (5 - (j + 1))
          case measure => omega
          case rel => exact ⟨j + 1, _, B, by omega, rfl, by go_num, rfl, hA2, rfl⟩
    · obtain rfl : i = 5 := by omega
      have hRA : Hid (R = A) := by show _ = _; rw [hR.out, hA.out]
      go_wp2_with fail
      go_ret
      rw [hRA.out]
      exact ⟨rfl, _, rfl⟩
set_option maxRecDepth 20000 in
set_option maxHeartbeats 4000000 in
theorem flush_any (p : Option Addr) (c : Nat) (cr : Bool) (l : List Nat) (w : World) (hc : 5 ≤ c) (hx : IntsIn w p 5 (asI l)) (hl : ∀ i, i < 5 → st l i < 52) :
    Calls Try.prog 87 #[.slice p 5 c, .bool cr] w fun e w' => e = .returned (.int .i64 (flS l cr : Nat)) ∧ w = w' := by
  obtain ⟨R, hR⟩ : ∃ R, R = flS l cr := ⟨_, rfl⟩
  rw [← hR]
  obtain ⟨bb, oo, rfl, _, hcc⟩ := hx.at (by omega)
  have hcell : Hid (∀ j, j < 5 → w.cell? ⟨bb, oo + j, none⟩ = some (.int .i64 (st l j : Nat))) := fun j hj => by rw [hcc j hj, asI_at]
  have c0 : w.cell? ⟨bb, oo, none⟩ = some (.int .i64 (st l 0 : Nat)) := hcell.out 0 (by omega)
  have c4 := hcell.out 4 (by omega)
  have b0 := hl 0 (by omega)
  have b4 := hl 4 (by omega)
  replace hl := Lib.hid hl
  clear hx hcc
  have hmod : ∀ x : Nat, (x : Int) % 4 = ((x % 4 : Nat) : Int) := fun x => by push_cast; rfl
  have hmod2 : ∀ x : Nat, (x : Int).tmod 4 = ((x % 4 : Nat) : Int) := fun x => by rw [Int.tmod_eq_emod_of_nonneg (by omega)]; exact hmod x
  have q0 := hmod2 (st l 0)
  have q4 := hmod2 (st l 4)
  have q0' := hmod (st l 0)
  have q4' := hmod (st l 4)
  obtain ⟨S, hS⟩ : ∃ S, st l 0 % 4 = S := ⟨_, rfl⟩
  obtain ⟨F, hF⟩ : ∃ F, st l 4 % 4 = F := ⟨_, rfl⟩
  have hRt : Hid ((∀ j, 1 ≤ j → j < 4 → st l j % 4 = S) → R = if F = S then 5 else if cr then 0 else 4) := fun hall => by
    rw [hR]
    unfold flS fl4
    rw [hS, hF, if_neg (by simp [hall 1 (by omega) (by omega), hall 2 (by omega) (by omega), hall 3 (by omega) (by omega)])]
  have hRf : Hid (∀ j, 1 ≤ j → j < 4 → st l j % 4 ≠ S → R = 0) := fun j h1 h2 hne => by
    rw [hR]
    unfold flS fl4
    rw [hS, hF, if_pos]
    rw [Bool.eq_false_iff]
    intro hh
    simp only [Bool.and_eq_true, decide_eq_true_eq] at hh
    apply hne
    rcases (show j = 1 ∨ j = 2 ∨ j = 3 by omega) with rfl | rfl | rfl
    · exact hh.1.1
    · exact hh.1.2
    · exact hh.2
  rw [hS] at q0 q0'
  rw [hF] at q4 q4'
  generalize st l 0 = x0 at *
  generalize st l 4 = x4 at *
  replace hS := Lib.hid hS; replace hF := Lib.hid hF; replace hR := Lib.hid hR; replace hmod := Lib.hid hmod; replace hmod2 := Lib.hid hmod2
  have i1 : (4 : Int) ≤ (c : Int) := by omega
  have i2 : ¬ c = 1 := by omega
  go_enter Try.func87, Try.ntmps87
  go_wp2_with fail
  go_loopg [15] 3 (fun gk iv W' => ∃ j : Nat, j ≤ 3 ∧ gk = 3 - j ∧ iv = .int .i64 j ∧ Hid (∀ t, 1 ≤ t → t < j + 1 → st l t % 4 = S) ∧ w = W')
  case atStart => exact ⟨0, by omega, by omega, rfl, fun t h1 h2 => absurd h2 (by omega), rfl⟩
  case round =>
    obtain ⟨j, hj, hgk, rfl, hall, rfl⟩ := hrel
    replace hgk := Lib.hid hgk
    by_cases hlt : j < 3
    · have c1 := hcell.out (1 + j) (by omega)
      have r1 := hmod2.out (st l (1 + j))
      have r1' := hmod.out (st l (1 + j))
      obtain ⟨T, hT⟩ : ∃ T, st l (1 + j) % 4 = T := ⟨_, rfl⟩
      rw [hT] at r1 r1'
      have c1' : w.cell? ⟨bb, oo + 1 + j, none⟩ = some (.int .i64 (st l (1 + j) : Nat)) := by rw [Nat.add_assoc]; exact c1
      obtain ⟨y, hy⟩ : ∃ y, st l (1 + j) = y := ⟨_, rfl⟩
      rw [hy] at c1' r1 r1'
      by_cases hTS : T = S
      · have hall2 : Hid (∀ t, 1 ≤ t → t < j + 1 + 1 → st l t % 4 = S) := fun t h1 h2 => by
          by_cases e : t = 1 + j
          · rw [e, hT, hTS]
          · exact hall.out t h1 (by omega)
        subst hTS
        replace hT := Lib.hid hT; replace hy := Lib.hid hy
        clear c1
        go_wp2_with fail
        have hgk := hgk.out
        go_roundg (3 - (j + 1))
        case measure => omega
        case rel => exact ⟨j + 1, by omega, rfl, by go_num, hall2, rfl⟩
      · have hR0 : Hid (R = 0) := hRf.out (1 + j) (by omega) (by omega) (by rw [hT]; exact hTS)
        have eb : ((T : Int) != (S : Int)) = true := by simp; omega
        replace hT := Lib.hid hT; replace hy := Lib.hid hy
        clear c1
        go_wp2_with fail
        go_ret
        rw [hR0.out]
        exact ⟨rfl, rfl⟩
    · obtain rfl : j = 3 := by omega
      have hRe := hRt.out fun t h1 h2 => hall.out t h1 (by omega)
      by_cases hFS : F = S
      · have hRe2 : Hid (R = 5) := by show _ = _; rw [hRe, if_pos hFS]
        subst hFS
        clear hRe
        go_wp2_with fail
        go_ret
        rw [hRe2.out]
        exact ⟨rfl, rfl⟩
      · have eb : ((F : Int) == (S : Int)) = false := by simp; omega
        rw [if_neg hFS] at hRe
        cases cr with
        | true =>
          have hRe2 : Hid (R = 0) := hRe
          clear hRe
          go_wp2_with fail
          go_ret
          rw [hRe2.out]
          exact ⟨rfl, rfl⟩
        | false =>
          have hRe2 : Hid (R = 4) := hRe
          clear hRe
          go_wp2_with fail
          go_ret
          rw [hRe2.out]
          exact ⟨rfl, rfl⟩
end Go.Proofs.Ytkakggagaplaiaa
