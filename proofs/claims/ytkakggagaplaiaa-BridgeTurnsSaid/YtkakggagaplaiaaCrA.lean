/- What crib.pip, crib.points, crib.fifteens and crib.pairs compute; conditions: cards below 52, five of them. -/
import Derived.Test.YtkakggagaplaiaaCrP
import Derived.Test.YtkakggagaplaiaaSlQ
namespace Go.Proofs.Ytkakggagaplaiaa
open Go.RowKit

theorem pip_any (x : Nat) (w : World) (h : x < 1000) : Calls Try.prog 105 #[.int .i64 x] w fun e w' => e = .returned (.int .i64 (pipN x : Nat)) ∧ w = w' := by
  obtain ⟨R, hR⟩ : ∃ R, R = pipN x := ⟨_, rfl⟩
  rw [← hR]
  unfold pipN at hR
  have t1' : (x : Int) / 4 = ((x / 4 : Nat) : Int) := by push_cast; rfl
  have t1 : (x : Int).tdiv 4 = ((x / 4 : Nat) : Int) := by rw [Int.tdiv_eq_ediv_of_nonneg (by omega)]; exact t1'
  have hb : x / 4 < 1000 := by omega
  generalize x / 4 = r at *
  have t2' : ((r : Int) + 1) % 13 = (((r + 1) % 13 : Nat) : Int) := by push_cast; rfl
  have t2 : ((r : Int) + 1).tmod 13 = (((r + 1) % 13 : Nat) : Int) := by rw [Int.tmod_eq_emod_of_nonneg (by omega)]; exact t2'
  have hb2 : (r + 1) % 13 < 13 := Nat.mod_lt _ (by omega)
  generalize (r + 1) % 13 = q at *
  have hRe : Hid ((R : Int) = (q : Int) + 1) := by show _ = _; rw [hR]; push_cast; rfl
  clear hR
  go_enter Try.func105, Try.ntmps105
  go_wp2
  go_ret
  exact ⟨ret_int hRe.out.symm, rfl⟩
theorem points_any (x : Nat) (w : World) (h : x < 1000) : Calls Try.prog 104 #[.int .i64 x] w fun e w' => e = .returned (.int .i64 (ptN x : Nat)) ∧ w = w' := by
  have HP := Lib.hid (pip_any x w h)
  have hm : min (pipN x : Int) 10 = (ptN x : Nat) := by unfold ptN; omega
  have hm2 : Hid (min (pipN x) 10 = ptN x) := rfl
  generalize ptN x = R at *
  generalize pipN x = q at *
  go_enter Try.func104, Try.ntmps104
  go_wp2_with fail
  refine HP.out.mono ?_
  rintro e w' ⟨rfl, rfl⟩
  go_wp2_with fail
  go_ret
  first
  | exact ⟨rfl, rfl⟩
  | exact ⟨ret_int (by have := hm2.out; omega), rfl⟩
set_option maxRecDepth 20000 in
set_option maxHeartbeats 4000000 in
theorem fifteens_any (p : Option Addr) (c : Nat) (cr : Bool) (l : List Nat) (w : World) (hx : IntsIn w p 5 (asI l)) (hl : ∀ i, i < 5 → st l i < 52) :
    Calls Try.prog 84 #[.slice p 5 c, .bool cr] w fun e w' => e = .returned (.int .i64 (2 * cS l 5 15 32 : Nat)) ∧ ∃ r, w' = w.drewN r := by
  obtain ⟨R, hR⟩ : ∃ R, R = 2 * cS l 5 15 32 := ⟨_, rfl⟩
  rw [← hR]
  replace hR := Lib.hid hR
  obtain ⟨bb, oo, rfl, _, hcc⟩ := hx.at (by omega)
  have hcell : Hid (∀ j, j < 5 → w.cell? ⟨bb, oo + j, none⟩ = some (.int .i64 (st l j : Nat))) := fun j hj => by rw [hcc j hj, asI_at]
  replace hl := Lib.hid hl
  clear hx hcc
  go_enter Try.func84, Try.ntmps84
  go_wp2_with fail
  go_loopg [5, 13] 32 (fun gk nv iv W' => ∃ s r A : Nat, s ≤ 32 ∧ gk = 32 - s ∧ iv = .int .i64 s ∧ nv = .int .i64 A ∧ Hid (A = 2 * cS l 5 15 s) ∧ w.drewN r = W')
  case atStart => exact ⟨0, 0, 0, by omega, by omega, rfl, rfl, Lib.hid rfl, rfl⟩
  case round =>
    obtain ⟨s, r, A, hs, hgk, rfl, rfl, hA, rfl⟩ := hrel
    replace hgk := Lib.hid hgk
    have hAb : A ≤ 64 := by have := cS_le l 5 15 s; rw [hA.out]; omega
    by_cases hlt : s < 32
    · go_wp2_with fail
      go_loopg [7, 18] 5 (fun gk2 sv jv W' => ∃ j r2 T : Nat, j ≤ 5 ∧ gk2 = 5 - j ∧ jv = .int .i64 j ∧ sv = .int .i64 T ∧ Hid (T = wS l s j) ∧ w.drewN r2 = W')
      case atStart => exact ⟨0, r, 0, by omega, by omega, rfl, rfl, Lib.hid rfl, rfl⟩
      case round =>
        obtain ⟨j, r2, T, hj, hgk2, rfl, rfl, hT, rfl⟩ := hrel
        replace hgk2 := Lib.hid hgk2
        have hTb : T ≤ 50 := by have := wS_le l s j; rw [hT.out]; omega
        by_cases hlt2 : j < 5
        · have c0 := hcell.out j hlt2
          have hx52 := hl.out j hlt2
          have hT2 : Hid (T + ptN (st l j) * (s / 2 ^ j % 2) = wS l s (j + 1)) := by show _ = _; rw [hT.out]; rfl
          obtain ⟨x, hxe⟩ : ∃ x, st l j = x := ⟨_, rfl⟩
          rw [hxe] at c0 hx52 hT2
          have HP : Hid (∀ k, Calls Try.prog 104 #[.int .i64 x] (w.drewN k) fun e w' => e = .returned (.int .i64 (ptN x : Nat)) ∧ w.drewN k = w') := fun k => points_any x (w.drewN k) (by omega)
          have hpb := ptN_bd x
          generalize ptN x = P at *
          have hsb : s / 2 ^ j < 100 := Nat.lt_of_le_of_lt (Nat.div_le_self _ _) (by omega)
          have t1 : (s : Int) / 2 ^ j = ((s / 2 ^ j : Nat) : Int) := by push_cast; rfl
          have e1 := and1 (s / 2 ^ j) hsb
          have hb2 : s / 2 ^ j % 2 < 2 := Nat.mod_lt _ (by omega)
          generalize s / 2 ^ j % 2 = B at *
          generalize s / 2 ^ j = S at *
          obtain ⟨PB, hPB⟩ : ∃ PB, P * B = PB := ⟨_, rfl⟩
          have hPBb : PB ≤ 10 := by rw [← hPB]; have : P * B ≤ 10 * 1 := Nat.mul_le_mul hpb.2 (by omega); omega
          rw [hPB] at hT2
          have t2 : (P : Int) * (B : Int) = (PB : Int) := by rw [← hPB]; push_cast; rfl
          have w1 : IntKind.i64.wrap (PB : Int) = PB := IntWalk.i64_in _ (by omega)
          have w2 : IntKind.i64.wrap ((T : Int) + (PB : Int)) = (T : Int) + (PB : Int) := IntWalk.i64_in _ (by omega)
          replace hxe := Lib.hid hxe; replace hPB := Lib.hid hPB
          go_wp2_with fail
          go_quiet ((go_at_call 104; ((with_reducible refine (HP.out _).mono ?_); exact fun _ _ h => ⟨h.1, _, h.2.symm⟩)))
          go_wp2_with fail
          have hgk2 := hgk2.out
          go_roundg (5 - (j + 1))
          case measure => omega
          case rel => exact ⟨j + 1, _, T + PB, by omega, rfl, by go_num, by go_num, hT2, rfl⟩
        · obtain rfl : j = 5 := by omega
          have hc1 : Hid (cS l 5 15 (s + 1) = cS l 5 15 s + if T = 15 then 1 else 0) := by show _ = _; rw [cS, ← hT.out]
          by_cases h15 : T = 15
          · have hA2 : Hid (A + 2 = 2 * cS l 5 15 (s + 1)) := by show _ = _; rw [hc1.out, if_pos h15, hA.out]; omega
            subst h15
            clear hc1
            go_wp2_with fail
            have hgk := hgk.out
            go_roundg (32 - (s + 1))
            case measure => omega
            case rel => exact ⟨s + 1, _, A + 2, by omega, rfl, by go_num, by go_num, hA2, rfl⟩
          · have hA2 : Hid (A = 2 * cS l 5 15 (s + 1)) := by show _ = _; rw [hc1.out, if_neg h15, hA.out]; omega
            have e15 : ((T : Int) == 15) = false := by simp; omega
            clear hc1
            go_wp2_with fail
            have hgk := hgk.out
            go_roundg (32 - (s + 1))
            case measure => omega
            case rel => exact ⟨s + 1, _, A, by omega, rfl, by go_num, by go_num, hA2, rfl⟩
    · obtain rfl : s = 32 := by omega
      have hRA : Hid (R = A) := by show _ = _; rw [hR.out, hA.out]
      go_wp2_with fail
      go_ret
      rw [hRA.out]
      exact ⟨rfl, _, rfl⟩
end Go.Proofs.Ytkakggagaplaiaa
