/- What slide's tray tells of from where a stone comes, and what a move makes of it; conditions: a board of 2 or 3 by 2 or 3 places. -/
import Derived.Test.YtkakggagaplaiaaSlC
namespace Go.Proofs.Ytkakggagaplaiaa
open Go.RowKit

def frmI (a b g d : Nat) : Int := match frm a b g d with
  | none => -1
  | some q => q
set_option maxRecDepth 20000 in
set_option maxHeartbeats 8000000 in
theorem from_any (B tb a b n cq g d : Nat) (q : Option Addr) (l : List Nat) (w : World) (ha : 2 ≤ a) (ha3 : a ≤ 3) (hb : 2 ≤ b) (hb3 : b ≤ 3) (hg : g < a * b) (hd : d < 4) (hT : Tray B w tb a b n q cq g l) :
    Calls Try.prog 65 #[.pointer (some ⟨tb, 0, none⟩), .int .i64 d] w fun e w' => e = .returned (.int .i64 (frmI a b g d)) ∧ ∃ r, w' = w.drewN r := by
  have d0 : w.cell? ⟨tb, 0, none⟩ = some (.int .i64 (a : Int)) := wcell (cs := [_, _, _, _]) hT.box 0
  have d1 : w.cell? ⟨tb, 1, none⟩ = some (.int .i64 (b : Int)) := wcell (cs := [_, _, _, _]) hT.box 1
  have d3 : w.cell? ⟨tb, 3, none⟩ = some (.int .i64 (g : Int)) := wcell (cs := [_, _, _, _]) hT.box 3
  clear hT
  obtain ⟨R, hR⟩ : ∃ R, R = frmI a b g d := ⟨_, rfl⟩
  rw [← hR]
  have za : a ≠ 0 := by omega
  have hx := Nat.mod_lt g (show 0 < a by omega)
  have hy : g / a < b := Nat.div_lt_of_lt_mul hg
  have hgd := Nat.div_add_mod g a
  have t1' : (g : Int) / (a : Int) = ((g / a : Nat) : Int) := by push_cast; rfl
  have t1 : (g : Int).tdiv (a : Int) = ((g / a : Nat) : Int) := by rw [Int.tdiv_eq_ediv_of_nonneg (by omega)]; exact t1'
  have t2' : (g : Int) % (a : Int) = ((g % a : Nat) : Int) := by push_cast; rfl
  have t2 : (g : Int).tmod (a : Int) = ((g % a : Nat) : Int) := by rw [Int.tmod_eq_emod_of_nonneg (by omega)]; exact t2'
  unfold frmI frm at hR
  have hm0 : (((g / a : Nat) : Int)) * (a : Int) = ((a * (g / a) : Nat) : Int) := by push_cast; rw [Int.mul_comm]
  have hm1 : (((g / a : Nat) : Int) + 1) * (a : Int) = ((a * (g / a) : Nat) : Int) + a := by rw [Int.add_mul, hm0, Int.one_mul]
  have hm2 : (((g / a : Nat) : Int) - 1) * (a : Int) = ((a * (g / a) : Nat) : Int) - a := by rw [Int.sub_mul, hm0, Int.one_mul]
  generalize hxx : g % a = x at *
  generalize hyy : g / a = y at *
  generalize hYY : a * y = Y at *
  replace hxx := Lib.hid hxx; replace hyy := Lib.hid hyy; replace hYY := Lib.hid hYY; replace hg := Lib.hid hg
  have hYb : Y ≤ 6 := by rw [← hYY.out]; have := Nat.mul_le_mul ha3 (show y ≤ 2 by omega); omega
  have hgb : g ≤ 8 := by omega
  have c2 : ¬ a ≤ x := by omega
  have c3 : ¬ b ≤ y := by omega
  rcases (show d = 0 ∨ d = 1 ∨ d = 2 ∨ d = 3 by omega) with rfl | rfl | rfl | rfl
  · by_cases hc : y + 1 < b
    · have hRe : Hid (R = (g : Int) + a) := by show _ = _; rw [hR, if_pos rfl, if_pos hc]; push_cast; rfl
      have c1 : ¬ b ≤ y + 1 := by omega
      have e1 : ((Y : Int) + (a : Int)) + (x : Int) = (g : Int) + a := by omega
      have w1 : IntKind.i64.wrap ((Y : Int) + (a : Int)) = (Y : Int) + (a : Int) := IntWalk.i64_in _ (by omega)
      have w2 : IntKind.i64.wrap ((g : Int) + (a : Int)) = (g : Int) + (a : Int) := IntWalk.i64_in _ (by omega)
      replace hR := Lib.hid hR
      go_enter Try.func65, Try.ntmps65
      go_wp2_with fail
      go_quiet (fail)
      go_wp2_with fail
      go_ret
      exact ⟨ret_int hRe.out.symm, _, rfl⟩
    · have hRe : Hid (R = -1) := by show _ = _; rw [hR, if_pos rfl, if_neg hc]
      have c1 : b ≤ y + 1 := by omega
      replace hR := Lib.hid hR
      go_enter Try.func65, Try.ntmps65
      go_wp2_with fail
      go_quiet (fail)
      go_wp2_with fail
      go_ret
      exact ⟨ret_int hRe.out.symm, _, rfl⟩
  · cases x with
    | succ x =>
      have hRe : Hid (R = (g : Int) - 1) := by show _ = _; rw [hR, if_neg (by omega), if_pos rfl, if_pos (by omega)]; simp; omega
      have c4 : ¬ a ≤ x := by omega
      have e0 : ((x : Int) + 1) - 1 = (x : Int) := by omega
      have e1 : (Y : Int) + (x : Int) = (g : Int) - 1 := by omega
      have w1 : IntKind.i64.wrap (Y : Int) = (Y : Int) := IntWalk.i64_in _ (by omega)
      have w2 : IntKind.i64.wrap ((g : Int) - 1) = (g : Int) - 1 := IntWalk.i64_in _ (by omega)
      replace hR := Lib.hid hR
      go_enter Try.func65, Try.ntmps65
      go_wp2_with fail
      go_quiet (fail)
      go_wp2_with fail
      go_ret
      exact ⟨ret_int hRe.out.symm, _, rfl⟩
    | zero =>
      have hRe : Hid (R = -1) := by show _ = _; rw [hR, if_neg (by omega), if_pos rfl, if_neg (by omega)]
      replace hR := Lib.hid hR
      go_enter Try.func65, Try.ntmps65
      go_wp2_with fail
      go_quiet (fail)
      go_wp2_with fail
      go_ret
      exact ⟨ret_int hRe.out.symm, _, rfl⟩
  · cases y with
    | succ y =>
      have hYa : a ≤ Y := by rw [← hYY.out]; exact Nat.le_mul_of_pos_right _ (by omega)
      have hRe : Hid (R = (g : Int) - a) := by show _ = _; rw [hR, if_neg (by omega), if_neg (by omega), if_pos rfl, if_pos (by omega)]; show ((g - a : Nat) : Int) = _; omega
      have c4 : ¬ b ≤ y := by omega
      have e0 : ((y : Int) + 1) - 1 = (y : Int) := by omega
      have e2 : (y : Int) * (a : Int) = (Y : Int) - a := by rw [← hm2]; congr 1; omega
      have e1 : (Y : Int) - (a : Int) + (x : Int) = (g : Int) - a := by omega
      have w1 : IntKind.i64.wrap ((Y : Int) - a) = (Y : Int) - a := IntWalk.i64_in _ (by omega)
      have w2 : IntKind.i64.wrap ((g : Int) - a) = (g : Int) - a := IntWalk.i64_in _ (by omega)
      replace hR := Lib.hid hR; replace hm0 := Lib.hid hm0; replace hm1 := Lib.hid hm1; replace hm2 := Lib.hid hm2
      go_enter Try.func65, Try.ntmps65
      go_wp2_with fail
      go_quiet (fail)
      go_wp2_with fail
      go_ret
      exact ⟨ret_int hRe.out.symm, _, rfl⟩
    | zero =>
      have hRe : Hid (R = -1) := by show _ = _; rw [hR, if_neg (by omega), if_neg (by omega), if_pos rfl, if_neg (by omega)]
      replace hR := Lib.hid hR
      go_enter Try.func65, Try.ntmps65
      go_wp2_with fail
      go_quiet (fail)
      go_wp2_with fail
      go_ret
      exact ⟨ret_int hRe.out.symm, _, rfl⟩
  · by_cases hc : x + 1 < a
    · have hRe : Hid (R = (g : Int) + 1) := by show _ = _; rw [hR, if_neg (by omega), if_neg (by omega), if_neg (by omega), if_pos hc]; push_cast; rfl
      have c1 : ¬ a ≤ x + 1 := by omega
      have e1 : (Y : Int) + ((x : Int) + 1) = (g : Int) + 1 := by omega
      have w1 : IntKind.i64.wrap (Y : Int) = (Y : Int) := IntWalk.i64_in _ (by omega)
      have w2 : IntKind.i64.wrap ((g : Int) + 1) = (g : Int) + 1 := IntWalk.i64_in _ (by omega)
      replace hR := Lib.hid hR
      go_enter Try.func65, Try.ntmps65
      go_wp2_with fail
      go_quiet (fail)
      go_wp2_with fail
      go_ret
      exact ⟨ret_int hRe.out.symm, _, rfl⟩
    · have hRe : Hid (R = -1) := by show _ = _; rw [hR, if_neg (by omega), if_neg (by omega), if_neg (by omega), if_neg hc]
      have c1 : a ≤ x + 1 := by omega
      replace hR := Lib.hid hR
      go_enter Try.func65, Try.ntmps65
      go_wp2_with fail
      go_quiet (fail)
      go_wp2_with fail
      go_ret
      exact ⟨ret_int hRe.out.symm, _, rfl⟩
end Go.Proofs.Ytkakggagaplaiaa
