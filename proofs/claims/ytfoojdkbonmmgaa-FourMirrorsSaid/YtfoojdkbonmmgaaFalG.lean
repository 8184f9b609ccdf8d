/- Where a sign falls; conditions: a board of at most 10 by 10 places. -/
import Derived.Test.YtfoojdkbonmmgaaFQl
import Derived.Test.YtfoojdkbonmmgaaWonG
namespace Go.Proofs.Ytfoojdkbonmmgaa
open Go.RowKit

set_option maxHeartbeats 1000000 in
theorem fallG_any (wl g gc W H k n col : Nat) (cs : List Nat) (w : World) (hW : 1 ≤ W) (hW2 : W ≤ 10) (hH : H ≤ 10) (hc : col < W) (hn : Hid (n = W * H)) (mv : Int)
    (hwl : w.heap[wl]? = some (.cells #[.int .i64 W, .int .i64 H, .slice (some ⟨g, 0, none⟩) n gc, .int .i64 k, .int .i64 mv] 41 (0, 0))) (hg : IntsIn w (some ⟨g, 0, none⟩) n (asI cs)) :
    Calls Try.prog 13 #[.pointer (some ⟨wl, 0, none⟩), .int .i64 col] w fun e w' => e = .returned (.int .i64 (fI (fal cs W col H))) ∧ w = w' := by
  have hn100 : n ≤ 100 := by rw [hn.out]; exact Nat.mul_le_mul hW2 hH
  obtain ⟨c0, c1, c2, c3⟩ := wcells hwl
  replace hwl := Lib.hid hwl
  have HG := Lib.hid (fun i (hi : i < n) => (by
    obtain ⟨b, o, e, _, hc⟩ := hg.at (by omega)
    cases e
    have := hc i hi
    rw [Nat.zero_add, asI_at] at this
    exact this : w.cell? ⟨g, i, none⟩ = some (.int .i64 (st cs i : Nat))))
  clear hg
  go_enter Try.func13, Try.ntmps13
  go_wp2
  go_loopg [5] H (fun kk y W' => ∃ m : Nat, m ≤ H ∧ kk = m ∧ y = .int .i64 ((m : Int) - 1) ∧ fal cs W col H = fal cs W col m ∧ w = W')
  case atStart => exact ⟨H, by omega, rfl, rfl, rfl, rfl⟩
  case round =>
    obtain ⟨m, hm, hgk, rfl, hf, rfl⟩ := hrel
    replace hgk := Lib.hid hgk; replace hf := Lib.hid hf
    by_cases h0 : m = 0
    · subst h0
      go_wp2
      go_ret
      exact ⟨ret_int (by rw [hf.out]; rfl), rfl⟩
    · obtain ⟨y, rfl⟩ : ∃ y, m = y + 1 := ⟨m - 1, by omega⟩
      have hlt : y * W + col < n := by
        rw [hn.out, Nat.mul_comm W H]
        calc y * W + col < y * W + W := by omega
          _ = (y + 1) * W := by rw [Nat.add_mul, Nat.one_mul]
          _ ≤ H * W := Nat.mul_le_mul_right _ hm
      have ca := HG.out (y * W + col) hlt
      have hf2 : fal cs W col H = if st cs (y * W + col) = 0 then some (y * W + col) else fal cs W col y := hf.out
      obtain ⟨S, hS⟩ : ∃ S, S = y * W := ⟨_, rfl⟩
      have hSi : (y : Int) * (W : Int) = (S : Int) := by rw [hS]; simp
      rw [← hS] at ca hlt hf2
      obtain ⟨z, hz⟩ : ∃ z, z = S + col := ⟨_, rfl⟩
      have hzi : (S : Int) + (col : Int) = (z : Int) := by omega
      rw [← hz] at ca hlt hf2
      have hy : ((y + 1 : Nat) : Int) - 1 = y := by omega
      rw [hy]
      replace hy := Lib.hid hy; replace hS := Lib.hid hS; replace hz := Lib.hid hz
      have hS100 : (S : Int) ≤ 100 := by have := hz.out; omega
      generalize st cs z = sv at *
      by_cases hz0 : sv = 0
      · subst hz0
        have hr : Hid (fI (fal cs W col H) = (z : Int)) := by
          show _ = _
          rw [hf2, if_pos rfl]; rfl
        clear hf2
        go_wp2
        go_ret
        exact ⟨ret_int hr.out.symm, rfl⟩
      · rw [if_neg hz0] at hf2
        replace hf2 := Lib.hid hf2
        have hzz : ¬ (sv : Int) = 0 := by omega
        have hzd : decide ((sv : Int) = 0) = false := decide_eq_false hzz
        have hzb : ((sv : Int) == 0) = false := by simp; omega
        go_wp2
        have hgk := hgk.out
        go_roundg y
        case measure => omega
        case rel => exact ⟨y, by omega, rfl, by go_num, hf2.out, rfl⟩
end Go.Proofs.Ytfoojdkbonmmgaa
