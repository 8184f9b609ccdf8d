/- What (*four.well).fall and four.far compute; conditions: the board's struct and cells are known, the column is on it. -/
import Derived.Test.YtfoojdkbonmmgaaWon
namespace Go.Proofs.Ytfoojdkbonmmgaa
open Go.RowKit

def fallS (cs : List Int) (W col : Nat) : Nat → Int
  | 0 => -1
  | y + 1 => if cs[y * W + col]?.getD 0 = 0 then ((y * W + col : Nat) : Int) else fallS cs W col y

set_option maxHeartbeats 1000000 in
theorem fall_any (wl g W H k n col : Nat) (cells : List Int) (w : World) (hW : 1 ≤ W) (hW2 : W ≤ 10) (hH : H ≤ 10) (hc : col < W) (hn : Hid (n = W * H)) (hl : Hid (cells.length = n)) (mv : Int)
    (hwl : w.heap[wl]? = some (.cells #[.int .i64 W, .int .i64 H, .slice (some ⟨g, 0, none⟩) n n, .int .i64 k, .int .i64 mv] 41 (0, 0))) (hg : Nums w g 3 cells) :
    Calls Try.prog 13 #[.pointer (some ⟨wl, 0, none⟩), .int .i64 col] w fun e w' => e = .returned (.int .i64 (fallS cells W col H)) ∧ w = w' := by
  have hn100 : n ≤ 100 := by rw [hn.out]; exact Nat.mul_le_mul hW2 hH
  obtain ⟨c0, c1, c2, c3⟩ := wcells hwl
  replace hwl := Lib.hid hwl; replace hg := Lib.hid hg
  go_enter Try.func13, Try.ntmps13
  go_wp2
  go_loopg [5] H (fun kk y W' => ∃ m : Nat, m ≤ H ∧ kk = m ∧ y = .int .i64 ((m : Int) - 1) ∧ fallS cells W col H = fallS cells W col m ∧ w = W')
  case atStart => exact ⟨H, by omega, rfl, rfl, rfl, rfl⟩
  case round =>
    obtain ⟨m, hm, hgk, rfl, hf, rfl⟩ := hrel
    replace hgk := Lib.hid hgk; replace hf := Lib.hid hf
    by_cases h0 : m = 0
    · subst h0
      go_wp2
      go_ret
      exact ⟨ret_int (by rw [hf.out]; rfl), rfl⟩
    · obtain ⟨y, rfl⟩ : ∃ y, m = y + 1 := ⟨m - 1, by omega⟩
      have hlt : y * W + col < n := by
        rw [hn.out, Nat.mul_comm W H]
        calc y * W + col < y * W + W := by omega
          _ = (y + 1) * W := by rw [Nat.add_mul, Nat.one_mul]
          _ ≤ H * W := Nat.mul_le_mul_right _ hm
      have ca := hg.out.cell (i := y * W + col) (by rw [hl.out]; exact hlt)
      have e3 : ((y * W : Nat) : Int) = (y : Int) * W := by simp
      have g1 : (y : Int) * W ≤ 100 := by omega
      have g0 : 0 ≤ (y : Int) * W := by omega
      have g2 : (y : Int) * W + col < n := by omega
      have g3 : ((y : Int) * W + col).toNat = y * W + col := by omega
      have hy : ((y + 1 : Nat) : Int) - 1 = y := by omega
      rw [hy]
      replace e3 := Lib.hid e3; replace hy := Lib.hid hy
      by_cases hz : cells[y * W + col]?.getD 0 = 0
      · have hz1 : (cells[y * W + col]?.getD 0 == 0) = true := by simpa using hz
        have hr : Hid (fallS cells W col H = (y : Int) * W + col) := by
          show _ = _
          rw [hf.out, fallS, if_pos hz]; push_cast; rfl
        clear hz
        go_wp2
        go_ret
        exact ⟨ret_int hr.out.symm, rfl⟩
      · have hz1 : (cells[y * W + col]?.getD 0 == 0) = false := by simpa using hz
        have hr : Hid (fallS cells W col H = fallS cells W col y) := by
          show _ = _
          rw [hf.out, fallS, if_neg hz]
        clear hz
        go_wp2
        have hgk := hgk.out
        go_roundg y
        case measure => omega
        case rel => exact ⟨y, by omega, rfl, by go_num, hr.out, rfl⟩

theorem far_any (x : Nat) (w : World) (h1 : 1 ≤ x) (h2 : x ≤ 10) : Calls Try.prog 11 #[.int .i64 x] w fun e w' => e = .returned (.bool false) ∧ w = w' := by
  go_enter Try.func11, Try.ntmps11
  go_wp2
  go_ret
  exact ⟨ret_bool (by simp; omega), rfl⟩
end Go.Proofs.Ytfoojdkbonmmgaa
