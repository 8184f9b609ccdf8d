/- What magic.Make computes at 1, 3 and 4; no conditions. -/
import Derived.Test.YtbfdhegglaaghaaMKind
namespace Go.Proofs.Ytbfdhegglaaghaa
open Go.RowKit

theorem int23 : IntT Try.prog 23 3 := ⟨Try.underlying23, by kernel_rfl⟩
theorem dbl_set (j : Nat) (h : j < 16) : (dblN 4 j).set j (dbl 4 j) = dblN 4 (j + 1) := by
  have : ∀ j, j < 16 → (dblN 4 j).set j (dbl 4 j) = dblN 4 (j + 1) := by decide
  exact this j h
theorem dbl_len (j : Nat) (h : j ≤ 16) : (dblN 4 j).length = 16 := by simp [dblN]; omega

set_option maxHeartbeats 4000000 in
theorem double4 (w : World) : Calls Try.prog 12 #[.int .i64 4] w fun e w' => e = .returned (.slice (some ⟨w.heap.size, 0, none⟩) 16 16) ∧ Nums w' w.heap.size 3 (asI (dblN 4 16)) ∧ Below w.heap.size w w' := by
  go_enter Try.func12, Try.ntmps12
  go_wp2_with (refine wp_make int23 w w.heap.size rfl rfl _ _ rfl .i64 .i64 16 16 16 rfl rfl rfl rfl (by omega) ?_; intro W hN hB hz)
  have hN0 : Hid (Nums W w.heap.size 3 (asI (dblN 4 0))) := hN
  replace hB := Lib.hid hB
  clear hN
  go_loopg [13] 16 (fun gk jv W' => ∃ j : Nat, j ≤ 16 ∧ gk = 16 - j ∧ jv = .int .i64 j ∧ Nums W' w.heap.size 3 (asI (dblN 4 j)) ∧ Below w.heap.size w W')
  case atStart => exact ⟨0, by omega, by omega, rfl, hN0.out, hB.out⟩
  case round =>
    clear hN0 hB hz
    obtain ⟨j, hj, hgk, rfl, hN, hB⟩ := hrel
    obtain ⟨W1, rfl⟩ : ∃ W1 : World, W1 = wr := ⟨_, rfl⟩
    replace hgk := Lib.hid hgk
    by_cases hlt : j < 16
    · have hlen := dbl_len j hj
      have d0 := hN.cell (i := j) (by rw [asI_len]; omega)
      have f0 := hN.free j
      obtain ⟨xm, hxm⟩ : ∃ xm, j % 4 % 4 = xm := ⟨_, rfl⟩
      obtain ⟨ym, hym⟩ : ∃ ym, j / 4 % 4 = ym := ⟨_, rfl⟩
      have hX2 : (j : Int) % 4 = xm := by omega
      have hX3 : (xm : Int) % 4 = xm := by omega
      have hY2 : (j : Int) / 4 = ym := by omega
      have hY3 : (ym : Int) % 4 = ym := by omega
      have hx4 : xm < 4 := by omega
      have hy4 : ym < 4 := by omega
      have hset := dbl_set j hlt
      replace hN := Lib.hid hN; replace hB := Lib.hid hB; replace hlen := Lib.hid hlen; replace hxm := Lib.hid hxm; replace hym := Lib.hid hym; replace hset := Lib.hid hset
      go_wp2_with fail
      go_quiet (fail)
      have hNd : Nums (W1.drewN nq) w.heap.size 3 (asI (dblN 4 j)) := hN.out
      have hBd : Below w.heap.size w (W1.drewN nq) := below_drewN hB.out _
      have d1 : (W1.drewN nq).cell? ⟨w.heap.size, j, none⟩ = some (.int .i64 ((asI (dblN 4 j))[j]?.getD 0)) := d0
      have f1 : (W1.drewN nq).frozen? ⟨w.heap.size, j, none⟩ = false := f0
      generalize W1.drewN nq = W2 at *
      have hN1 := hNd.set j ((j : Int) + 1)
      have hN2 := hN1.set j (16 - (j : Int))
      have hB1 := hBd.setCell (p := ⟨w.heap.size, j, none⟩) (Nat.le_refl _) (.int .i64 ((j : Int) + 1))
      have hB2 := hB1.setCell (p := ⟨w.heap.size, j, none⟩) (Nat.le_refl _) (.int .i64 (16 - (j : Int)))
      rw [List.set_set] at hN2
      clear d0 f0
      replace hN1 := Lib.hid hN1; replace hN2 := Lib.hid hN2; replace hB1 := Lib.hid hB1; replace hB2 := Lib.hid hB2; replace hNd := Lib.hid hNd; replace hBd := Lib.hid hBd
      by_cases hc : xm = ym ∨ xm + ym = 3
      · have hd : dbl 4 j = 16 - j := by unfold dbl; rw [hxm.out, hym.out, if_pos hc]
        have hfin : Hid (Nums ((W2.setCell ⟨w.heap.size, j, none⟩ (.int .i64 ((j : Int) + 1))).setCell ⟨w.heap.size, j, none⟩ (.int .i64 (16 - (j : Int)))) w.heap.size 3 (asI (dblN 4 (j + 1)))) := by
          have := hN2.out
          rw [← hset.out, asI_set, hd]
          rw [show ((16 - j : Nat) : Int) = 16 - (j : Int) by omega]
          exact this
        replace hd := Lib.hid hd
        by_cases he : xm = ym
        · have g0 : ((xm : Int) == ym) = true := by simp [he]
          replace he := Lib.hid he; replace hc := Lib.hid hc
          go_wp2_with fail
          have hgk := hgk.out
          go_roundg (16 - (j + 1))
          case measure => omega
          case rel => exact ⟨j + 1, by omega, rfl, by go_num, hfin.out, hB2.out⟩
        · have g0 : ((xm : Int) == ym) = false := by simp; omega
          have g1 : ((xm : Int) + ym == 3) = true := by simp; omega
          replace he := Lib.hid he; replace hc := Lib.hid hc
          go_wp2_with fail
          have hgk := hgk.out
          go_roundg (16 - (j + 1))
          case measure => omega
          case rel => exact ⟨j + 1, by omega, rfl, by go_num, hfin.out, hB2.out⟩
      · have g0 : ((xm : Int) == ym) = false := by simp; omega
        have g1 : ((xm : Int) + ym == 3) = false := by simp; omega
        have hd : dbl 4 j = j + 1 := by unfold dbl; rw [hxm.out, hym.out, if_neg hc]
        have hfin : Hid (Nums (W2.setCell ⟨w.heap.size, j, none⟩ (.int .i64 ((j : Int) + 1))) w.heap.size 3 (asI (dblN 4 (j + 1)))) := by
          have := hN1.out
          rw [← hset.out, asI_set, hd]
          exact this
        replace hd := Lib.hid hd; replace hc := Lib.hid hc
        go_wp2_with fail
        have hgk := hgk.out
        go_roundg (16 - (j + 1))
        case measure => omega
        case rel => exact ⟨j + 1, by omega, rfl, by go_num, hfin.out, hB1.out⟩
    · have hje : j = 16 := by omega
      subst hje
      replace hN := Lib.hid hN; replace hB := Lib.hid hB
      go_wp2_with fail
      go_ret
      exact ⟨rfl, hN.out, hB.out⟩

set_option maxHeartbeats 8000000 in
theorem odd1 (w : World) : Calls Try.prog 11 #[.int .i64 1] w fun e w' => e = .returned (.slice (some ⟨w.heap.size, 0, none⟩) 1 1) ∧ Nums w' w.heap.size 3 (asI (oddS 1)) ∧ Below w.heap.size w w' := by
  go_enter Try.func11, Try.ntmps11
  go_wp2_with (refine wp_make int23 w w.heap.size rfl rfl _ _ rfl .i64 .i64 1 1 1 rfl rfl rfl rfl (by omega) ?_; intro W hN hB hz)
  have hN0 : Hid (Nums W w.heap.size 3 (asI (oddN 1 0).1)) := hN
  replace hB := Lib.hid hB
  clear hN
  go_loopg [4, 5, 6] 1 (fun gk xv yv vv W' => ∃ j : Nat, j ≤ 1 ∧ gk = 1 - j ∧ vv = .int .i64 ((j : Int) + 1) ∧ xv = .int .i64 (oddN 1 j).2.1 ∧ yv = .int .i64 (oddN 1 j).2.2 ∧ Nums W' w.heap.size 3 (asI (oddN 1 j).1) ∧ Below w.heap.size w W')
  case atStart => exact ⟨0, by omega, by omega, rfl, rfl, rfl, hN0.out, hB.out⟩
  case round =>
    clear hN0 hB hz
    obtain ⟨j, hj, hgk, rfl, rfl, rfl, hN, hB⟩ := hrel
    obtain ⟨W1, rfl⟩ : ∃ W1 : World, W1 = wr := ⟨_, rfl⟩
    replace hgk := Lib.hid hgk
    by_cases hlt : j < 1
    · rcases (show j = 0 from by omega) with rfl
      · have e : oddN 1 0 = ([0], 0, 0) := by decide
        have e2 : oddN 1 (0 + 1) = ([1], 0, 0) := by decide
        rw [e] at hN
        rw [e]
        have d0 : W1.cell? ⟨w.heap.size, 0, none⟩ = some (.int .i64 0) := hN.cell (i := 0) (by decide)
        have f0 := hN.free 0
        have hN1 := hN.set 0 1
        have hB1 := hB.setCell (p := ⟨w.heap.size, 0, none⟩) (Nat.le_refl _) (.int .i64 1)
        have d1 : (W1.setCell ⟨w.heap.size, 0, none⟩ (.int .i64 1)).cell? ⟨w.heap.size, 0, none⟩ = some (.int .i64 1) := hN1.cell (i := 0) (by decide)
        replace hN := Lib.hid hN; replace hB := Lib.hid hB; replace hN1 := Lib.hid hN1; replace hB1 := Lib.hid hB1; replace e := Lib.hid e; replace e2 := Lib.hid e2
        go_wp2_with fail
        have hN2 := Lib.hid (show Nums (W1.setCell ⟨w.heap.size, 0, none⟩ (.int .i64 1)) w.heap.size 3 (asI (oddN 1 (0 + 1)).1) from by rw [e2.out]; exact hN1.out)
        generalize W1.setCell ⟨w.heap.size, 0, none⟩ (.int .i64 1) = W2 at *
        go_quiet (fail)
        go_wp2_with fail
        go_quiet (fail)
        go_wp2_with fail
        have hgk := hgk.out
        go_roundg (1 - (0 + 1))
        case measure => omega
        case rel => exact ⟨0 + 1, by omega, rfl, rfl, by rw [e2.out]; rfl, by rw [e2.out]; rfl, hN2.out, below_drewN hB1.out _⟩
    · have hje : j = 1 := by omega
      subst hje
      replace hN := Lib.hid hN; replace hB := Lib.hid hB
      go_wp2_with fail
      go_ret
      exact ⟨rfl, hN.out, hB.out⟩

set_option maxHeartbeats 8000000 in
theorem odd3 (w : World) : Calls Try.prog 11 #[.int .i64 3] w fun e w' => e = .returned (.slice (some ⟨w.heap.size, 0, none⟩) 9 9) ∧ Nums w' w.heap.size 3 (asI (oddS 3)) ∧ Below w.heap.size w w' := by
  go_enter Try.func11, Try.ntmps11
  go_wp2_with (refine wp_make int23 w w.heap.size rfl rfl _ _ rfl .i64 .i64 9 9 9 rfl rfl rfl rfl (by omega) ?_; intro W hN hB hz)
  have hN0 : Hid (Nums W w.heap.size 3 (asI (oddN 3 0).1)) := hN
  replace hB := Lib.hid hB
  clear hN
  go_loopg [4, 5, 6] 9 (fun gk xv yv vv W' => ∃ j : Nat, j ≤ 9 ∧ gk = 9 - j ∧ vv = .int .i64 ((j : Int) + 1) ∧ xv = .int .i64 (oddN 3 j).2.1 ∧ yv = .int .i64 (oddN 3 j).2.2 ∧ Nums W' w.heap.size 3 (asI (oddN 3 j).1) ∧ Below w.heap.size w W')
  case atStart => exact ⟨0, by omega, by omega, rfl, rfl, rfl, hN0.out, hB.out⟩
  case round =>
    clear hN0 hB hz
    obtain ⟨j, hj, hgk, rfl, rfl, rfl, hN, hB⟩ := hrel
    obtain ⟨W1, rfl⟩ : ∃ W1 : World, W1 = wr := ⟨_, rfl⟩
    replace hgk := Lib.hid hgk
    by_cases hlt : j < 9
    · rcases (show j = 0 ∨ j = 1 ∨ j = 2 ∨ j = 3 ∨ j = 4 ∨ j = 5 ∨ j = 6 ∨ j = 7 ∨ j = 8 from by omega) with rfl | rfl | rfl | rfl | rfl | rfl | rfl | rfl | rfl
      · have e : oddN 3 0 = ([0, 0, 0, 0, 0, 0, 0, 0, 0], 1, 0) := by decide
        have e2 : oddN 3 (0 + 1) = ([0, 1, 0, 0, 0, 0, 0, 0, 0], 2, 2) := by decide
        rw [e] at hN
        rw [e]
        have d0 : W1.cell? ⟨w.heap.size, 1, none⟩ = some (.int .i64 0) := hN.cell (i := 1) (by decide)
        have f0 := hN.free 1
        have hN1 := hN.set 1 1
        have hB1 := hB.setCell (p := ⟨w.heap.size, 1, none⟩) (Nat.le_refl _) (.int .i64 1)
        have d1 : (W1.setCell ⟨w.heap.size, 1, none⟩ (.int .i64 1)).cell? ⟨w.heap.size, 8, none⟩ = some (.int .i64 0) := hN1.cell (i := 8) (by decide)
        replace hN := Lib.hid hN; replace hB := Lib.hid hB; replace hN1 := Lib.hid hN1; replace hB1 := Lib.hid hB1; replace e := Lib.hid e; replace e2 := Lib.hid e2
        go_wp2_with fail
        have hN2 := Lib.hid (show Nums (W1.setCell ⟨w.heap.size, 1, none⟩ (.int .i64 1)) w.heap.size 3 (asI (oddN 3 (0 + 1)).1) from by rw [e2.out]; exact hN1.out)
        generalize W1.setCell ⟨w.heap.size, 1, none⟩ (.int .i64 1) = W2 at *
        go_quiet (fail)
        go_wp2_with fail
        skip
        skip
        have hgk := hgk.out
        go_roundg (9 - (0 + 1))
        case measure => omega
        case rel => exact ⟨0 + 1, by omega, rfl, rfl, by rw [e2.out]; rfl, by rw [e2.out]; rfl, hN2.out, below_drewN hB1.out _⟩
      · have e : oddN 3 1 = ([0, 1, 0, 0, 0, 0, 0, 0, 0], 2, 2) := by decide
        have e2 : oddN 3 (1 + 1) = ([0, 1, 0, 0, 0, 0, 0, 0, 2], 0, 1) := by decide
        rw [e] at hN
        rw [e]
        have d0 : W1.cell? ⟨w.heap.size, 8, none⟩ = some (.int .i64 0) := hN.cell (i := 8) (by decide)
        have f0 := hN.free 8
        have hN1 := hN.set 8 2
        have hB1 := hB.setCell (p := ⟨w.heap.size, 8, none⟩) (Nat.le_refl _) (.int .i64 2)
        have d1 : (W1.setCell ⟨w.heap.size, 8, none⟩ (.int .i64 2)).cell? ⟨w.heap.size, 3, none⟩ = some (.int .i64 0) := hN1.cell (i := 3) (by decide)
        replace hN := Lib.hid hN; replace hB := Lib.hid hB; replace hN1 := Lib.hid hN1; replace hB1 := Lib.hid hB1; replace e := Lib.hid e; replace e2 := Lib.hid e2
        go_wp2_with fail
        have hN2 := Lib.hid (show Nums (W1.setCell ⟨w.heap.size, 8, none⟩ (.int .i64 2)) w.heap.size 3 (asI (oddN 3 (1 + 1)).1) from by rw [e2.out]; exact hN1.out)
        generalize W1.setCell ⟨w.heap.size, 8, none⟩ (.int .i64 2) = W2 at *
        go_quiet (fail)
        go_wp2_with fail
        skip
        skip
        have hgk := hgk.out
        go_roundg (9 - (1 + 1))
        case measure => omega
        case rel => exact ⟨1 + 1, by omega, rfl, rfl, by rw [e2.out]; rfl, by rw [e2.out]; rfl, hN2.out, below_drewN hB1.out _⟩
      · have e : oddN 3 2 = ([0, 1, 0, 0, 0, 0, 0, 0, 2], 0, 1) := by decide
        have e2 : oddN 3 (2 + 1) = ([0, 1, 0, 3, 0, 0, 0, 0, 2], 0, 2) := by decide
        rw [e] at hN
        rw [e]
        have d0 : W1.cell? ⟨w.heap.size, 3, none⟩ = some (.int .i64 0) := hN.cell (i := 3) (by decide)
        have f0 := hN.free 3
        have hN1 := hN.set 3 3
        have hB1 := hB.setCell (p := ⟨w.heap.size, 3, none⟩) (Nat.le_refl _) (.int .i64 3)
        have d1 : (W1.setCell ⟨w.heap.size, 3, none⟩ (.int .i64 3)).cell? ⟨w.heap.size, 1, none⟩ = some (.int .i64 1) := hN1.cell (i := 1) (by decide)
        replace hN := Lib.hid hN; replace hB := Lib.hid hB; replace hN1 := Lib.hid hN1; replace hB1 := Lib.hid hB1; replace e := Lib.hid e; replace e2 := Lib.hid e2
        go_wp2_with fail
        have hN2 := Lib.hid (show Nums (W1.setCell ⟨w.heap.size, 3, none⟩ (.int .i64 3)) w.heap.size 3 (asI (oddN 3 (2 + 1)).1) from by rw [e2.out]; exact hN1.out)
        generalize W1.setCell ⟨w.heap.size, 3, none⟩ (.int .i64 3) = W2 at *
        go_quiet (fail)
        go_wp2_with fail
        go_quiet (fail)
        go_wp2_with fail
        have hgk := hgk.out
        go_roundg (9 - (2 + 1))
        case measure => omega
        case rel => exact ⟨2 + 1, by omega, rfl, rfl, by rw [e2.out]; rfl, by rw [e2.out]; rfl, hN2.out, below_drewN hB1.out _⟩
      · have e : oddN 3 3 = ([0, 1, 0, 3, 0, 0, 0, 0, 2], 0, 2) := by decide
        have e2 : oddN 3 (3 + 1) = ([0, 1, 0, 3, 0, 0, 4, 0, 2], 1, 1) := by decide
        rw [e] at hN
        rw [e]
        have d0 : W1.cell? ⟨w.heap.size, 6, none⟩ = some (.int .i64 0) := hN.cell (i := 6) (by decide)
        have f0 := hN.free 6
        have hN1 := hN.set 6 4
        have hB1 := hB.setCell (p := ⟨w.heap.size, 6, none⟩) (Nat.le_refl _) (.int .i64 4)
        have d1 : (W1.setCell ⟨w.heap.size, 6, none⟩ (.int .i64 4)).cell? ⟨w.heap.size, 4, none⟩ = some (.int .i64 0) := hN1.cell (i := 4) (by decide)
        replace hN := Lib.hid hN; replace hB := Lib.hid hB; replace hN1 := Lib.hid hN1; replace hB1 := Lib.hid hB1; replace e := Lib.hid e; replace e2 := Lib.hid e2
        go_wp2_with fail
        have hN2 := Lib.hid (show Nums (W1.setCell ⟨w.heap.size, 6, none⟩ (.int .i64 4)) w.heap.size 3 (asI (oddN 3 (3 + 1)).1) from by rw [e2.out]; exact hN1.out)
        generalize W1.setCell ⟨w.heap.size, 6, none⟩ (.int .i64 4) = W2 at *
        go_quiet (fail)
        go_wp2_with fail
        skip
        skip
        have hgk := hgk.out
        go_roundg (9 - (3 + 1))
        case measure => omega
        case rel => exact ⟨3 + 1, by omega, rfl, rfl, by rw [e2.out]; rfl, by rw [e2.out]; rfl, hN2.out, below_drewN hB1.out _⟩
      · have e : oddN 3 4 = ([0, 1, 0, 3, 0, 0, 4, 0, 2], 1, 1) := by decide
        have e2 : oddN 3 (4 + 1) = ([0, 1, 0, 3, 5, 0, 4, 0, 2], 2, 0) := by decide
        rw [e] at hN
        rw [e]
        have d0 : W1.cell? ⟨w.heap.size, 4, none⟩ = some (.int .i64 0) := hN.cell (i := 4) (by decide)
        have f0 := hN.free 4
        have hN1 := hN.set 4 5
        have hB1 := hB.setCell (p := ⟨w.heap.size, 4, none⟩) (Nat.le_refl _) (.int .i64 5)
        have d1 : (W1.setCell ⟨w.heap.size, 4, none⟩ (.int .i64 5)).cell? ⟨w.heap.size, 2, none⟩ = some (.int .i64 0) := hN1.cell (i := 2) (by decide)
        replace hN := Lib.hid hN; replace hB := Lib.hid hB; replace hN1 := Lib.hid hN1; replace hB1 := Lib.hid hB1; replace e := Lib.hid e; replace e2 := Lib.hid e2
        go_wp2_with fail
        have hN2 := Lib.hid (show Nums (W1.setCell ⟨w.heap.size, 4, none⟩ (.int .i64 5)) w.heap.size 3 (asI (oddN 3 (4 + 1)).1) from by rw [e2.out]; exact hN1.out)
        generalize W1.setCell ⟨w.heap.size, 4, none⟩ (.int .i64 5) = W2 at *
        go_quiet (fail)
        go_wp2_with fail
        skip
        skip
        have hgk := hgk.out
        go_roundg (9 - (4 + 1))
        case measure => omega
        case rel => exact ⟨4 + 1, by omega, rfl, rfl, by rw [e2.out]; rfl, by rw [e2.out]; rfl, hN2.out, below_drewN hB1.out _⟩
      · have e : oddN 3 5 = ([0, 1, 0, 3, 5, 0, 4, 0, 2], 2, 0) := by decide
        have e2 : oddN 3 (5 + 1) = ([0, 1, 6, 3, 5, 0, 4, 0, 2], 2, 1) := by decide
        rw [e] at hN
        rw [e]
        have d0 : W1.cell? ⟨w.heap.size, 2, none⟩ = some (.int .i64 0) := hN.cell (i := 2) (by decide)
        have f0 := hN.free 2
        have hN1 := hN.set 2 6
        have hB1 := hB.setCell (p := ⟨w.heap.size, 2, none⟩) (Nat.le_refl _) (.int .i64 6)
        have d1 : (W1.setCell ⟨w.heap.size, 2, none⟩ (.int .i64 6)).cell? ⟨w.heap.size, 6, none⟩ = some (.int .i64 4) := hN1.cell (i := 6) (by decide)
        replace hN := Lib.hid hN; replace hB := Lib.hid hB; replace hN1 := Lib.hid hN1; replace hB1 := Lib.hid hB1; replace e := Lib.hid e; replace e2 := Lib.hid e2
        go_wp2_with fail
        have hN2 := Lib.hid (show Nums (W1.setCell ⟨w.heap.size, 2, none⟩ (.int .i64 6)) w.heap.size 3 (asI (oddN 3 (5 + 1)).1) from by rw [e2.out]; exact hN1.out)
        generalize W1.setCell ⟨w.heap.size, 2, none⟩ (.int .i64 6) = W2 at *
        go_quiet (fail)
        go_wp2_with fail
        go_quiet (fail)
        go_wp2_with fail
        have hgk := hgk.out
        go_roundg (9 - (5 + 1))
        case measure => omega
        case rel => exact ⟨5 + 1, by omega, rfl, rfl, by rw [e2.out]; rfl, by rw [e2.out]; rfl, hN2.out, below_drewN hB1.out _⟩
      · have e : oddN 3 6 = ([0, 1, 6, 3, 5, 0, 4, 0, 2], 2, 1) := by decide
        have e2 : oddN 3 (6 + 1) = ([0, 1, 6, 3, 5, 7, 4, 0, 2], 0, 0) := by decide
        rw [e] at hN
        rw [e]
        have d0 : W1.cell? ⟨w.heap.size, 5, none⟩ = some (.int .i64 0) := hN.cell (i := 5) (by decide)
        have f0 := hN.free 5
        have hN1 := hN.set 5 7
        have hB1 := hB.setCell (p := ⟨w.heap.size, 5, none⟩) (Nat.le_refl _) (.int .i64 7)
        have d1 : (W1.setCell ⟨w.heap.size, 5, none⟩ (.int .i64 7)).cell? ⟨w.heap.size, 0, none⟩ = some (.int .i64 0) := hN1.cell (i := 0) (by decide)
        replace hN := Lib.hid hN; replace hB := Lib.hid hB; replace hN1 := Lib.hid hN1; replace hB1 := Lib.hid hB1; replace e := Lib.hid e; replace e2 := Lib.hid e2
        go_wp2_with fail
        have hN2 := Lib.hid (show Nums (W1.setCell ⟨w.heap.size, 5, none⟩ (.int .i64 7)) w.heap.size 3 (asI (oddN 3 (6 + 1)).1) from by rw [e2.out]; exact hN1.out)
        generalize W1.setCell ⟨w.heap.size, 5, none⟩ (.int .i64 7) = W2 at *
        go_quiet (fail)
        go_wp2_with fail
        skip
        skip
        have hgk := hgk.out
        go_roundg (9 - (6 + 1))
        case measure => omega
        case rel => exact ⟨6 + 1, by omega, rfl, rfl, by rw [e2.out]; rfl, by rw [e2.out]; rfl, hN2.out, below_drewN hB1.out _⟩
      · have e : oddN 3 7 = ([0, 1, 6, 3, 5, 7, 4, 0, 2], 0, 0) := by decide
        have e2 : oddN 3 (7 + 1) = ([8, 1, 6, 3, 5, 7, 4, 0, 2], 1, 2) := by decide
        rw [e] at hN
        rw [e]
        have d0 : W1.cell? ⟨w.heap.size, 0, none⟩ = some (.int .i64 0) := hN.cell (i := 0) (by decide)
        have f0 := hN.free 0
        have hN1 := hN.set 0 8
        have hB1 := hB.setCell (p := ⟨w.heap.size, 0, none⟩) (Nat.le_refl _) (.int .i64 8)
        have d1 : (W1.setCell ⟨w.heap.size, 0, none⟩ (.int .i64 8)).cell? ⟨w.heap.size, 7, none⟩ = some (.int .i64 0) := hN1.cell (i := 7) (by decide)
        replace hN := Lib.hid hN; replace hB := Lib.hid hB; replace hN1 := Lib.hid hN1; replace hB1 := Lib.hid hB1; replace e := Lib.hid e; replace e2 := Lib.hid e2
        go_wp2_with fail
        have hN2 := Lib.hid (show Nums (W1.setCell ⟨w.heap.size, 0, none⟩ (.int .i64 8)) w.heap.size 3 (asI (oddN 3 (7 + 1)).1) from by rw [e2.out]; exact hN1.out)
        generalize W1.setCell ⟨w.heap.size, 0, none⟩ (.int .i64 8) = W2 at *
        go_quiet (fail)
        go_wp2_with fail
        skip
        skip
        have hgk := hgk.out
        go_roundg (9 - (7 + 1))
        case measure => omega
        case rel => exact ⟨7 + 1, by omega, rfl, rfl, by rw [e2.out]; rfl, by rw [e2.out]; rfl, hN2.out, below_drewN hB1.out _⟩
      · have e : oddN 3 8 = ([8, 1, 6, 3, 5, 7, 4, 0, 2], 1, 2) := by decide
        have e2 : oddN 3 (8 + 1) = ([8, 1, 6, 3, 5, 7, 4, 9, 2], 1, 0) := by decide
        rw [e] at hN
        rw [e]
        have d0 : W1.cell? ⟨w.heap.size, 7, none⟩ = some (.int .i64 0) := hN.cell (i := 7) (by decide)
        have f0 := hN.free 7
        have hN1 := hN.set 7 9
        have hB1 := hB.setCell (p := ⟨w.heap.size, 7, none⟩) (Nat.le_refl _) (.int .i64 9)
        have d1 : (W1.setCell ⟨w.heap.size, 7, none⟩ (.int .i64 9)).cell? ⟨w.heap.size, 5, none⟩ = some (.int .i64 7) := hN1.cell (i := 5) (by decide)
        replace hN := Lib.hid hN; replace hB := Lib.hid hB; replace hN1 := Lib.hid hN1; replace hB1 := Lib.hid hB1; replace e := Lib.hid e; replace e2 := Lib.hid e2
        go_wp2_with fail
        have hN2 := Lib.hid (show Nums (W1.setCell ⟨w.heap.size, 7, none⟩ (.int .i64 9)) w.heap.size 3 (asI (oddN 3 (8 + 1)).1) from by rw [e2.out]; exact hN1.out)
        generalize W1.setCell ⟨w.heap.size, 7, none⟩ (.int .i64 9) = W2 at *
        go_quiet (fail)
        go_wp2_with fail
        go_quiet (fail)
        go_wp2_with fail
        have hgk := hgk.out
        go_roundg (9 - (8 + 1))
        case measure => omega
        case rel => exact ⟨8 + 1, by omega, rfl, rfl, by rw [e2.out]; rfl, by rw [e2.out]; rfl, hN2.out, below_drewN hB1.out _⟩
    · have hje : j = 9 := by omega
      subst hje
      replace hN := Lib.hid hN; replace hB := Lib.hid hB
      go_wp2_with fail
      go_ret
      exact ⟨rfl, hN.out, hB.out⟩

theorem make_any (n : Nat) (w : World) (h : n = 1 ∨ n = 3 ∨ n = 4) (nI : Int) (hnI : Hid (nI = n)) : Calls Try.prog 6 #[.int .i64 nI] w fun e w' => e = .returned (.tuple #[.slice (some ⟨w.heap.size, 0, none⟩) (n * n) (n * n), .int .i64 0]) ∧ Nums w' w.heap.size 3 (asI (madeS n)) ∧ Below w.heap.size w w' := by
  have hnI := hnI.out
  subst hnI
  rcases h with rfl | rfl | rfl
  · have H := Lib.hid (odd1 w)
    show Calls Try.prog 6 #[.int .i64 1] w _
    go_enter Try.func6, Try.ntmps6
    go_wp2_with fail
    refine H.out.mono ?_
    rintro e w' ⟨rfl, hN, hB⟩
    replace hN := Lib.hid hN; replace hB := Lib.hid hB
    go_wp2_with fail
    go_ret2
    exact ⟨rfl, hN.out, hB.out⟩
  · have H := Lib.hid (odd3 w)
    show Calls Try.prog 6 #[.int .i64 3] w _
    go_enter Try.func6, Try.ntmps6
    go_wp2_with fail
    refine H.out.mono ?_
    rintro e w' ⟨rfl, hN, hB⟩
    replace hN := Lib.hid hN; replace hB := Lib.hid hB
    go_wp2_with fail
    go_ret2
    exact ⟨rfl, hN.out, hB.out⟩
  · have H := Lib.hid (double4 w)
    show Calls Try.prog 6 #[.int .i64 4] w _
    go_enter Try.func6, Try.ntmps6
    go_wp2_with fail
    refine H.out.mono ?_
    rintro e w' ⟨rfl, hN, hB⟩
    replace hN := Lib.hid hN; replace hB := Lib.hid hB
    go_wp2_with fail
    go_ret2
    exact ⟨rfl, hN.out, hB.out⟩
end Go.Proofs.Ytbfdhegglaaghaa
