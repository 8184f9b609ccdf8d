/- What othello.odd and check compute, whatever the board; conditions: the numbers fit their kind. -/
import Derived.Test.YtlhbbkjplecghaaOSpec
import Derived.Deep.DeepCutAuto
namespace Go.Proofs.Ytlhbbkjplecghaa
open Go.RowKit

def oddI (x : Int) : Bool := decide (x < 4) || decide (x > 8) || decide (x % 2 = 1)
def chkF (W H : Int) (xs : List Int) (who : Int) : Int := if mayG W H xs = true then (if oddI W = true ∨ oddI H = true then 12 else if who ≠ 1 ∧ who ≠ 2 then 4 else 0) else 12
set_option maxHeartbeats 1000000 in
theorem odd_any (x : Int) (w : World) (h1 : -9223372036854775808 ≤ x) (h2 : x ≤ 9223372036854775807) : Calls Try.prog 12 #[.int .i64 x] w fun e w' => e = .returned (.bool (oddI x)) ∧ w = w' := by
  by_cases k1 : x < 4
  · have e : Hid (oddI x = true) := by show _ = _; unfold oddI; simp [k1]
    go_enter Try.func12, Try.ntmps12
    go_wp2_with fail
    go_ret
    exact ⟨ret_bool e.out.symm, rfl⟩
  · by_cases k2 : 8 < x
    · have e : Hid (oddI x = true) := by show _ = _; unfold oddI; simp [k2]
      go_enter Try.func12, Try.ntmps12
      go_wp2_with fail
      go_ret
      exact ⟨ret_bool e.out.symm, rfl⟩
    · rcases (show x = 4 ∨ x = 5 ∨ x = 6 ∨ x = 7 ∨ x = 8 by omega) with rfl | rfl | rfl | rfl | rfl
      all_goals
        clear h1 h2 k1 k2
        go_enter Try.func12, Try.ntmps12
        go_wp2_with fail
        go_ret
        exact ⟨ret_bool (by decide), rfl⟩
set_option maxHeartbeats 2000000 in
theorem check_any (q : Option Addr) (n c : Nat) (W H who : Int) (xs : List Int) (w : World) (hn : n ≤ 9223372036854775807) (hW1 : -9223372036854775808 ≤ W) (hW2 : W ≤ 9223372036854775807) (hH1 : -9223372036854775808 ≤ H) (hH2 : H ≤ 9223372036854775807) (hw1 : -9223372036854775808 ≤ who) (hw2 : who ≤ 9223372036854775807) (hx : IntsIn w q n xs) :
    Calls Try.prog 13 #[.agg #[.int .i64 W, .int .i64 H, .slice q n c], .int .i64 who] w fun e w' => e = .returned (.int .i64 (chkF W H xs who)) ∧ Below w.heap.size w w' := by
  have HM := may_any q n c W H xs (w.alloc (.cells #[.int .i64 W, .int .i64 H, .slice q n c] 24)) hn hW1 hW2 hH1 hH2 (hx.alloc _)
  have e0 := heap_alloc_new w (.cells #[.int .i64 W, .int .i64 H, .slice q n c] 24)
  have hB0 := Lib.hid ((Below.refl w.heap.size w).alloc (Nat.le_refl _) (.cells #[.int .i64 W, .int .i64 H, .slice q n c] 24))
  have hsz : w.heap.size < (w.alloc (.cells #[.int .i64 W, .int .i64 H, .slice q n c] 24)).heap.size := by simp
  have hc : Hid (chkF W H xs who = if mayG W H xs = true then (if oddI W = true ∨ oddI H = true then 12 else if who ≠ 1 ∧ who ≠ 2 then 4 else 0) else 12) := rfl
  have HO1 := Lib.hid (fun W' => odd_any W W' hW1 hW2)
  have HO2 := Lib.hid (fun W' => odd_any H W' hH1 hH2)
  generalize mayG W H xs = m at *
  generalize oddI W = o1 at *
  generalize oddI H = o2 at *
  generalize chkF W H xs who = F at *
  replace HM := Lib.hid HM
  clear hx
  go_enter Try.func13, Try.ntmps13
  go_wp2_with fail
  generalize w.alloc (.cells #[.int .i64 W, .int .i64 H, .slice q n c] 24) = W0 at *
  refine HM.out.mono ?_
  rintro e w1 ⟨rfl, hB⟩
  have hB1 := Lib.hid (hB0.out.trans (hB.mono hB0.out.size))
  have e1 := (hB.block _ hsz).trans e0
  have d0 : w1.cell? ⟨w.heap.size, 0, none⟩ = some (.int .i64 W) := wcell (cs := [_, _, _]) e1 0
  have d1 : w1.cell? ⟨w.heap.size, 1, none⟩ = some (.int .i64 H) := wcell (cs := [_, _, _]) e1 1
  clear hB hB0 e0 hsz HM e1
  cases m with
  | false =>
    have hF : Hid (F = 12) := by show _ = _; rw [hc.out, if_neg (by simp)]
    go_wp2_with fail
    go_ret
    exact ⟨ret_int hF.out.symm, hB1.out⟩
  | true =>
    go_wp2_with fail
    refine (HO1.out _).mono ?_
    rintro e w' ⟨rfl, rfl⟩
    cases o1 with
    | true =>
      have hF : Hid (F = 12) := by show _ = _; rw [hc.out]; simp
      go_wp2_with fail
      go_ret
      exact ⟨ret_int hF.out.symm, hB1.out⟩
    | false =>
      go_wp2_with fail
      refine (HO2.out _).mono ?_
      rintro e w' ⟨rfl, rfl⟩
      cases o2 with
      | true =>
        have hF : Hid (F = 12) := by show _ = _; rw [hc.out]; simp
        go_wp2_with fail
        go_ret
        exact ⟨ret_int hF.out.symm, hB1.out⟩
      | false =>
        by_cases h1 : who = 1
        · have hF : Hid (F = 0) := by show _ = _; rw [hc.out]; simp [h1]
          subst h1
          go_wp2_with fail
          go_ret
          exact ⟨ret_int hF.out.symm, hB1.out⟩
        · by_cases h2 : who = 2
          · have hF : Hid (F = 0) := by show _ = _; rw [hc.out]; simp [h2]
            subst h2
            go_wp2_with fail
            go_ret
            exact ⟨ret_int hF.out.symm, hB1.out⟩
          · have hF : Hid (F = 4) := by show _ = _; rw [hc.out]; simp [h1, h2]
            have z1 : (who != 1) = true := by simp [h1]
            have z2 : (who != 2) = true := by simp [h2]
            replace h1 := Lib.hid h1; replace h2 := Lib.hid h2
            go_wp2_with fail
            go_ret
            exact ⟨ret_int hF.out.symm, hB1.out⟩
end Go.Proofs.Ytlhbbkjplecghaa
