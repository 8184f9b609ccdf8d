/- There are eight squares of three rows, as magic.Count counts them; no conditions. -/
import Derived.Test.YtbfdhegglaaghaaCPl
namespace Go.Proofs.Ytbfdhegglaaghaa
set_option maxRecDepth 100000 in
theorem cnt1 : cntP 8 (0 ||| 2 ^ 1) [1] = 0 := by decide +kernel
set_option maxRecDepth 100000 in
theorem cnt2 : cntP 8 (0 ||| 2 ^ 2) [2] = 2 := by decide +kernel
set_option maxRecDepth 100000 in
theorem cnt3 : cntP 8 (0 ||| 2 ^ 3) [3] = 0 := by decide +kernel
set_option maxRecDepth 100000 in
theorem cnt4 : cntP 8 (0 ||| 2 ^ 4) [4] = 2 := by decide +kernel
set_option maxRecDepth 100000 in
theorem cnt5 : cntP 8 (0 ||| 2 ^ 5) [5] = 0 := by decide +kernel
set_option maxRecDepth 100000 in
theorem cnt6 : cntP 8 (0 ||| 2 ^ 6) [6] = 2 := by decide +kernel
set_option maxRecDepth 100000 in
theorem cnt7 : cntP 8 (0 ||| 2 ^ 7) [7] = 0 := by decide +kernel
set_option maxRecDepth 100000 in
theorem cnt8 : cntP 8 (0 ||| 2 ^ 8) [8] = 2 := by decide +kernel
set_option maxRecDepth 100000 in
theorem cnt9 : cntP 8 (0 ||| 2 ^ 9) [9] = 0 := by decide +kernel
theorem sum_nine (C : Nat → List Nat → Nat) : sumV (fun v => if 0 / 2 ^ v % 2 = 1 then 0 else if badP ([] ++ [v]) then 0 else C (0 ||| 2 ^ v) ([] ++ [v])) 9
    = C (0 ||| 2 ^ 1) [1] + C (0 ||| 2 ^ 2) [2] + C (0 ||| 2 ^ 3) [3] + C (0 ||| 2 ^ 4) [4] + C (0 ||| 2 ^ 5) [5] + C (0 ||| 2 ^ 6) [6] + C (0 ||| 2 ^ 7) [7] + C (0 ||| 2 ^ 8) [8] + C (0 ||| 2 ^ 9) [9] := by
  have h : ∀ v, (if 0 / 2 ^ v % 2 = 1 then 0 else if badP ([] ++ [v]) then 0 else C (0 ||| 2 ^ v) ([] ++ [v])) = C (0 ||| 2 ^ v) [v] := fun v => by
    rw [if_neg (by simp)]
    rfl
  simp only [sumV, h, Nat.zero_add]
theorem cnt_eight : cntP 9 0 [] = 8 := by
  have h := sum_nine (cntP 8)
  rw [cnt1, cnt2, cnt3, cnt4, cnt5, cnt6, cnt7, cnt8, cnt9] at h
  exact (cntP_succ 8 0 []).trans h
end Go.Proofs.Ytbfdhegglaaghaa
