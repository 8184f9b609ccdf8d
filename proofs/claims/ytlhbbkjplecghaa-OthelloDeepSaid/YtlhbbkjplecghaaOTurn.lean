/- What othello's ways and turned compute; conditions: a board of 1 to 10 by 1 to 10 places whose signs are 0 to 2, who is 1 or 2, a place of the board. -/
import Derived.Test.YtlhbbkjplecghaaOSpec
import Derived.Laws.AppendOwnNone
import Derived.Deep.DeepCutAuto
namespace Go.Proofs.Ytlhbbkjplecghaa
open Go.RowKit

def W8 : Value := .agg #[.int .i64 1, .int .i64 0, .int .i64 1, .int .i64 1, .int .i64 0, .int .i64 1, .int .i64 (-1), .int .i64 1, .int .i64 (-1), .int .i64 0, .int .i64 (-1), .int .i64 (-1), .int .i64 0, .int .i64 (-1), .int .i64 1, .int .i64 (-1)]
theorem index8 (j : Nat) (h : j < 8) : ∀ w, (Instr.index 47 W8 (.int .i64 (j : Int))).run Try.prog w = .ok (.agg #[.int .i64 (dxs j), .int .i64 (dys j)]) w := by
  unfold W8
  rcases (show j = 0 ∨ j = 1 ∨ j = 2 ∨ j = 3 ∨ j = 4 ∨ j = 5 ∨ j = 6 ∨ j = 7 from by omega) with rfl | rfl | rfl | rfl | rfl | rfl | rfl | rfl <;> exact fun w => by kernel_rfl

set_option maxHeartbeats 1000000 in
theorem ways_any (w : World) : Calls Try.prog 19 #[] w fun e w' => e = .returned W8 ∧ Below w.heap.size w w' := by
  go_enter Try.func19, Try.ntmps19
  go_wp2_with fail
  refine bodyPost_ret (v := W8) (by simp [results, Try.results19, go_sem, W8]) rfl ⟨rfl, ?_⟩
  exact (Below.refl _ _).alloc (Nat.le_refl _) _
end Go.Proofs.Ytlhbbkjplecghaa
