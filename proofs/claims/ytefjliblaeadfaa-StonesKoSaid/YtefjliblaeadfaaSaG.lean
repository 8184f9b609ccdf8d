/- What gameroomkeep.sameGrid tells of boards that are the same; no conditions. -/
import Derived.Test.YtefjliblaeadfaaSam
import Derived.Test.YtefjliblaeadfaaGrd
namespace Go.Proofs.Ytefjliblaeadfaa
open Go.RowKit

set_option maxHeartbeats 2000000 in
theorem sameGrid_any (p q : Option Addr) (a b n c d : Nat) (xs : List Int) (w : World) (hn : n ≤ 1000) (hx : IntsIn w p n xs) (hy : IntsIn w q n xs) :
    Calls Try.prog 10 #[.agg #[.int .i64 (a : Int), .int .i64 (b : Int), .slice p n c], .agg #[.int .i64 (a : Int), .int .i64 (b : Int), .slice q n d]] w fun e w' => e = .returned (.bool true) ∧ Below w.heap.size w w' := by
  obtain ⟨W0, hW0⟩ : ∃ W0, W0 = (w.alloc (.cells #[.int .i64 (a : Int), .int .i64 (b : Int), .slice p n c] 24)).alloc (.cells #[.int .i64 (a : Int), .int .i64 (b : Int), .slice q n d] 24) := ⟨_, rfl⟩
  have hB0 := below2 w (.cells #[.int .i64 (a : Int), .int .i64 (b : Int), .slice p n c] 24) (.cells #[.int .i64 (a : Int), .int .i64 (b : Int), .slice q n d] 24)
  rw [← hW0] at hB0
  have HS := Lib.hid (same_any p q n c n d xs xs W0 (by omega) (hx.below hB0) (hy.below hB0))
  rw [decide_eq_true rfl] at HS
  replace hx := Lib.hid hx; replace hy := Lib.hid hy; replace hB0 := Lib.hid hB0
  subst hW0
  go_enter Try.func10, Try.ntmps10
  go_wp2_with fail
  refine HS.out.mono ?_
  rintro e w1 ⟨rfl, hB1⟩
  have hbl : Hid (Below w.heap.size w w1) := hB0.out.trans (hB1.mono hB0.out.size)
  clear HS hB1
  go_wp2_with fail
  go_ret
  exact ⟨rfl, hbl.out⟩
end Go.Proofs.Ytefjliblaeadfaa
