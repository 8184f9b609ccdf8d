/- What stones.Alive tells of a board that may not be; conditions: ints of 64 bits. -/
import Derived.Test.YtefjliblaeadfaaBEx
namespace Go.Proofs.Ytefjliblaeadfaa
open Go.RowKit

set_option maxHeartbeats 2000000 in
theorem alive_bad (A H who : Int) (q : Option Addr) (n c : Nat) (xs : List Int) (w : World) (hn : n ≤ 9223372036854775807) (hW1 : -9223372036854775808 ≤ A) (hW2 : A ≤ 9223372036854775807) (hH1 : -9223372036854775808 ≤ H) (hH2 : H ≤ 9223372036854775807) (hx : IntsIn w q n xs) (hm : mayG A H xs = false) :
    Calls Try.prog 15 #[.agg #[.int .i64 A, .int .i64 H, .slice q n c], .int .i64 who] w fun e w' => e = .returned (.tuple #[.slice none 0 0, .int .i64 12]) ∧ Below w.heap.size w w' := by
  obtain ⟨W0, hW0⟩ : ∃ W0, W0 = (w.alloc (.cells #[.int .i64 A, .int .i64 H, .slice q n c] 24)).alloc (.cells #[.int .i64 who] 3) := ⟨_, rfl⟩
  have hB0 := below2 w (.cells #[.int .i64 A, .int .i64 H, .slice q n c] 24) (.cells #[.int .i64 who] 3)
  rw [← hW0] at hB0
  have HM := Lib.hid (may_any q n c A H xs W0 hn hW1 hW2 hH1 hH2 (hx.below hB0))
  rw [hm] at HM
  replace hB0 := Lib.hid hB0
  have hW0' := Lib.hid hW0
  subst hW0
  clear hx
  go_enter Try.func15, Try.ntmps15
  go_wp2_with fail
  go_step3
  go_wp2_with fail
  refine HM.out.mono ?_
  rintro e w1 ⟨rfl, hB1⟩
  have hbl := Lib.hid (hB0.out.trans (hB1.mono hB0.out.size))
  clear hB1
  go_wp2_with fail
  rw [Exit.noGoto_ret]
  exact bodyPost_ret (v := .tuple #[.slice none 0 0, .int .i64 12]) (by simp [results, Try.results15, go_sem]) rfl ⟨rfl, hbl.out⟩
end Go.Proofs.Ytefjliblaeadfaa
