/- What slices.Grow makes of no slice at all; conditions: from one to a thousand elements. -/
import Derived.Test.YtkakggagaplaiaaBrD
import Derived.Lib.AppendZerosOnto
namespace Go.Proofs.Ytkakggagaplaiaa
open Go.RowKit

set_option maxRecDepth 100000 in
set_option maxHeartbeats 2000000 in
theorem grow_any (n : Nat) (h1 : 1 ≤ n) (h2 : n ≤ 1000) (w : World) : Calls Try.prog 58 #[.slice none 0 0, .int .i64 n] w fun e w' => ∃ q c, e = .returned (.slice q 0 c) ∧ Own 3 w.heap.size w' q 0 c [] ∧ Below w.heap.size w w' := by
  obtain ⟨i0, hi, hz0, hz1, hz2⟩ := info_parts intG.info
  have hfit : Builtin.nextslicecap (0 + n) 0 * i0.bytes ≤ 281474976710656 := by
    rw [hz2]; exact growslice_fits (show 0 < 0 + n by omega) (by omega)
  have hfit2 : Builtin.nextslicecap n 0 * 8 ≤ 281474976710656 := by rw [hz2, Nat.zero_add] at hfit; exact hfit
  have hge := grownCap_ge w n 0 3
  have hcm : grownCap w n 0 3 ≤ maxLen := grownCap_le_maxLen w n 0 3 (by unfold maxLen; omega)
  have hb := (Below.refl w.heap.size w).alloc (Nat.le_refl _) (Obj.cells (Builtin.zeroCells #[.int .i64 0] n ++ Builtin.zeroCells #[.int .i64 0] (grownCap w n 0 3 - n)) 3)
  replace hge := Lib.hid hge; replace hcm := Lib.hid hcm; replace hb := Lib.hid hb
  clear hfit hi hz0 hz1 hz2
  have h3 : (n : Int) > 0 := by omega
  have h0 : ¬ ((n : Int) < 0) := by omega
  have ht3 : Try.t3.bytes = 8 := rfl
  have hn8 : ¬ (281474976710656 < (n : Int) * (Try.t3.bytes : Int)) := by rw [ht3]; omega
  have hc8 : ¬ (281474976710656 < Builtin.nextslicecap n 0 * Try.t3.bytes) := by rw [ht3]; omega
  go_enter Try.func58, Try.ntmps58
  go_wp2_with fail
  all_goals first | (exfalso; omega) | skip
  all_goals
    go_ret
    refine ⟨_, _, rfl, ⟨rfl, .inr ⟨w.heap.size, grownCap w n 0 3, _, rfl, Nat.le_refl _, heap_alloc_new w _, Nat.zero_le _, hcm.out, ?_, ?_⟩⟩, ⟨hb.out.os, hb.out.tape, hb.out.output, hb.out.size, hb.out.block⟩⟩
    · have := hge.out
      rw [Array.size_append, size_zeroCells, size_zeroCells]
      show n * 1 + (grownCap w n 0 3 - n) * 1 = grownCap w n 0 3 * 1
      omega
    · rfl
end Go.Proofs.Ytkakggagaplaiaa
