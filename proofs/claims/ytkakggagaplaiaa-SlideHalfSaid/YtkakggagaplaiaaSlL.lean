/- What gameroomkeep.SlideHalf computes: true; conditions: the numbers fit their kind. -/
import Derived.Test.YtkakggagaplaiaaSlL4
import Derived.Test.YtkakggagaplaiaaSlL6
import Derived.Test.YtkakggagaplaiaaSlL9
namespace Go.Proofs.Ytkakggagaplaiaa
open Go.RowKit

theorem half_any (x0 x1 x2 x3 x4 x5 : Int) (w : World) (h0 : -9223372036854775808 ≤ x0 ∧ x0 ≤ 9223372036854775807) (h1 : -9223372036854775808 ≤ x1 ∧ x1 ≤ 9223372036854775807) (h2 : -9223372036854775808 ≤ x2 ∧ x2 ≤ 9223372036854775807)
    (h3 : -9223372036854775808 ≤ x3 ∧ x3 ≤ 9223372036854775807) (h4 : -9223372036854775808 ≤ x4 ∧ x4 ≤ 9223372036854775807) (h5 : -9223372036854775808 ≤ x5 ∧ x5 ≤ 9223372036854775807) :
    Calls Try.prog 6 #[.int .i64 x0, .int .i64 x1, .int .i64 x2, .int .i64 x3, .int .i64 x4, .int .i64 x5] w fun e w' => e = .returned (.bool true) ∧ Below w.heap.size w w' := by
  have l0 := pick_lt x0 2 (by omega)
  have l1 := pick_lt x1 2 (by omega)
  have hc : (2 + pick x0 2) * (2 + pick x1 2) = 4 ∨ (2 + pick x0 2) * (2 + pick x1 2) = 6 ∨ (2 + pick x0 2) * (2 + pick x1 2) = 9 := by
    rcases (show pick x0 2 = 0 ∨ pick x0 2 = 1 by omega) with h | h <;> rcases (show pick x1 2 = 0 ∨ pick x1 2 = 1 by omega) with h' | h' <;> rw [h, h'] <;> simp
  rcases hc with hc | hc | hc
  · exact half_4 x0 x1 x2 x3 x4 x5 w h0 h1 h2 h3 h4 h5 hc
  · exact half_6 x0 x1 x2 x3 x4 x5 w h0 h1 h2 h3 h4 h5 hc
  · exact half_9 x0 x1 x2 x3 x4 x5 w h0 h1 h2 h3 h4 h5 hc
end Go.Proofs.Ytkakggagaplaiaa
