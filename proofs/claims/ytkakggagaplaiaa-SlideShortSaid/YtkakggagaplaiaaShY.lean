/- The law SlideShort: its walk; no conditions but the arguments' kinds. -/
import Derived.Test.YtkakggagaplaiaaShZ2
import Derived.Test.YtkakggagaplaiaaShZ3
namespace Go.Proofs.Ytkakggagaplaiaa
open Go.RowKit
theorem short_any (k : Int) (wide : Bool) (w : World) (hk : -9223372036854775808 ≤ k ∧ k ≤ 9223372036854775807) :
    Calls Try.prog 10 #[.int .i64 k, .bool wide] w fun e w' => e = .returned (.bool true) ∧ Below w.heap.size w w' := by
  cases wide
  · exact short2_any k w hk
  · exact short3_any k w hk
end Go.Proofs.Ytkakggagaplaiaa
