/- For up to 4 dice of up to 8 sides the list that dice.Keep tells (shareS) is the list of all sums (sumsL); no conditions. -/
import Derived.Test.YtlpiejeaekfchaaKeep2
namespace Go.Proofs.Ytlpiejeaekfchaa
set_option maxRecDepth 100000 in
theorem keep_sums : ∀ a < 4, ∀ b < 8, shareS (a + 1) (b + 1) (a + 1) 0 0 1 (List.replicate ((a + 1) * (b + 1 - 1) + 1) 0) = some (sumsL (List.replicate (a + 1) (b + 1)) [1]) := by decide +kernel
end Go.Proofs.Ytlpiejeaekfchaa
