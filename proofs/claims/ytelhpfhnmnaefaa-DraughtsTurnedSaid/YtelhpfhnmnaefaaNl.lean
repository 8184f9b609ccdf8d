/- Lists of small numbers as lists of ints; no conditions. -/
import Derived.Test.YtelhpfhnmnaefaaGen
import Derived.Test.YtelhpfhnmnaefaaRows
namespace Go.Proofs.Ytelhpfhnmnaefaa
open Go.RowKit

def st (s : List Nat) (i : Nat) : Nat := s[i]?.getD 0
def asI (s : List Nat) : List Int := s.map fun x : Nat => (x : Int)
theorem asI_at (s : List Nat) (j : Nat) : (asI s)[j]?.getD 0 = (st s j : Nat) := by
  unfold asI st
  by_cases h : j < s.length <;> simp [h]
theorem asI_len (s : List Nat) : (asI s).length = s.length := by simp [asI]
theorem asI_app (s t : List Nat) : asI (s ++ t) = asI s ++ asI t := by simp [asI]
theorem asI_set (s : List Nat) (i v : Nat) : asI (s.set i v) = (asI s).set i v := by simp [asI, List.map_set]
theorem asI_inj {s t : List Nat} (h : asI s = asI t) : s = t := by
  have := congrArg (List.map Int.toNat) h
  simpa [asI, Function.comp_def] using this
theorem intG : IntT Try.prog 22 3 := ⟨Try.underlying22, by kernel_rfl⟩
theorem IntsIn.cellN {w : World} {b o n : Nat} {s : List Nat} (h : IntsIn w (some ⟨b, o, none⟩) n (asI s)) {i : Nat} (hi : i < n) : w.cell? ⟨b, o + i, none⟩ = some (.int .i64 (st s i : Nat)) := by
  obtain ⟨b', o', e, _, hc⟩ := h.at (by omega)
  cases e
  rw [← asI_at, ← hc i hi]
end Go.Proofs.Ytelhpfhnmnaefaa
