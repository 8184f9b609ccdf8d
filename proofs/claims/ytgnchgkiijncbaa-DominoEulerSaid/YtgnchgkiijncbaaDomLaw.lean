/- The law of DominoEuler at all its sets: found by the kernel; no conditions. -/
import Derived.Test.YtgnchgkiijncbaaDomSpec
namespace Go.Proofs.Ytgnchgkiijncbaa
set_option maxRecDepth 1000000 in
theorem laws_true : laws = true := by decide +kernel
theorem law2 : lawK 2 = true := by decide +kernel
theorem law4 : lawK 4 = true := by decide +kernel
set_option maxRecDepth 1000000 in
theorem law6 : lawK 6 = true := by decide +kernel
set_option maxRecDepth 1000000 in
theorem law8 : lawK 8 = true := by decide +kernel
theorem lawN_true (n : Nat) (h : n < 10) : lawN n = true := by
  have := laws_true
  unfold laws at this
  rw [List.all_eq_true] at this
  exact this n (by simpa using h)
theorem lawK_true (n k : Nat) (h : n < 10) (h0 : 0 < n) (he : n % 2 = 0) (hk : k < (pieces n).length) : rowS (less n k) = ((less n k).length, 0) := by
  have h1 : lawK n = true := by
    rcases (show n = 2 ∨ n = 4 ∨ n = 6 ∨ n = 8 from by omega) with rfl | rfl | rfl | rfl
    · exact law2
    · exact law4
    · exact law6
    · exact law8
  unfold lawK at h1
  rw [List.all_eq_true] at h1
  have := h1 k (by simpa using hk)
  simpa using this
end Go.Proofs.Ytgnchgkiijncbaa
