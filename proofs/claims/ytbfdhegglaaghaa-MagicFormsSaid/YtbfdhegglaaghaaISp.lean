/- Lines of a square of whole numbers, their sums, and its kind, as functions on lists; no program in sight, no conditions. -/
import Derived.Test.YtbfdhegglaaghaaMagicSpec
namespace Go.Proofs.Ytbfdhegglaaghaa

def ist (s : List Int) (i : Nat) : Int := s[i]?.getD 0
def sumI (l : List Int) (n kd k j : Nat) : Int := (List.range j).foldl (fun s i => s + ist l (place kd n k i)) 0
theorem sumI_succ (l : List Int) (n kd k j : Nat) : sumI l n kd k (j + 1) = sumI l n kd k j + ist l (place kd n k j) := by simp [sumI, List.range_succ]
def alikeI (l : List Int) (n : Nat) (want : Int) (kd : Nat) : Bool := (List.range n).all fun k => sumI l n kd k n == want
theorem alikeI_yes {l : List Int} {n kd : Nat} {want : Int} (h : ∀ k, k < n → sumI l n kd k n = want) : alikeI l n want kd = true := by
  unfold alikeI
  rw [List.all_eq_true]
  intro k hk
  have := h k (by simpa using hk)
  simp [this]
theorem alikeI_no {l : List Int} {n kd k : Nat} {want : Int} (hk : k < n) (h : sumI l n kd k n ≠ want) : alikeI l n want kd = false := by
  unfold alikeI
  rw [Bool.eq_false_iff]
  intro hh
  rw [List.all_eq_true] at hh
  have := hh k (by simpa using hk)
  simp at this
  exact h this
def kindI (l : List Int) (n : Nat) : Nat × Int :=
  let want := sumI l n 0 0 n
  if alikeI l n want 0 = false ∨ alikeI l n want 1 = false then (0, 0)
  else if alikeI l n want 2 = false ∨ alikeI l n want 3 = false then (if sumI l n 2 0 n = want ∧ sumI l n 3 0 n = want then (2, want) else (1, want))
  else (3, want)
theorem ist_le {l : List Int} {m : Int} (hm : 0 ≤ m) (h : ∀ x ∈ l, -m ≤ x ∧ x ≤ m) (i : Nat) : -m ≤ ist l i ∧ ist l i ≤ m := by
  unfold ist
  by_cases hi : i < l.length
  · simp [hi]; exact h _ (List.getElem_mem hi)
  · simp [hi]; omega
theorem sumI_bd (l : List Int) (n kd k : Nat) (h : ∀ x ∈ l, -1000000 ≤ x ∧ x ≤ 1000000) : ∀ j : Nat, -1000000 * (j : Int) ≤ sumI l n kd k j ∧ sumI l n kd k j ≤ 1000000 * (j : Int) := by
  intro j
  induction j with
  | zero => simp [sumI]
  | succ j ih =>
    rw [sumI_succ]
    have := ist_le (m := 1000000) (by omega) h (place kd n k j)
    push_cast
    omega
end Go.Proofs.Ytbfdhegglaaghaa
