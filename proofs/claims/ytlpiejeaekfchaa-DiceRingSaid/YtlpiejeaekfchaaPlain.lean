/- Plain laws of the counts of a duel: the other way round wins and losses change places, and all counts together are the product of the lengths; no conditions. -/
import Derived.Test.YtlpiejeaekfchaaW1
namespace Go.Proofs.Ytlpiejeaekfchaa

def lt1 (x y : Int) : Int := if y < x then 1 else 0
def eq1 (x y : Int) : Int := if x = y then 1 else 0
def sumOf (f : Int → Int) : List Int → Int
  | [] => 0
  | y :: ys => f y + sumOf f ys
def both (f : Int → Int → Int) (xs ys : List Int) : Int := sumOf (fun x => sumOf (f x) ys) xs
theorem sumOf_add (f g : Int → Int) (l : List Int) : sumOf (fun x => f x + g x) l = sumOf f l + sumOf g l := by
  induction l with
  | nil => rfl
  | cons x l ih => simp only [sumOf, ih]; omega
theorem sumOf_zero (l : List Int) : sumOf (fun _ => 0) l = 0 := by
  induction l with
  | nil => rfl
  | cons x l ih => simp only [sumOf, ih]; omega
theorem both_swap (f : Int → Int → Int) (xs ys : List Int) : both f xs ys = both (fun y x => f x y) ys xs := by
  unfold both
  induction xs with
  | nil => simp only [sumOf, sumOf_zero]
  | cons x xs ih => simp only [sumOf]; rw [ih, sumOf_add]
theorem duelRow_sum (x : Int) (ys : List Int) : ∀ s, duelRow x ys s = (s.1 + sumOf (lt1 x) ys, s.2.1 + sumOf (eq1 x) ys, s.2.2 + sumOf (fun y => lt1 y x) ys) := by
  induction ys with
  | nil => intro s; simp [duelRow, sumOf]
  | cons y ys ih =>
    rintro ⟨p, q, r⟩
    simp only [duelRow, sumOf]
    rw [ih]
    unfold lt1 eq1
    by_cases h : y < x
    · have h1 : ¬ x = y := by omega
      have h2 : ¬ x < y := by omega
      simp [h, h1, h2]; omega
    · by_cases h1 : x = y
      · subst h1
        simp
        omega
      · have h2 : x < y := by omega
        simp [h, h1, h2]; omega
theorem duel_sum (ys xs : List Int) : ∀ s, duel ys xs s = (s.1 + both lt1 xs ys, s.2.1 + both eq1 xs ys, s.2.2 + both (fun x y => lt1 y x) xs ys) := by
  unfold both
  induction xs with
  | nil => intro s; simp [duel, sumOf]
  | cons x xs ih =>
    intro s
    simp only [duel, sumOf]
    rw [ih, duelRow_sum]
    simp only [Prod.mk.injEq]; omega
theorem eq1_comm : eq1 = fun y x => eq1 x y := by
  funext x y
  unfold eq1
  by_cases h : x = y
  · subst h; rfl
  · have : ¬ y = x := by omega
    simp [h, this]
theorem duel_flip (xs ys : List Int) (p q r : Int) (h : duel ys xs (0, 0, 0) = (p, q, r)) : duel xs ys (0, 0, 0) = (r, q, p) := by
  rw [duel_sum] at h ⊢
  simp only [Prod.mk.injEq, Int.zero_add] at h ⊢
  obtain ⟨h1, h2, h3⟩ := h
  refine ⟨?_, ?_, ?_⟩
  · rw [← h3, both_swap]
  · rw [← h2, both_swap, ← eq1_comm]
  · rw [← h1, both_swap lt1 xs ys]
theorem duel_all (xs ys : List Int) (p q r : Int) (h : duel ys xs (0, 0, 0) = (p, q, r)) : 0 ≤ p ∧ 0 ≤ q ∧ 0 ≤ r ∧ p + q + r = xs.length * ys.length := by
  have := duel_met ys xs 0 (0, 0, 0) (by simp [Met])
  rw [h] at this
  obtain ⟨a, b, c, d⟩ := this
  exact ⟨a, b, c, by simpa using d⟩
end Go.Proofs.Ytlpiejeaekfchaa
