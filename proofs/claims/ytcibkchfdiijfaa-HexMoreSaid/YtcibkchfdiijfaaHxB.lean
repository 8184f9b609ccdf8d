import Derived.Test.YtcibkchfdiijfaaHxY
/- Hex boards: just one of two colours joins its sides; plain; no conditions. -/
namespace Go.Proofs.Ytcibkchfdiijfaa

/-- neighbours on a board n by n; places are y * n + x. -/
def Nx (n a b : Nat) : Prop := a < n * n ∧ b < n * n ∧
  ((b / n = a / n ∧ (b % n + 1 = a % n ∨ b % n = a % n + 1)) ∨
   (b / n + 1 = a / n ∧ (b % n = a % n ∨ b % n = a % n + 1)) ∨
   (b / n = a / n + 1 ∧ (b % n = a % n ∨ b % n + 1 = a % n)))
theorem Nx.symm {n a b : Nat} (h : Nx n a b) : Nx n b a := by
  obtain ⟨h1, h2, h3⟩ := h
  refine ⟨h2, h1, ?_⟩
  omega
inductive Pt (P : Nat → Prop) (n : Nat) : Nat → Nat → Prop
  | refl {a : Nat} : P a → a < n * n → Pt P n a a
  | step {a b c : Nat} : Pt P n a b → Nx n b c → P c → Pt P n a c
theorem Pt.right {P : Nat → Prop} {n a b : Nat} (h : Pt P n a b) : P b ∧ b < n * n := by
  cases h with
  | refl h1 h2 => exact ⟨h1, h2⟩
  | step _ h2 h3 => exact ⟨h3, h2.2.1⟩
theorem Pt.left {P : Nat → Prop} {n a b : Nat} (h : Pt P n a b) : P a ∧ a < n * n := by
  induction h with
  | refl h1 h2 => exact ⟨h1, h2⟩
  | step _ _ _ ih => exact ih
theorem Pt.trans {P : Nat → Prop} {n a b c : Nat} (h : Pt P n a b) (k : Pt P n b c) : Pt P n a c := by
  induction k with
  | refl _ _ => exact h
  | step _ h2 h3 ih => exact ih.step h2 h3
theorem Pt.symm {P : Nat → Prop} {n a b : Nat} (h : Pt P n a b) : Pt P n b a := by
  induction h with
  | refl h1 h2 => exact .refl h1 h2
  | step h1 h2 h3 ih => exact ((Pt.refl h3 h2.2.1).step h2.symm h1.right.1).trans ih
theorem Pt.mono {P Q : Nat → Prop} {n : Nat} (hpq : ∀ u, P u → Q u) {a b : Nat} (h : Pt P n a b) : Pt Q n a b := by
  induction h with
  | refl h1 h2 => exact .refl (hpq _ h1) h2
  | step _ h2 h3 ih => exact ih.step h2 (hpq _ h3)
def toC (n a : Nat) : Cel := (a % n, a / n, 2 * n - 2 - a % n - a / n)
theorem mod_le {n a : Nat} (h : a < n * n) : a % n + 1 ≤ n ∧ a / n + 1 ≤ n := by
  have hn : 0 < n := by
    rcases Nat.eq_zero_or_pos n with rfl | h'
    · simp at h
    · exact h'
  exact ⟨Nat.mod_lt _ hn, Nat.div_lt_of_lt_mul h⟩
theorem toC_sum {n a : Nat} (h : a < n * n) : sumC (toC n a) = 2 * n - 2 := by
  obtain ⟨h1, h2⟩ := mod_le h
  simp only [sumC, toC]; omega
theorem Nb.mk0 {x y k x' y' k' : Nat} (h : ∃ i j l : Nat, ∃ a b : Nat, a < 3 ∧ b < 3 ∧ (x, y, k) = ad a (i, j, l) ∧ (x', y', k') = ad b (i, j, l)) : Nb (x, y, k) (x', y', k') := by
  obtain ⟨i, j, l, a, b, h⟩ := h
  exact ⟨(i, j, l), a, b, h⟩
theorem Nx.nb {n a b : Nat} (h : Nx n a b) : Nb (toC n a) (toC n b) := by
  obtain ⟨h1, h2, h3⟩ := h
  obtain ⟨x1, y1⟩ := mod_le h1
  obtain ⟨x2, y2⟩ := mod_le h2
  unfold toC
  generalize a % n = x at *
  generalize a / n = y at *
  generalize b % n = x' at *
  generalize b / n = y' at *
  have key : ∀ p q i j l, p < 3 → q < 3 → (x, y, 2 * n - 2 - x - y) = ad p (i, j, l) → (x', y', 2 * n - 2 - x' - y') = ad q (i, j, l) → Nb (x, y, 2 * n - 2 - x - y) (x', y', 2 * n - 2 - x' - y') :=
    fun p q i j l hp hq e1 e2 => ⟨(i, j, l), p, q, hp, hq, e1, e2⟩
  rcases h3 with ⟨e, e' | e'⟩ | ⟨e, e' | e'⟩ | ⟨e, e' | e'⟩
  · exact key 0 2 x' y (2 * n - 2 - x - y) (by omega) (by omega) (Prod.ext (by simp only [ad] <;> omega) (Prod.ext (by simp only [ad] <;> omega) (by simp only [ad] <;> omega))) (Prod.ext (by simp only [ad] <;> omega) (Prod.ext (by simp only [ad] <;> omega) (by simp only [ad] <;> omega)))
  · exact key 2 0 x y (2 * n - 2 - x' - y') (by omega) (by omega) (Prod.ext (by simp only [ad] <;> omega) (Prod.ext (by simp only [ad] <;> omega) (by simp only [ad] <;> omega))) (Prod.ext (by simp only [ad] <;> omega) (Prod.ext (by simp only [ad] <;> omega) (by simp only [ad] <;> omega)))
  · exact key 1 2 x y' (2 * n - 2 - x - y) (by omega) (by omega) (Prod.ext (by simp only [ad] <;> omega) (Prod.ext (by simp only [ad] <;> omega) (by simp only [ad] <;> omega))) (Prod.ext (by simp only [ad] <;> omega) (Prod.ext (by simp only [ad] <;> omega) (by simp only [ad] <;> omega)))
  · exact key 1 0 x y' (2 * n - 2 - x - y) (by omega) (by omega) (Prod.ext (by simp only [ad] <;> omega) (Prod.ext (by simp only [ad] <;> omega) (by simp only [ad] <;> omega))) (Prod.ext (by simp only [ad] <;> omega) (Prod.ext (by simp only [ad] <;> omega) (by simp only [ad] <;> omega)))
  · exact key 2 1 x y (2 * n - 2 - x' - y') (by omega) (by omega) (Prod.ext (by simp only [ad] <;> omega) (Prod.ext (by simp only [ad] <;> omega) (by simp only [ad] <;> omega))) (Prod.ext (by simp only [ad] <;> omega) (Prod.ext (by simp only [ad] <;> omega) (by simp only [ad] <;> omega)))
  · exact key 0 1 x' y (2 * n - 2 - x - y) (by omega) (by omega) (Prod.ext (by simp only [ad] <;> omega) (Prod.ext (by simp only [ad] <;> omega) (by simp only [ad] <;> omega))) (Prod.ext (by simp only [ad] <;> omega) (Prod.ext (by simp only [ad] <;> omega) (by simp only [ad] <;> omega)))
/-- places of one small triangle are near one another. -/
theorem Nb.near {x y k x' y' k' : Nat} (h : Nb (x, y, k) (x', y', k')) : (x = x' ∧ y = y') ∨ (y' = y ∧ (x' + 1 = x ∨ x' = x + 1)) ∨ (y' + 1 = y ∧ (x' = x ∨ x' = x + 1)) ∨ (y' = y + 1 ∧ (x' = x ∨ x' + 1 = x)) := by
  obtain ⟨⟨i, j, l⟩, a, b, ha, hb, e1, e2⟩ := h
  rcases (show a = 0 ∨ a = 1 ∨ a = 2 by omega) with rfl | rfl | rfl <;> rcases (show b = 0 ∨ b = 1 ∨ b = 2 by omega) with rfl | rfl | rfl <;> simp only [ad, Prod.mk.injEq] at e1 e2 <;> omega
/-- the first colour's half of the triangle: the board and what lies behind its last side. -/
def Tri (n : Nat) (A : Nat → Prop) (u : Cel) : Prop := n ≤ u.2.1 ∨ (u.1 < n ∧ u.2.1 < n ∧ A (u.2.1 * n + u.1))
theorem at_div {n x y : Nat} (hx : x < n) : (y * n + x) / n = y ∧ (y * n + x) % n = x := by
  constructor
  · rw [Nat.mul_comm, Nat.mul_add_div (by omega), Nat.div_eq_of_lt hx]; omega
  · rw [Nat.mul_comm, Nat.mul_add_mod, Nat.mod_eq_of_lt hx]
theorem at_lt {n x y : Nat} (hx : x < n) (hy : y < n) : y * n + x < n * n := by
  have := Nat.mul_le_mul_right n (show y + 1 ≤ n by omega)
  rw [Nat.succ_mul] at this; omega
theorem at_self {n a : Nat} : a / n * n + a % n = a := by
  rw [Nat.mul_comm]; exact Nat.div_add_mod a n
/-- joined from the first row to the last, and from the first column to the last. -/
def J1 (A : Nat → Prop) (n : Nat) : Prop := ∃ a b, Pt A n a b ∧ a / n = 0 ∧ b / n = n - 1
def J2 (A : Nat → Prop) (n : Nat) : Prop := ∃ a b, Pt A n a b ∧ a % n = 0 ∧ b % n = n - 1
end Go.Proofs.Ytcibkchfdiijfaa
