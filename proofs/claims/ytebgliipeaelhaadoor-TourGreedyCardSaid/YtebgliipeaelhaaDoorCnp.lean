/- Plain laws on the count of tours; conditions: none. -/
import Derived.Test.YtebgliipeaelhaaDoorWlp
namespace Go.Proofs.YtebgliipeaelhaaDoor

def sumP (f : Nat → Nat × Nat) (qs : List Nat) : Nat → Nat × Nat
  | 0 => (0, 0)
  | i + 1 => ((sumP f qs i).1 + (f (st qs i)).1, (sumP f qs i).2 + (f (st qs i)).2)
/-- the tours of l more steps from p, behind those places that s tells; and those of them that can be closed at x. -/
def cntS (a b x : Nat) : Nat → Nat → Nat → Nat × Nat
  | 0, p, _ => (1, if x ∈ nb a b p then 1 else 0)
  | l + 1, p, s => sumP (fun q => if s / 2 ^ q % 2 = 0 then cntS a b x l q (s ||| 2 ^ q) else (0, 0)) (nb a b p) (nb a b p).length
theorem sumP_le {f : Nat → Nat × Nat} {M : Nat} (hf : ∀ q, (f q).1 ≤ M ∧ (f q).2 ≤ (f q).1) (qs : List Nat) : ∀ i, (sumP f qs i).1 ≤ i * M ∧ (sumP f qs i).2 ≤ (sumP f qs i).1 := by
  intro i
  induction i with
  | zero => simp [sumP]
  | succ i ih => obtain ⟨h1, h2⟩ := hf (st qs i); simp only [sumP]; rw [Nat.add_mul, Nat.one_mul]; omega
theorem cntS_le (a b x : Nat) : ∀ l p s, (cntS a b x l p s).1 ≤ 8 ^ l ∧ (cntS a b x l p s).2 ≤ (cntS a b x l p s).1 := by
  intro l
  induction l with
  | zero => intro p s; simp only [cntS]; constructor; simp; split <;> omega
  | succ l ih =>
    intro p s
    have h := sumP_le (f := fun q => if s / 2 ^ q % 2 = 0 then cntS a b x l q (s ||| 2 ^ q) else (0, 0)) (M := 8 ^ l) (fun q => by
      show (if s / 2 ^ q % 2 = 0 then cntS a b x l q (s ||| 2 ^ q) else (0, 0)).1 ≤ _ ∧ _ ≤ (if s / 2 ^ q % 2 = 0 then cntS a b x l q (s ||| 2 ^ q) else (0, 0)).1
      by_cases h : s / 2 ^ q % 2 = 0
      · simp only [if_pos h]; exact ih q _
      · simp only [if_neg h]; exact ⟨Nat.zero_le _, Nat.le_refl _⟩) (nb a b p) (nb a b p).length
    rw [cntS, Nat.pow_succ]
    have h8 := Nat.mul_le_mul_right (8 ^ l) (nb_len a b p)
    omega
theorem sumP_zero {f : Nat → Nat × Nat} (qs : List Nat) (hf : ∀ q ∈ qs, (f q).2 = 0) : ∀ i, i ≤ qs.length → (sumP f qs i).2 = 0 := by
  intro i
  induction i with
  | zero => intro _; rfl
  | succ i ih =>
    intro hi
    have hm : st qs i ∈ qs := by unfold st; rw [List.getElem?_eq_getElem (by omega)]; exact List.getElem_mem _
    simp only [sumP]; rw [ih (by omega), hf _ hm]
theorem cntS_odd {a b x : Nat} (ha : a ≤ 8) (hb : b ≤ 8) : ∀ l p s, p < a * b → (colr a p + l + colr a x) % 2 = 0 → (cntS a b x l p s).2 = 0 := by
  intro l
  induction l with
  | zero =>
    intro p s hp hc
    simp only [cntS]
    rw [if_neg]
    intro hm
    have := nb_col ha hb hp hm
    omega
  | succ l ih =>
    intro p s hp hc
    rw [cntS]
    refine sumP_zero _ (fun q hq => ?_) _ (Nat.le_refl _)
    show (if s / 2 ^ q % 2 = 0 then cntS a b x l q (s ||| 2 ^ q) else (0, 0)).2 = 0
    by_cases h : s / 2 ^ q % 2 = 0
    · rw [if_pos h]
      have := nb_col ha hb hp hq
      exact ih q _ (nb_lt 8 hq) (by omega)
    · rw [if_neg h]
theorem or_small {s q N : Nat} (hs : s < 2 ^ N) (hq : q < N) : s ||| 2 ^ q < 2 ^ N := Nat.or_lt_two_pow hs (Nat.pow_lt_pow_right (by omega) hq)
end Go.Proofs.YtebgliipeaelhaaDoor
