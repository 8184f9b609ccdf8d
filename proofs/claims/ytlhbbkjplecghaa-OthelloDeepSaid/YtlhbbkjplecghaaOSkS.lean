/- Othello, plain: who moves, the lead, the search within bounds, and the value without bounds; no program in sight. -/
import Derived.Test.YtlhbbkjplecghaaOLaw
namespace Go.Proofs.Ytlhbbkjplecghaa

def moverS (s : List Nat) (a b who : Nat) : Nat :=
  if placesN s a b who (a * b) ≠ [] then who else if placesN s a b (3 - who) (a * b) ≠ [] then 3 - who else 0
def leadN (s : List Nat) (who : Nat) : Nat → Int
  | 0 => 0
  | j + 1 => leadN s who j + if st s j = who then 1 else if st s j = 3 - who then -1 else 0
/-- the loop of seek: 'sub' searches behind a place. -/
def seekL (sub : Nat → Int → Int → Int) (low high : Int) : List Nat → Int × Int → Int × Int
  | [], acc => acc
  | p :: l, acc =>
    let n := sub p (-high) (-(max low acc.1))
    let acc2 := if -n > acc.1 then (-n, (p : Int)) else acc
    if acc2.1 ≥ high then acc2 else seekL sub low high l acc2
def seekS (a b : Nat) : Nat → List Nat → Nat → Nat → Int → Int → Int × Int
  | 0, _, _, _, _, _ => (0, -1)
  | f + 1, s, who, deep, low, high =>
    let m := moverS s a b who
    if deep = 0 ∨ m = 0 then (leadN s who (a * b), -1)
    else if m ≠ who then (-(seekS a b f s m deep (-high) (-low)).1, -1)
    else seekL (fun p lo hi => (seekS a b f (putS s a b who p) (3 - who) (deep - 1) lo hi).1) low high (placesN s a b who (a * b)) (-1000, -1)
/-- the value without bounds. -/
def bestL (sub : Nat → Int) : List Nat → Int × Int → Int × Int
  | [], acc => acc
  | p :: l, acc => bestL sub l (if -(sub p) > acc.1 then (-(sub p), (p : Int)) else acc)
def valS (a b : Nat) : Nat → List Nat → Nat → Nat → Int
  | 0, _, _, _ => 0
  | f + 1, s, who, deep =>
    let m := moverS s a b who
    if deep = 0 ∨ m = 0 then leadN s who (a * b)
    else if m ≠ who then -(valS a b f s m deep)
    else (bestL (fun p => valS a b f (putS s a b who p) (3 - who) (deep - 1)) (placesN s a b who (a * b)) (-1000, -1)).1

theorem lead_le (s : List Nat) (who : Nat) : ∀ j : Nat, -(j : Int) ≤ leadN s who j ∧ leadN s who j ≤ j := by
  intro j
  induction j with
  | zero => simp [leadN]
  | succ j ih => rw [leadN]; push_cast; split <;> (try split) <;> omega

theorem bestL_ge (sub : Nat → Int) : ∀ (l : List Nat) (acc : Int × Int), acc.1 ≤ (bestL sub l acc).1 ∧ ∀ p ∈ l, -(sub p) ≤ (bestL sub l acc).1 := by
  intro l
  induction l with
  | nil => intro acc; exact ⟨Int.le_refl _, by simp⟩
  | cons p l ih =>
    intro acc
    rw [bestL]
    obtain ⟨h1, h2⟩ := ih (if -(sub p) > acc.1 then (-(sub p), (p : Int)) else acc)
    refine ⟨?_, ?_⟩
    · split at h1 <;> rename_i h <;> simp only [h, if_true, if_false] <;> first | omega | exact h1
    · intro q hq
      rw [List.mem_cons] at hq
      rcases hq with rfl | hq
      · split at h1 <;> rename_i h <;> simp only [h, if_true, if_false] <;> first | omega | (simp only at h1; omega)
      · exact h2 q hq
theorem bestL_le (sub : Nat → Int) (M : Int) : ∀ (l : List Nat) (acc : Int × Int), acc.1 ≤ M → (∀ p ∈ l, -(sub p) ≤ M) → (bestL sub l acc).1 ≤ M := by
  intro l
  induction l with
  | nil => intro acc h _; exact h
  | cons p l ih =>
    intro acc h hp
    rw [bestL]
    refine ih _ ?_ (fun q hq => hp q (by simp [hq]))
    split
    · exact hp p (by simp)
    · exact h
def Fits (val : Nat → Int) (sub : Nat → Int → Int → Int) : Prop := ∀ p lo hi, (sub p lo hi < hi → val p ≤ sub p lo hi) ∧ (sub p lo hi > lo → val p ≥ sub p lo hi)
theorem seekL_fits (val : Nat → Int) (sub : Nat → Int → Int → Int) (hf : Fits val sub) (low high : Int) : ∀ (l : List Nat) (acc : Int × Int),
    acc.1 ≤ (seekL sub low high l acc).1 ∧ ((seekL sub low high l acc).1 < high → ∀ p ∈ l, -(val p) ≤ (seekL sub low high l acc).1)
      ∧ ((seekL sub low high l acc).1 > low → (seekL sub low high l acc).1 > acc.1 → ∃ p ∈ l, -(val p) ≥ (seekL sub low high l acc).1) := by
  intro l
  induction l with
  | nil => intro acc; simp [seekL]
  | cons p l ih =>
    intro acc
    rw [seekL]
    obtain ⟨f1, f2⟩ := hf p (-high) (-(max low acc.1))
    generalize sub p (-high) (-(max low acc.1)) = n at *
    by_cases h : -n > acc.1
    · rw [if_pos h]
      simp only
      by_cases h2 : -n ≥ high
      · rw [if_pos h2]
        refine ⟨by simp only; omega, fun h3 => by simp only at h3; omega, fun h3 _ => ⟨p, by simp, ?_⟩⟩
        simp only at h3 ⊢
        have := f1 (by omega)
        omega
      · rw [if_neg h2]
        obtain ⟨i1, i2, i3⟩ := ih (-n, (p : Int))
        generalize (seekL sub low high l (-n, (p : Int))).1 = r at *
        simp only at i1 i3
        refine ⟨by omega, ?_, ?_⟩
        · intro h3 q hq
          rw [List.mem_cons] at hq
          rcases hq with rfl | hq
          · have := f2 (by omega); omega
          · exact i2 h3 q hq
        · intro h3 h4
          by_cases h5 : r > -n
          · obtain ⟨q, hq, hv⟩ := i3 h3 h5
            exact ⟨q, by simp [hq], hv⟩
          · have := f1 (by omega)
            exact ⟨p, by simp, by omega⟩
    · rw [if_neg h]
      by_cases h2 : acc.1 ≥ high
      · rw [if_pos h2]
        exact ⟨Int.le_refl _, fun h3 => by omega, fun _ h4 => by omega⟩
      · rw [if_neg h2]
        obtain ⟨i1, i2, i3⟩ := ih acc
        generalize (seekL sub low high l acc).1 = r at *
        refine ⟨i1, ?_, ?_⟩
        · intro h3 q hq
          rw [List.mem_cons] at hq
          rcases hq with rfl | hq
          · have := f2 (by omega); omega
          · exact i2 h3 q hq
        · intro h3 h4
          obtain ⟨q, hq, hv⟩ := i3 h3 h4
          exact ⟨q, by simp [hq], hv⟩
theorem seek_fits (a b : Nat) : ∀ (f : Nat) (s : List Nat) (who deep : Nat) (low high : Int),
    ((seekS a b f s who deep low high).1 < high → valS a b f s who deep ≤ (seekS a b f s who deep low high).1) ∧ ((seekS a b f s who deep low high).1 > low → valS a b f s who deep ≥ (seekS a b f s who deep low high).1) := by
  intro f
  induction f with
  | zero => intro s who deep low high; simp [seekS, valS]
  | succ f ih =>
    intro s who deep low high
    rw [seekS, valS]
    by_cases h1 : deep = 0 ∨ moverS s a b who = 0
    · rw [if_pos h1, if_pos h1]; exact ⟨fun _ => Int.le_refl _, fun _ => Int.le_refl _⟩
    · rw [if_neg h1, if_neg h1]
      by_cases h2 : moverS s a b who ≠ who
      · rw [if_pos h2, if_pos h2]
        obtain ⟨i1, i2⟩ := ih s (moverS s a b who) deep (-high) (-low)
        generalize (seekS a b f s (moverS s a b who) deep (-high) (-low)).1 = n at *
        simp only
        exact ⟨fun h => by have := i2 (by omega); omega, fun h => by have := i1 (by omega); omega⟩
      · rw [if_neg h2, if_neg h2]
        have hf : Fits (fun p => valS a b f (putS s a b who p) (3 - who) (deep - 1)) (fun p lo hi => (seekS a b f (putS s a b who p) (3 - who) (deep - 1) lo hi).1) := fun p lo hi => ih _ _ _ lo hi
        obtain ⟨i1, i2, i3⟩ := seekL_fits _ _ hf low high (placesN s a b who (a * b)) (-1000, -1)
        generalize (seekL (fun p lo hi => (seekS a b f (putS s a b who p) (3 - who) (deep - 1) lo hi).1) low high (placesN s a b who (a * b)) (-1000, -1)).1 = n at *
        obtain ⟨g1, g2⟩ := bestL_ge (fun p => valS a b f (putS s a b who p) (3 - who) (deep - 1)) (placesN s a b who (a * b)) (-1000, -1)
        simp only at i1 i3 g1
        refine ⟨fun h => bestL_le _ _ _ _ i1 (i2 h), fun h => ?_⟩
        by_cases h3 : n > -1000
        · obtain ⟨p, hp, hv⟩ := i3 h h3
          have := g2 p hp

          omega
        · omega
theorem bestL_bd (val : Nat → Int) (M : Int) (hM : M < 1000) (hv : ∀ p, -M ≤ val p ∧ val p ≤ M) : ∀ (l : List Nat) (acc : Int × Int), (-M ≤ acc.1 ∧ acc.1 ≤ M) ∨ (acc.1 = -1000 ∧ l ≠ []) → -M ≤ (bestL val l acc).1 ∧ (bestL val l acc).1 ≤ M := by
  intro l
  induction l with
  | nil => intro acc h; rcases h with h | h; exact h; exact absurd rfl h.2
  | cons p l ih =>
    intro acc h
    rw [bestL]
    refine ih _ (.inl ?_)
    have := hv p
    split
    · simp only; omega
    · rcases h with h | h
      · exact h
      · omega
theorem seekL_bd (sub : Nat → Int → Int → Int) (M low high : Int) (hM : M < 1000) (hv : ∀ p lo hi, -M ≤ sub p lo hi ∧ sub p lo hi ≤ M) : ∀ (l : List Nat) (acc : Int × Int), (-M ≤ acc.1 ∧ acc.1 ≤ M) ∨ (acc.1 = -1000 ∧ l ≠ []) → -M ≤ (seekL sub low high l acc).1 ∧ (seekL sub low high l acc).1 ≤ M := by
  intro l
  induction l with
  | nil => intro acc h; rcases h with h | h; exact h; exact absurd rfl h.2
  | cons p l ih =>
    intro acc h
    rw [seekL]
    have hn := hv p (-high) (-(max low acc.1))
    generalize sub p (-high) (-(max low acc.1)) = n at *
    have ha : -M ≤ (if -n > acc.1 then (-n, (p : Int)) else acc).1 ∧ (if -n > acc.1 then (-n, (p : Int)) else acc).1 ≤ M := by
      split
      · simp only; omega
      · rcases h with h | h
        · exact h
        · omega
    by_cases hh : (if -n > acc.1 then (-n, (p : Int)) else acc).1 ≥ high
    · rw [if_pos hh]; exact ha
    · rw [if_neg hh]; exact ih _ (.inl ha)
theorem seekL_root (val : Nat → Int) (sub : Nat → Int → Int → Int) (hf : Fits val sub) (hv : ∀ p lo hi, -999 ≤ sub p lo hi ∧ sub p lo hi ≤ 999) : ∀ (l : List Nat) (acc : Int × Int), -1000 ≤ acc.1 → acc.1 < 1000 → seekL sub (-1000) 1000 l acc = bestL val l acc := by
  intro l
  induction l with
  | nil => intro acc _ _; rfl
  | cons p l ih =>
    intro acc h1 h2
    rw [seekL, bestL, show max (-1000) acc.1 = acc.1 by omega]
    have hn := hv p (-1000) (-acc.1)
    obtain ⟨f1, f2⟩ := hf p (-1000) (-acc.1)
    generalize sub p (-1000) (-acc.1) = n at *
    have f3 := f2 (by omega)
    by_cases h : -n > acc.1
    · have f4 := f1 (by omega)
      have e : val p = n := by omega
      rw [e, if_pos h]
      rw [if_neg (by simp only; omega)]
      exact ih _ (by simp only; omega) (by simp only; omega)
    · rw [if_neg h, if_neg (by omega), if_neg (show ¬ -(val p) > acc.1 by omega)]
      exact ih _ h1 h2
theorem mover_pos {s : List Nat} {a b who : Nat} (h0 : moverS s a b who ≠ 0) : (moverS s a b who = who ∧ placesN s a b who (a * b) ≠ []) ∨ (moverS s a b who = 3 - who ∧ placesN s a b (3 - who) (a * b) ≠ []) := by
  unfold moverS at *
  split
  · rename_i h; exact .inl ⟨rfl, h⟩
  · rename_i h
    rw [if_neg h] at h0
    split
    · rename_i h'; exact .inr ⟨rfl, h'⟩
    · rename_i h'; rw [if_neg h'] at h0; exact absurd rfl h0
theorem seek_bd (a b : Nat) (hn : a * b ≤ 100) : ∀ (f : Nat) (s : List Nat) (who deep : Nat) (low high : Int), 1 ≤ who → who ≤ 2 → -100 ≤ (seekS a b f s who deep low high).1 ∧ (seekS a b f s who deep low high).1 ≤ 100 := by
  intro f
  induction f with
  | zero => intro s who deep low high _ _; simp [seekS]
  | succ f ih =>
    intro s who deep low high h1 h2
    rw [seekS]
    split
    · have := lead_le s who (a * b); simp only; omega
    · rename_i hm
      have hp := mover_pos (fun e => hm (.inr e))
      split
      · rename_i hne
        have := ih s (moverS s a b who) deep (-high) (-low) (by omega) (by omega)
        simp only; omega
      · rename_i heq
        refine seekL_bd _ 100 _ _ (by omega) (fun p lo hi => ih _ _ _ _ _ (by omega) (by omega)) _ _ (.inr ⟨rfl, ?_⟩)
        rcases hp with hp | hp
        · exact hp.2
        · omega
end Go.Proofs.Ytlhbbkjplecghaa
