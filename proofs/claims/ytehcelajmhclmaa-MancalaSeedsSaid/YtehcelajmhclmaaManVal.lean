/- Mancala's value as a function with fuel, and the weight that each sowing makes less; no conditions. -/
import Derived.Test.YtehcelajmhclmaaManSpec
namespace Go.Proofs.Ytehcelajmhclmaa

def tot (W : Nat → Nat) : List Nat → Nat → Nat
  | [], _ => 0
  | x :: l, i => x * W i + tot W l (i + 1)
theorem tot_set (W : Nat → Nat) (l : List Nat) : ∀ (k i v : Nat), i < l.length → tot W (l.set i v) k + st l i * W (k + i) = tot W l k + v * W (k + i) := by
  induction l with
  | nil => intro k i v h; simp at h
  | cons x l ih =>
    intro k i v h
    cases i with
    | zero => simp [st, tot]; omega
    | succ i =>
      have := ih (k + 1) i v (by simpa using h)
      have e : st (x :: l) (i + 1) = st l i := by simp [st]
      rw [show k + 1 + i = k + (i + 1) by omega] at this
      simp only [List.set_cons_succ, tot, e]
      omega
theorem tot_app (W : Nat → Nat) (l r : List Nat) : ∀ k, tot W (l ++ r) k = tot W l k + tot W r (k + l.length) := by
  induction l with
  | nil => intro k; simp [tot]
  | cons x l ih =>
    intro k
    simp only [List.cons_append, tot, ih, List.length_cons]
    rw [show k + 1 + l.length = k + (l.length + 1) by omega]; omega
theorem tot_le (W : Nat → Nat) (l : List Nat) (i : Nat) : st l i * W i ≤ tot W l 0 := by
  by_cases h : i < l.length
  · have := tot_set W l 0 i 0 h
    rw [Nat.zero_add] at this; omega
  · unfold st; rw [List.getElem?_eq_none (by omega)]; simp
theorem tot_shift (W V : Nat → Nat) (l : List Nat) : ∀ (k m : Nat), (∀ i, i < l.length → W (k + i) = V (m + i)) → tot W l k = tot V l m := by
  induction l with
  | nil => intro k m _; rfl
  | cons x l ih =>
    intro k m h
    have h0 := h 0 (by simp)
    simp only [Nat.add_zero] at h0
    simp only [tot]
    rw [h0, ih (k + 1) (m + 1) (fun i hi => by have := h (i + 1) (by simp; omega); rwa [show k + 1 + i = k + (i + 1) by omega, show m + 1 + i = m + (i + 1) by omega])]

/-- a pit's weight: 1000 and its way to its owner's store; a store weighs nothing. -/
def wt (P i : Nat) : Nat := if i < P then 1000 + (P - i) else if P < i ∧ i ≤ 2 * P then 1000 + (2 * P + 1 - i) else 0
def wts (P : Nat) (l : List Nat) : Nat := tot (wt P) l 0
def layW (P : Nat) : Nat → Nat → Nat
  | 0, _ => 0
  | h + 1, a => wt P ((a + 1) % (2 * P + 1)) + layW P h ((a + 1) % (2 * P + 1))
theorem layW_less : ∀ P, P < 7 → ∀ a, a < P → ∀ h, h < 5 → 0 < h → layW P h a < h * wt P a := by decide
theorem layN_w (P : Nat) : ∀ (h : Nat) (l : List Nat) (a : Nat), 2 * P + 1 ≤ l.length → wts P (layN P h l a).1 = wts P l + layW P h a := by
  intro h
  induction h with
  | zero => intro l a _; rfl
  | succ h ih =>
    intro l a hl
    have hm : (a + 1) % (2 * P + 1) < 2 * P + 1 := Nat.mod_lt _ (by omega)
    rw [layN, ih _ _ (by rw [up1_len]; exact hl), layW]
    have := tot_set (wt P) l 0 ((a + 1) % (2 * P + 1)) (st l ((a + 1) % (2 * P + 1)) + 1) (by omega)
    rw [Nat.zero_add, Nat.add_mul, Nat.one_mul] at this
    unfold wts up1
    omega
theorem set_w (P : Nat) (l : List Nat) (i v : Nat) (hi : i < l.length) (h : v ≤ st l i ∨ wt P i = 0) : wts P (l.set i v) ≤ wts P l := by
  have := tot_set (wt P) l 0 i v hi
  rw [Nat.zero_add] at this
  unfold wts
  rcases h with h | h
  · have := Nat.mul_le_mul_right (wt P i) h; omega
  · rw [h] at this; omega
theorem wt_p (P : Nat) : wt P P = 0 := by unfold wt; rw [if_neg (by omega), if_neg (by omega)]
theorem wt_q (P : Nat) : wt P (2 * P + 1) = 0 := by unfold wt; rw [if_neg (by omega), if_neg (by omega)]
theorem grab_w (P : Nat) (l : List Nat) (a : Nat) (hl : l.length = 2 * P + 2) : wts P (grab l P a) ≤ wts P l := by
  unfold grab
  split
  · rename_i h
    exact Nat.le_trans (set_w _ _ _ _ (by simp; omega) (.inl (Nat.zero_le _))) (Nat.le_trans (set_w _ _ _ _ (by simp; omega) (.inl (Nat.zero_le _))) (set_w _ _ _ _ (by omega) (.inr (wt_p P))))
  · exact Nat.le_refl _
theorem zero_w (P : Nat) : ∀ (k : Nat) (l : List Nat) (i : Nat), i + k ≤ l.length → wts P (zero l i k) ≤ wts P l := by
  intro k
  induction k with
  | zero => intro l i _; exact Nat.le_refl _
  | succ k ih => intro l i h; exact Nat.le_trans (ih (l.set i 0) (i + 1) (by simp; omega)) (set_w _ _ _ _ (by omega) (.inl (Nat.zero_le _)))
theorem close_w (P : Nat) (l : List Nat) (hl : l.length = 2 * P + 2) : wts P (close l P) ≤ wts P l := by
  unfold close
  split
  · exact Nat.le_trans (zero_w _ _ _ _ (by simp [zero_len]; omega)) (Nat.le_trans (zero_w _ _ _ _ (by simp; omega)) (Nat.le_trans (set_w _ _ _ _ (by simp; omega) (.inr (wt_q P))) (set_w _ _ _ _ (by omega) (.inr (wt_p P)))))
  · exact Nat.le_refl _
/-- a sowing makes the weight less. -/
theorem sow_w (P : Nat) (l : List Nat) (pit : Nat) (hP : P < 7) (hl : l.length = 2 * P + 2) (hp : pit < P) (h0 : 0 < st l pit) (hw : wts P l < 5005) : wts P (sowS l P pit).1 < wts P l := by
  have h1 := tot_le (wt P) l pit
  have hwp : 1000 < wt P pit := by unfold wt; rw [if_pos hp]; omega
  have h5 : st l pit < 5 := by
    rcases Nat.lt_or_ge (st l pit) 5 with h | h
    · exact h
    · have h2 := Nat.mul_le_mul h (Nat.le_of_lt_succ (show 1001 < wt P pit + 1 by omega))
      unfold wts at hw; omega
  have hd := layW_less P hP pit hp (st l pit) h5 h0
  have hs := tot_set (wt P) l 0 pit 0 (by omega)
  rw [Nat.zero_add, Nat.zero_mul] at hs
  obtain ⟨i1, i2, i3⟩ := layN_ok P (st l pit) (l.set pit 0) pit (by simp; omega) (by omega)
  have e1 := layN_w P (st l pit) (l.set pit 0) pit (by simp; omega)
  obtain ⟨j1, j2⟩ := grab_ok (layN P (st l pit) (l.set pit 0) pit).1 P (layN P (st l pit) (l.set pit 0) pit).2 (by rw [i1]; simpa using hl)
  have e2 := grab_w P (layN P (st l pit) (l.set pit 0) pit).1 (layN P (st l pit) (l.set pit 0) pit).2 (by rw [i1]; simpa using hl)
  have e3 := close_w P (grab (layN P (st l pit) (l.set pit 0) pit).1 P (layN P (st l pit) (l.set pit 0) pit).2) (by rw [j1, i1]; simpa using hl)
  have e4 : wts P (l.set pit 0) = tot (wt P) (l.set pit 0) 0 := rfl
  have e5 : wts P l = tot (wt P) l 0 := rfl
  unfold sowS
  simp only
  omega
def turnL (s : List Nat) (P t : Nat) : List Nat := if t = 1 then s.drop (P + 1) ++ s.take (P + 1) else s
theorem rot_w (P : Nat) (l : List Nat) (hl : l.length = 2 * P + 2) : wts P (l.drop (P + 1) ++ l.take (P + 1)) = wts P l := by
  have e := tot_app (wt P) (l.take (P + 1)) (l.drop (P + 1)) 0
  rw [List.take_append_drop] at e
  unfold wts
  rw [tot_app, e]
  have l1 : (l.take (P + 1)).length = P + 1 := by simp; omega
  have l2 : (l.drop (P + 1)).length = P + 1 := by simp; omega
  rw [l1, l2, Nat.zero_add]
  have key : ∀ i, i < P + 1 → wt P i = wt P (P + 1 + i) := by
    intro i hi
    unfold wt
    by_cases h : i < P
    · rw [if_pos h, if_neg (by omega), if_pos (by omega)]; omega
    · rw [if_neg h, if_neg (by omega), if_neg (by omega), if_neg (by omega)]
  have a1 := tot_shift (wt P) (wt P) (l.take (P + 1)) 0 (P + 1) (fun i hi => by rw [Nat.zero_add]; exact key i (by omega))
  have a2 := tot_shift (wt P) (wt P) (l.drop (P + 1)) 0 (P + 1) (fun i hi => by rw [Nat.zero_add]; exact key i (by omega))
  omega
/-- what one pit is worth to the mover. -/
def oneV (rec : List Nat → Int × Int) (l : List Nat) (P pit : Nat) : Int :=
  let r := sowS l P pit
  if r.2 = true then (rec r.1).1 else -(rec (r.1.drop (P + 1) ++ r.1.take (P + 1))).1
def goV (rec : List Nat → Int × Int) (l : List Nat) (P : Nat) : Nat → Int × Int
  | 0 => (0, -1)
  | j + 1 =>
    if st l j = 0 then goV rec l P j
    else if (goV rec l P j).2 < 0 ∨ oneV rec l P j > (goV rec l P j).1 then (oneV rec l P j, (j : Int)) else goV rec l P j
def valV : Nat → Nat → List Nat → Int × Int
  | 0, _, _ => (0, -1)
  | f + 1, P, l => if overS l P = true then (((l.take (P + 1)).sum : Int) - ((l.drop (P + 1)).sum : Int), -1) else goV (valV f P) l P P
theorem rot_sum (P : Nat) (l : List Nat) : (l.drop (P + 1) ++ l.take (P + 1)).sum = l.sum := by
  have h2 : l.sum = (l.take (P + 1)).sum + (l.drop (P + 1)).sum := by rw [← List.sum_append, List.take_append_drop]
  rw [List.sum_append]; omega
theorem rot_len (P : Nat) (l : List Nat) : (l.drop (P + 1) ++ l.take (P + 1)).length = l.length := by simp; omega
def Small (S : Nat) (v : Int × Int) (P : Nat) : Prop := -(S : Int) ≤ v.1 ∧ v.1 ≤ S ∧ -1 ≤ v.2 ∧ v.2 < P
theorem goV_small (rec : List Nat → Int × Int) (S P : Nat) (l : List Nat) (hl : l.length = 2 * P + 2) (hS : l.sum ≤ S)
    (h : ∀ m : List Nat, m.length = 2 * P + 2 → m.sum ≤ S → -(S : Int) ≤ (rec m).1 ∧ (rec m).1 ≤ S) : ∀ j, j ≤ P → Small S (goV rec l P j) (j : Nat) ∧ ∀ pit, pit < P → -(S : Int) ≤ oneV rec l P pit ∧ oneV rec l P pit ≤ S := by
  have hone : ∀ pit, pit < P → -(S : Int) ≤ oneV rec l P pit ∧ oneV rec l P pit ≤ S := by
    intro pit hp
    obtain ⟨k1, k2⟩ := sowS_ok l P pit hl hp
    unfold oneV
    simp only
    split
    · exact h _ (by rw [k1, hl]) (by rw [k2]; exact hS)
    · have := h ((sowS l P pit).1.drop (P + 1) ++ (sowS l P pit).1.take (P + 1)) (by rw [rot_len, k1, hl]) (by rw [rot_sum, k2]; exact hS)
      omega
  intro j
  induction j with
  | zero => intro _; refine ⟨?_, hone⟩; unfold Small goV; simp
  | succ j ih =>
    intro hj
    refine ⟨?_, hone⟩
    obtain ⟨i1, i2, i3, i4⟩ := (ih (by omega)).1
    have ho := hone j (by omega)
    unfold Small
    rw [goV]
    split
    · exact ⟨i1, i2, i3, by omega⟩
    · split
      · exact ⟨ho.1, ho.2, by show (-1 : Int) ≤ (j : Int); omega, by show (j : Int) < ((j + 1 : Nat) : Int); omega⟩
      · exact ⟨i1, i2, i3, by omega⟩
theorem valV_small (S P : Nat) : ∀ (f : Nat) (l : List Nat), l.length = 2 * P + 2 → l.sum ≤ S → Small S (valV f P l) (P : Nat) := by
  intro f
  induction f with
  | zero => intro l _ _; unfold Small valV; simp; omega
  | succ f ih =>
    intro l hl hS
    rw [valV]
    split
    · have h2 : l.sum = (l.take (P + 1)).sum + (l.drop (P + 1)).sum := by rw [← List.sum_append, List.take_append_drop]
      unfold Small
      simp only
      exact ⟨by omega, by omega, by omega, by omega⟩
    · exact (goV_small (valV f P) S P l hl hS (fun m hm hs => ⟨(ih m hm hs).1, (ih m hm hs).2.1⟩) P (Nat.le_refl _)).1
end Go.Proofs.Ytehcelajmhclmaa
