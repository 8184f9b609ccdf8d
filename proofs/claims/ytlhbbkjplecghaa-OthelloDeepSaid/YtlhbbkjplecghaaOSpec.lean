/- Othello as functions on lists: rays, what a move turns, places, a move; no program in sight, no conditions. -/
import Derived.Test.YtlhbbkjplecghaaGrd
namespace Go.Proofs.Ytlhbbkjplecghaa

def dirs : List (Int × Int) := [(1, 0), (1, 1), (0, 1), (-1, 1), (-1, 0), (-1, -1), (0, -1), (1, -1)]
def dxs (j : Nat) : Int := (dirs[j]?.getD (0, 0)).1
def dys (j : Nat) : Int := (dirs[j]?.getD (0, 0)).2
theorem dir_ok : ∀ j, j < 8 → -1 ≤ dxs j ∧ dxs j ≤ 1 ∧ -1 ≤ dys j ∧ dys j ≤ 1 ∧ (dxs j ≠ 0 ∨ dys j ≠ 0) := by decide
def inb (a b : Nat) (x y : Int) : Prop := 0 ≤ x ∧ x < a ∧ 0 ≤ y ∧ y < b
instance (a b : Nat) (x y : Int) : Decidable (inb a b x y) := by unfold inb; infer_instance
def pl (a : Nat) (x y : Int) : Nat := y.toNat * a + x.toNat
/-- the signs from a place on in a direction: those of the other up to one's own. -/
def rayL (s : List Nat) (a b who : Nat) (dx dy : Int) : Nat → Int → Int → List Nat → List Nat
  | 0, _, _, _ => []
  | f + 1, x, y, acc =>
    if inb a b (x + dx) (y + dy) then
      if st s (pl a (x + dx) (y + dy)) = 3 - who then rayL s a b who dx dy f (x + dx) (y + dy) (acc ++ [pl a (x + dx) (y + dy)])
      else if st s (pl a (x + dx) (y + dy)) = who then acc else []
    else []
def rayAt (s : List Nat) (a b who at0 j : Nat) : List Nat := rayL s a b who (dxs j) (dys j) 11 ((at0 % a : Nat) : Int) ((at0 / a : Nat) : Int) []
def turnedN (s : List Nat) (a b who at0 : Nat) : Nat → List Nat
  | 0 => []
  | j + 1 => turnedN s a b who at0 j ++ rayAt s a b who at0 j
def turnedS (s : List Nat) (a b who at0 : Nat) : List Nat := if st s at0 = 0 then turnedN s a b who at0 8 else []
def placesN (s : List Nat) (a b who : Nat) : Nat → List Nat
  | 0 => []
  | j + 1 => placesN s a b who j ++ if turnedS s a b who j = [] then [] else [j]
def setAll (who : Nat) : List Nat → List Nat → List Nat
  | s, [] => s
  | s, p :: l => setAll who (s.set p who) l
def putS (s : List Nat) (a b who at0 : Nat) : List Nat := setAll who (s.set at0 who) (turnedS s a b who at0)
theorem pl_lt {a b : Nat} {x y : Int} (h : inb a b x y) : pl a x y < a * b := by
  obtain ⟨h1, h2, h3, h4⟩ := h
  unfold pl
  have : y.toNat + 1 ≤ b := by omega
  have := Nat.mul_le_mul_right a this
  rw [Nat.add_mul, Nat.one_mul, Nat.mul_comm b a] at this
  omega
theorem rayL_mem (s : List Nat) (a b who : Nat) (dx dy : Int) : ∀ (f : Nat) (x y : Int) (acc : List Nat), (∀ p ∈ acc, st s p = 3 - who ∧ p < a * b) → ∀ p ∈ rayL s a b who dx dy f x y acc, st s p = 3 - who ∧ p < a * b := by
  intro f
  induction f with
  | zero => intro x y acc _ p hp; simp [rayL] at hp
  | succ f ih =>
    intro x y acc h p hp
    rw [rayL] at hp
    split at hp
    · rename_i hi
      split at hp
      · rename_i hc
        refine ih _ _ _ (fun q hq => ?_) p hp
        rw [List.mem_append, List.mem_singleton] at hq
        rcases hq with hq | rfl
        · exact h q hq
        · exact ⟨hc, pl_lt hi⟩
      · split at hp
        · exact h p hp
        · simp at hp
    · simp at hp
theorem turned_mem (s : List Nat) (a b who at0 : Nat) : ∀ p ∈ turnedS s a b who at0, st s p = 3 - who ∧ p < a * b := by
  have hN : ∀ j, ∀ p ∈ turnedN s a b who at0 j, st s p = 3 - who ∧ p < a * b := by
    intro j
    induction j with
    | zero => intro p hp; simp [turnedN] at hp
    | succ j ih =>
      intro p hp
      rw [turnedN, List.mem_append] at hp
      rcases hp with hp | hp
      · exact ih p hp
      · exact rayL_mem s a b who _ _ _ _ _ [] (fun q hq => by simp at hq) p hp
  intro p hp
  unfold turnedS at hp
  split at hp
  · exact hN 8 p hp
  · simp at hp
theorem st_set (l : List Nat) (i v j : Nat) (h : i < l.length) : st (l.set i v) j = if j = i then v else st l j := by
  unfold st
  by_cases e : j = i
  · subst e; simp [h]
  · rw [if_neg e, List.getElem?_set_ne (by omega)]
theorem setAll_len (who : Nat) : ∀ (l s : List Nat), (setAll who s l).length = s.length := by
  intro l
  induction l with
  | nil => intro s; rfl
  | cons p l ih => intro s; rw [setAll, ih]; simp
theorem setAll_st (who : Nat) : ∀ (l s : List Nat) (j : Nat), (∀ p ∈ l, p < s.length) → st (setAll who s l) j = if j ∈ l then who else st s j := by
  intro l
  induction l with
  | nil => intro s j _; simp [setAll]
  | cons p l ih =>
    intro s j h
    rw [setAll, ih _ _ (fun q hq => by rw [List.length_set]; exact h q (by simp [hq])), st_set _ _ _ _ (h p (by simp))]
    by_cases h1 : j ∈ l
    · rw [if_pos h1, if_pos (by simp [h1])]
    · rw [if_neg h1]
      by_cases h2 : j = p
      · rw [if_pos h2, if_pos (by simp [h2])]
      · rw [if_neg h2, if_neg (by simp [h1, h2])]
theorem putS_st (s : List Nat) (a b who at0 j : Nat) (hl : s.length = a * b) (h : at0 < a * b) : st (putS s a b who at0) j = if j ∈ turnedS s a b who at0 then who else if j = at0 then who else st s j := by
  unfold putS
  rw [setAll_st _ _ _ _ (fun p hp => by rw [List.length_set, hl]; exact (turned_mem s a b who at0 p hp).2), st_set _ _ _ _ (by omega)]
end Go.Proofs.Ytlhbbkjplecghaa
