/- Plain laws of pegs: no jump changes the class; no program in sight. -/
import Derived.Test.YtapoimadiiheaaaPgF
namespace Go.Proofs.Ytapoimadiiheaaa

/-- the pegs on places of a kind, up to place k. -/
def cntK (P : Nat → Bool) (s : List Nat) (k : Nat) : Nat := (List.range k).countP fun i => st s i == 1 && P i
def cntP (P : Nat → Bool) (s : List Nat) : Nat := cntK P s s.length
theorem cntK_succ (P : Nat → Bool) (s : List Nat) (k : Nat) : cntK P s (k + 1) = cntK P s k + if (st s k == 1 && P k) = true then 1 else 0 := by
  unfold cntK; rw [List.range_succ, List.countP_append]; simp [List.countP_cons]
theorem cntK_off {P : Nat → Bool} {s : List Nat} {i : Nat} (hi : i < s.length) (h : st s i = 1) : ∀ k, cntK P (s.set i 0) k + (if i < k ∧ P i = true then 1 else 0) = cntK P s k := by
  intro k
  induction k with
  | zero => simp [cntK]
  | succ k ih =>
    rw [cntK_succ, cntK_succ, ← ih, st_set _ _ _ _ hi]
    by_cases e : k = i
    · subst e
      rw [if_pos rfl, h]
      by_cases hp : P k = true <;> simp [hp]
    · rw [if_neg e]
      have : (i < k + 1 ∧ P i = true) ↔ (i < k ∧ P i = true) := by constructor <;> rintro ⟨a, b⟩ <;> exact ⟨by omega, b⟩
      simp only [this]
      omega
theorem cntK_on {P : Nat → Bool} {s : List Nat} {i : Nat} (hi : i < s.length) (h : st s i = 0) : ∀ k, cntK P (s.set i 1) k = cntK P s k + (if i < k ∧ P i = true then 1 else 0) := by
  intro k
  induction k with
  | zero => simp [cntK]
  | succ k ih =>
    rw [cntK_succ, cntK_succ, ih, st_set _ _ _ _ hi]
    by_cases e : k = i
    · subst e
      rw [if_pos rfl, h]
      by_cases hp : P k = true <;> simp [hp]
    · rw [if_neg e]
      have : (i < k + 1 ∧ P i = true) ↔ (i < k ∧ P i = true) := by constructor <;> rintro ⟨a, b⟩ <;> exact ⟨by omega, b⟩
      simp only [this]
      omega
def b1 (b : Bool) : Nat := if b then 1 else 0
/-- a jump over places of which an even number are of a kind leaves the parity of pegs of that kind. -/
theorem jump_par {P : Nat → Bool} {s : List Nat} {j : Jm} (hw : wfJ s.length j) (hc : canJ s j = true) (he : (b1 (P j.1) + b1 (P j.2.1) + b1 (P j.2.2)) % 2 = 0) : cntP P (doJ s j) % 2 = cntP P s % 2 := by
  obtain ⟨h1, h2, h3, h4, h5, h6⟩ := hw
  obtain ⟨c1, c2, c3⟩ := can_iff.1 hc
  unfold cntP
  rw [doJ_len]
  unfold doJ
  have e1 := cntK_off (P := P) h1 c1 s.length
  have e2 := cntK_off (P := P) (s := s.set j.1 0) (i := j.2.1) (by simpa using h2) (by rw [st_set _ _ _ _ h1, if_neg (Ne.symm h4)]; exact c2) s.length
  have e3 := cntK_on (P := P) (s := (s.set j.1 0).set j.2.1 0) (i := j.2.2) (by simpa using h3) (by rw [st_set _ _ _ _ (by simpa using h2), if_neg (Ne.symm h6), st_set _ _ _ _ h1, if_neg (Ne.symm h5)]; exact c3) s.length
  simp only [h1, h2, h3, true_and] at e1 e2 e3
  have k1 : (if P j.1 = true then 1 else 0) = b1 (P j.1) := rfl
  have k2 : (if P j.2.1 = true then 1 else 0) = b1 (P j.2.1) := rfl
  have k3 : (if P j.2.2 = true then 1 else 0) = b1 (P j.2.2) := rfl
  rw [k1] at e1
  rw [k2] at e2
  rw [k3] at e3
  omega
/-- the colours of a place: along both diagonals. -/
def col1 (w i : Nat) : Nat := (i % w + i / w) % 3
def col2 (w i : Nat) : Nat := (i % w + 30 - i / w) % 3
/-- the class of a board: four parities. -/
def clsS (w : Nat) (s : List Nat) : List Nat := [cntP (fun i => col1 w i < 2) s % 2, cntP (fun i => 0 < col1 w i) s % 2, cntP (fun i => col2 w i < 2) s % 2, cntP (fun i => 0 < col2 w i) s % 2]
/-- three places of three colours. -/
def tri (f : Nat → Nat) (j : Jm) : Prop := f j.1 < 3 ∧ f j.2.1 < 3 ∧ f j.2.2 < 3 ∧ f j.1 ≠ f j.2.1 ∧ f j.1 ≠ f j.2.2 ∧ f j.2.1 ≠ f j.2.2
theorem tri_even {f : Nat → Nat} {j : Jm} (h : tri f j) : (b1 (decide (f j.1 < 2)) + b1 (decide (f j.2.1 < 2)) + b1 (decide (f j.2.2 < 2))) % 2 = 0 ∧ (b1 (decide (0 < f j.1)) + b1 (decide (0 < f j.2.1)) + b1 (decide (0 < f j.2.2))) % 2 = 0 := by
  obtain ⟨h1, h2, h3, h4, h5, h6⟩ := h
  generalize f j.1 = x at *
  generalize f j.2.1 = y at *
  generalize f j.2.2 = z at *
  rcases (show x = 0 ∨ x = 1 ∨ x = 2 by omega) with rfl | rfl | rfl <;> rcases (show y = 0 ∨ y = 1 ∨ y = 2 by omega) with rfl | rfl | rfl <;> rcases (show z = 0 ∨ z = 1 ∨ z = 2 by omega) with rfl | rfl | rfl <;> first | exact absurd rfl h4 | exact absurd rfl h5 | exact absurd rfl h6 | decide
/-- no jump changes the class. -/
theorem cls_jump {w : Nat} {s : List Nat} {j : Jm} (hw : wfJ s.length j) (hc : canJ s j = true) (h1 : tri (col1 w) j) (h2 : tri (col2 w) j) : clsS w (doJ s j) = clsS w s := by
  obtain ⟨a1, a2⟩ := tri_even h1
  obtain ⟨a3, a4⟩ := tri_even h2
  unfold clsS
  rw [jump_par hw hc a1, jump_par hw hc a2, jump_par hw hc a3, jump_par hw hc a4]
theorem cls_rch {w : Nat} {J : List Jm} {s t : List Nat} (hJ : ∀ j ∈ J, wfJ s.length j ∧ tri (col1 w) j ∧ tri (col2 w) j) (h : Rch J s t) : clsS w t = clsS w s := by
  induction h with
  | refl => rfl
  | step h1 h2 h3 ih =>
    obtain ⟨k1, k2, k3⟩ := hJ _ h2
    rw [cls_jump (by rw [h1.len]; exact k1) h3 k2 k3]; exact ih
end Go.Proofs.Ytapoimadiiheaaa
