/- Plain laws of a play: what is played ahead of a refused move is played; no program's step in sight. -/
import Derived.Test.YtefjliblaeadfaaKey
namespace Go.Proofs.Ytefjliblaeadfaa

/-- where a play stands: the board, what each has taken, the boards seen, the passes. -/
structure Ps where
  s : List Nat
  t0 : Nat
  t1 : Nat
  ks : List (List Nat)
  ps : Nat
def Ps.next (z : Ps) (i : Nat) (R : List Nat × Nat × Nat) : Ps := ⟨R.1, if i % 2 = 0 then z.t0 + R.2.1 else z.t0, if i % 2 = 0 then z.t1 else z.t1 + R.2.1, R.1 :: z.ks, 0⟩
/-- one move: what is wrong with it, and what it leaves. -/
def plStep (a : Nat) (z : Ps) (i : Nat) (m : Int) : Ps × Nat :=
  if z.ps = 2 then (z, 9) else if m = -1 then ({ z with ps := z.ps + 1 }, 0) else
    if m < 0 ∨ (z.s.length : Int) ≤ m then (z, 3) else
      if (putS z.s a (1 + i % 2) m.toNat).2.2 ≠ 0 then (z, (putS z.s a (1 + i % 2) m.toNat).2.2) else
        if (putS z.s a (1 + i % 2) m.toNat).1 ∈ z.ks then (z, 8) else (z.next i (putS z.s a (1 + i % 2) m.toNat), 0)
def playF (a : Nat) : List Int → Nat → Ps → Ps × Nat × Nat
  | [], i, z => (z, i, 0)
  | m :: l, i, z => if (plStep a z i m).2 = 0 then playF a l (i + 1) (plStep a z i m).1 else (z, i, (plStep a z i m).2)
def playS (a : Nat) (s : List Nat) (l : List Int) : Ps × Nat × Nat := playF a l 0 ⟨s, 0, 0, [s], 0⟩
theorem playF_law (a : Nat) : ∀ (l : List Int) (i : Nat) (z : Ps), i ≤ (playF a l i z).2.1 ∧ (playF a l i z).2.1 ≤ i + l.length ∧ ((playF a l i z).2.2 = 0 ↔ (playF a l i z).2.1 = i + l.length) ∧ playF a (l.take ((playF a l i z).2.1 - i)) i z = ((playF a l i z).1, (playF a l i z).2.1, 0) := by
  intro l
  induction l with
  | nil => intro i z; simp [playF]
  | cons m l ih =>
    intro i z
    by_cases h : (plStep a z i m).2 = 0
    · have e : playF a (m :: l) i z = playF a l (i + 1) (plStep a z i m).1 := by rw [playF, if_pos h]
      obtain ⟨h1, h2, h3, h4⟩ := ih (i + 1) (plStep a z i m).1
      rw [e]
      refine ⟨by omega, by simp; omega, by rw [h3]; simp; omega, ?_⟩
      have e2 : (playF a l (i + 1) (plStep a z i m).1).2.1 - i = ((playF a l (i + 1) (plStep a z i m).1).2.1 - (i + 1)) + 1 := by omega
      rw [e2, List.take_succ_cons, playF, if_pos h, h4]
    · have e : playF a (m :: l) i z = (z, i, (plStep a z i m).2) := by rw [playF, if_neg h]
      rw [e]
      refine ⟨Nat.le_refl _, by simp, ?_, by simp [playF]⟩
      simp [h]
theorem playS_law (a : Nat) (s : List Nat) (l : List Int) : (playS a s l).2.1 ≤ l.length ∧ ((playS a s l).2.2 = 0 ↔ (playS a s l).2.1 = l.length) ∧ playS a s (l.take (playS a s l).2.1) = ((playS a s l).1, (playS a s l).2.1, 0) := by
  obtain ⟨_, h2, h3, h4⟩ := playF_law a l 0 ⟨s, 0, 0, [s], 0⟩
  unfold playS
  refine ⟨by omega, by rw [h3]; omega, h4⟩
/-- the play up to move k. -/
theorem playF_step (a : Nat) {l : List Int} {k : Nat} (hk : k < l.length) (z : Ps) : playF a (l.drop k) k z = if (plStep a z k (l[k]?.getD 0)).2 = 0 then playF a (l.drop (k + 1)) (k + 1) (plStep a z k (l[k]?.getD 0)).1 else (z, k, (plStep a z k (l[k]?.getD 0)).2) := by
  rw [List.drop_eq_getElem_cons hk, playF, List.getElem?_eq_getElem hk]; rfl
theorem playF_end (a : Nat) (l : List Int) (z : Ps) : playF a (l.drop l.length) l.length z = (z, l.length, 0) := by rw [List.drop_length]; rfl
end Go.Proofs.Ytefjliblaeadfaa
