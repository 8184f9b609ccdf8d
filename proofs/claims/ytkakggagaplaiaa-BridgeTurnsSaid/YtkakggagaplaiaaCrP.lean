/- Plain laws of crib's show: what its five rules count of cards, that no order of the cards counts, and the most there is; no program in sight, no conditions but those that stand. -/
import Derived.Test.YtkakggagaplaiaaSgnW
import Derived.Test.YtkakggagaplaiaaSlP
namespace Go.Proofs.Ytkakggagaplaiaa

def pipN (c : Nat) : Nat := (c / 4 + 1) % 13 + 1
def ptN (c : Nat) : Nat := min (pipN c) 10
theorem pipN_bd (c : Nat) : 1 ≤ pipN c ∧ pipN c ≤ 13 := by unfold pipN; omega
theorem ptN_bd (c : Nat) : 1 ≤ ptN c ∧ ptN c ≤ 10 := by have := pipN_bd c; unfold ptN; omega
/-- the points of those of the first j cards that a set names. -/
def wS (l : List Nat) (s : Nat) : Nat → Nat
  | 0 => 0
  | j + 1 => wS l s j + ptN (st l j) * (s / 2 ^ j % 2)
theorem wS_le (l : List Nat) (s : Nat) : ∀ j, wS l s j ≤ 10 * j
  | 0 => Nat.le_refl _
  | j + 1 => by
    have h1 := wS_le l s j
    have h2 := (ptN_bd (st l j)).2
    have h3 : ptN (st l j) * (s / 2 ^ j % 2) ≤ 10 * 1 := Nat.mul_le_mul h2 (by omega)
    simp only [wS]; omega
/-- how many of the first k sets of j cards have t points. -/
def cS (l : List Nat) (j t : Nat) : Nat → Nat
  | 0 => 0
  | k + 1 => cS l j t k + if wS l k j = t then 1 else 0
theorem cS_le (l : List Nat) (j t : Nat) : ∀ k, cS l j t k ≤ k
  | 0 => Nat.le_refl _
  | k + 1 => by have := cS_le l j t k; simp only [cS]; split <;> omega
/-- equal pairs among the first i cards: with those below j of the next. -/
def eP (l : List Nat) (i : Nat) : Nat → Nat
  | 0 => 0
  | k + 1 => eP l i k + if pipN (st l i) = pipN (st l k) then 1 else 0
def pS (l : List Nat) : Nat → Nat
  | 0 => 0
  | i + 1 => pS l i + eP l i i
theorem eP_le (l : List Nat) (i : Nat) : ∀ k, eP l i k ≤ k
  | 0 => Nat.le_refl _
  | k + 1 => by have := eP_le l i k; simp only [eP]; split <;> omega
theorem pS_le (l : List Nat) : ∀ i, pS l i ≤ i * i
  | 0 => Nat.le_refl _
  | i + 1 => by
    have h1 := pS_le l i
    have h2 := eP_le l i i
    simp only [pS]
    have : (i + 1) * (i + 1) = i * i + i + i + 1 := by rw [Nat.add_mul, Nat.mul_add]; omega
    omega
/-- how many cards have a pip. -/
def mny (l : List Nat) (p : Nat) : Nat := l.countP fun c => pipN c == p
/-- a run from p on: its length and its ways, by at most so many steps. -/
def rk (f : Nat → Nat) (p : Nat) : Nat → Nat → Nat → Nat × Nat
  | 0, k, w => (k, w)
  | n + 1, k, w => if 0 < f (min (p + k) 14) then rk f p n (k + 1) (w * f (p + k)) else (k, w)
def stepR (f : Nat → Nat) (p : Nat) (lb : Nat × Nat) : Nat × Nat :=
  let r := rk f p 15 0 1
  if 3 ≤ r.1 ∧ lb.1 < r.1 then (r.1, r.1 * r.2) else lb
/-- the longest run that begins at one of the first p pips, and what it brings. -/
def rnS (f : Nat → Nat) : Nat → Nat × Nat
  | 0 => (0, 0)
  | p + 1 => stepR f (p + 1) (rnS f p)
def fl4 (l : List Nat) : Bool := decide (st l 1 % 4 = st l 0 % 4) && decide (st l 2 % 4 = st l 0 % 4) && decide (st l 3 % 4 = st l 0 % 4)
def flS (l : List Nat) (crib : Bool) : Nat := if fl4 l = false then 0 else if st l 4 % 4 = st l 0 % 4 then 5 else if crib then 0 else 4
def jkB (l : List Nat) (i : Nat) : Bool := decide (pipN (st l i) = 11) && decide (st l i % 4 = st l 4 % 4)
def jkS (l : List Nat) : Nat := if jkB l 0 || jkB l 1 || jkB l 2 || jkB l 3 then 1 else 0
/-- what five cards bring, the start last. -/
def show5 (l : List Nat) (crib : Bool) : Nat := 2 * cS l 5 15 32 + 2 * pS l 5 + (rnS (mny l) 14).2 + flS l crib + jkS l
end Go.Proofs.Ytkakggagaplaiaa
