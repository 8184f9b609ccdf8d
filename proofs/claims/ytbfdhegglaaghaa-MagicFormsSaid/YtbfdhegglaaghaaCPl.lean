/- Plain counting of squares of three rows, as magic.Count does it where nothing is given; no program in sight. -/
import Derived.Test.YtbfdhegglaaghaaISp
namespace Go.Proofs.Ytbfdhegglaaghaa

/-- the row that was closed last has another sum than the first one. -/
def badP : List Nat → Bool
  | [a, b, c, d, e, f] => Bool.not (d + e + f == a + b + c)
  | [a, b, c, _, _, _, g, h, i] => Bool.not (g + h + i == a + b + c)
  | _ => false
def leafP (p : List Nat) : Nat := if 2 ≤ (kindI (p.map Int.ofNat) 3).1 then 1 else 0
def sumV (f : Nat → Nat) : Nat → Nat
  | 0 => 0
  | k + 1 => sumV f k + f (k + 1)
def cntP : Nat → Nat → List Nat → Nat
  | 0, _, p => leafP p
  | k + 1, used, p => sumV (fun v => if used / 2 ^ v % 2 = 1 then 0 else if badP (p ++ [v]) then 0 else cntP k (used ||| 2 ^ v) (p ++ [v])) 9
theorem cntP_succ (k used : Nat) (p : List Nat) : cntP (k + 1) used p = sumV (fun v => if used / 2 ^ v % 2 = 1 then 0 else if badP (p ++ [v]) then 0 else cntP k (used ||| 2 ^ v) (p ++ [v])) 9 := rfl
theorem sumV_le {f : Nat → Nat} {M : Nat} (h : ∀ v, f v ≤ M) : ∀ k, sumV f k ≤ k * M := by
  intro k
  induction k with
  | zero => simp [sumV]
  | succ k ih => show sumV f k + f (k + 1) ≤ _; rw [Nat.add_mul, Nat.one_mul]; exact Nat.add_le_add ih (h _)
theorem cntP_le : ∀ (k used : Nat) (p : List Nat), cntP k used p ≤ 9 ^ k := by
  intro k
  induction k with
  | zero => intro used p; show leafP p ≤ 1; unfold leafP; split <;> omega
  | succ k ih =>
    intro used p
    rw [cntP_succ, Nat.pow_succ, Nat.mul_comm]
    exact sumV_le (fun v => by split; exact Nat.zero_le _; split; exact Nat.zero_le _; exact ih _ _) 9
end Go.Proofs.Ytbfdhegglaaghaa
