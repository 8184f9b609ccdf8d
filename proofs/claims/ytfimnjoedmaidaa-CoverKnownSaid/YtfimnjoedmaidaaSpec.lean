/- Plain functions that count queens and Latin squares as the program's closures do, and what they count; no conditions. -/
import Derived.WalkKit
namespace Go.Proofs.Ytfimnjoedmaidaa
def sh (x : Nat) : Int := IntKind.u64.wrap (2 ^ x)
def band (a b : Int) : Int := bits .and .u64 a b
def bor (a b : Int) : Int := bits .or .u64 a b
def bxor (a b : Int) : Int := bits .xor .u64 a b
def sumQ (f : Nat → Nat) : Nat → Nat
  | 0 => 0
  | x + 1 => sumQ f x + f x
def free (n y : Nat) (c u d : Int) (x : Nat) : Bool := band c (sh x) == 0 && (band u (sh (x + y)) == 0 && band d (sh (x + n - y)) == 0)
def placeS (n : Nat) : Nat → Nat → Int → Int → Int → Nat
  | 0, _, _, _, _ => 1
  | f + 1, y, c, u, d => sumQ (fun x => if free n y c u d x then placeS n f (y + 1) (bor c (sh x)) (bor u (sh (x + y))) (bor d (sh (x + n - y))) else 0) n
theorem sumQ_le (f : Nat → Nat) (M : Nat) (h : ∀ x, f x ≤ M) (n : Nat) : sumQ f n ≤ n * M := by
  induction n with
  | zero => simp [sumQ]
  | succ n ih => simp only [sumQ, Nat.add_mul, Nat.one_mul]; have := h n; omega
theorem placeS_le (n : Nat) (hn : n ≤ 8) : ∀ f y c u d, placeS n f y c u d ≤ 8 ^ f := by
  intro f
  induction f with
  | zero => intro y c u d; simp [placeS]
  | succ f ih =>
    intro y c u d
    rw [placeS, Nat.pow_succ, Nat.mul_comm]
    refine Nat.le_trans (sumQ_le _ (8 ^ f) (fun x => ?_) n) (Nat.mul_le_mul_right _ hn)
    split
    · exact ih _ _ _ _
    · exact Nat.zero_le _
set_option maxRecDepth 100000 in
theorem queens_known : ∀ a < 8, (placeS (a + 1) (a + 1) 0 0 0 0 : Int) = [1, 0, 0, 2, 10, 4, 40, 92][a]?.getD 0 := by decide +kernel

def bshr (x : Int) (n : Nat) : Int := x / 2 ^ n
def skip (inn : Int) (cs : List Int) (x v : Nat) : Bool := band (bshr inn v) 1 == 1 || band (bshr (cs[x]?.getD 0) v) 1 == 1
def flip (cs : List Int) (x v : Nat) : List Int := cs.set x (bxor (cs[x]?.getD 0) (sh v))
def loopL (body : Nat → List Int → Nat × List Int) (inn : Int) (x : Nat) (cs : List Int) : Nat → Nat × List Int
  | 0 => (0, cs)
  | k + 1 =>
    let r := loopL body inn x cs k
    if skip inn r.2 x (k + 1) then r else
      let q := body (k + 1) (flip r.2 x (k + 1))
      (r.1 + q.1, flip q.2 x (k + 1))
def start (n at_ : Nat) (inn : Int) : Int := if at_ % n = 0 then 0 else inn
def fillS (n : Nat) : Nat → Nat → Int → List Int → Nat × List Int
  | 0, _, _, cs => (1, cs)
  | f + 1, at_, inn, cs => loopL (fun v cs' => fillS n f (at_ + 1) (bor (start n at_ inn) (sh v)) cs') (start n at_ inn) (at_ % n) cs n
theorem loopL_le (body : Nat → List Int → Nat × List Int) (inn : Int) (x : Nat) (cs : List Int) (M : Nat) (h : ∀ v cs, (body v cs).1 ≤ M) : ∀ k, (loopL body inn x cs k).1 ≤ k * M := by
  intro k
  induction k with
  | zero => simp [loopL]
  | succ k ih =>
    simp only [loopL, Nat.add_mul, Nat.one_mul]
    have := h (k + 1) (flip (loopL body inn x cs k).2 x (k + 1))
    split <;> first | omega | (simp only; omega)
theorem loopL_len (body : Nat → List Int → Nat × List Int) (inn : Int) (x : Nat) (cs : List Int) (h : ∀ v cs, (body v cs).2.length = cs.length) : ∀ k, (loopL body inn x cs k).2.length = cs.length := by
  intro k
  induction k with
  | zero => simp [loopL]
  | succ k ih =>
    simp only [loopL]
    split
    · exact ih
    · simp only [flip, List.length_set]; rw [h, List.length_set, ih]
theorem fillS_le (n : Nat) (hn : n ≤ 4) : ∀ f at_ inn cs, (fillS n f at_ inn cs).1 ≤ 4 ^ f := by
  intro f
  induction f with
  | zero => intro a i c; simp [fillS]
  | succ f ih =>
    intro a i c
    rw [fillS, Nat.pow_succ, Nat.mul_comm]
    exact Nat.le_trans (loopL_le _ _ _ _ (4 ^ f) (fun v cs => ih _ _ _) n) (Nat.mul_le_mul_right _ hn)
theorem fillS_len (n : Nat) : ∀ f at_ inn cs, (fillS n f at_ inn cs).2.length = cs.length := by
  intro f
  induction f with
  | zero => intro a i c; simp [fillS]
  | succ f ih => intro a i c; rw [fillS]; exact loopL_len _ _ _ _ (fun v cs => ih _ _ _) n
set_option maxRecDepth 100000 in
theorem latin_known : ∀ b < 4, ((fillS (b + 1) ((b + 1) * (b + 1)) 0 0 (List.replicate (b + 1) 0)).1 : Int) = [1, 2, 12, 576][b]?.getD 0 := by decide +kernel
end Go.Proofs.Ytfimnjoedmaidaa
