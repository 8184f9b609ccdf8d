/- Signs in a row on a board, in plain words; no conditions. -/
import Derived.Test.YtfoojdkbonmmgaaGrd
namespace Go.Proofs.Ytfoojdkbonmmgaa

/-- the sign at a place; -1 beside the board. -/
def cf (W H : Nat) (cs : List Nat) (x y : Int) : Int := if 0 ≤ x ∧ x < W ∧ 0 ≤ y ∧ y < H then ((st cs (y.toNat * W + x.toNat) : Nat) : Int) else -1
/-- r places on from a place are who's. -/
def ext (c : Int → Int → Int) (who x y a b : Int) (r : Nat) : Prop := ∀ t : Nat, 1 ≤ t → t ≤ r → c (x + a * t) (y + b * t) = who
theorem ext_zero (c : Int → Int → Int) (who x y a b : Int) : ext c who x y a b 0 := fun t h1 h2 => absurd h1 (by omega)
theorem ext_succ {c : Int → Int → Int} {who x y a b : Int} {r : Nat} (h : ext c who x y a b r) (h2 : c (x + a * (r + 1 : Nat)) (y + b * (r + 1 : Nat)) = who) : ext c who x y a b (r + 1) := fun t h3 h4 => by
  rcases Nat.lt_or_ge r t with h5 | h5
  · obtain rfl : t = r + 1 := by omega
    exact h2
  · exact h t h3 h5
theorem ext_le {c : Int → Int → Int} {who x y a b : Int} {r p : Nat} (h : ext c who x y a b p) (h2 : c (x + a * (r + 1 : Nat)) (y + b * (r + 1 : Nat)) ≠ who) : p ≤ r := by
  rcases Nat.lt_or_ge r p with h5 | h5
  · exact absurd (h (r + 1) (by omega) h5) h2
  · exact h5
theorem cf_in {W H : Nat} {cs : List Nat} {x y : Int} {who : Int} (h : cf W H cs x y = who) (hw : 0 ≤ who) : 0 ≤ x ∧ x < W ∧ 0 ≤ y ∧ y < H := by
  unfold cf at h
  split at h
  · assumption
  · omega
theorem cf_at {W H : Nat} {cs : List Nat} {u v : Nat} (hu : u < W) (hv : v < H) : cf W H cs u v = ((st cs (v * W + u) : Nat) : Int) := by
  unfold cf
  rw [if_pos ⟨by omega, by omega, by omega, by omega⟩]; rfl
theorem ext_bound {W H : Nat} {cs : List Nat} {who x y a b : Int} {r : Nat} (hW : W ≤ 10) (hH : H ≤ 10) (hx : 0 ≤ x ∧ x < W) (hy : 0 ≤ y ∧ y < H) (hw : 0 ≤ who) (ha : -1 ≤ a ∧ a ≤ 1 ∧ -1 ≤ b ∧ b ≤ 1 ∧ (a ≠ 0 ∨ b ≠ 0)) (h : ext (cf W H cs) who x y a b r) : r ≤ 9 := by
  rcases Nat.lt_or_ge 9 r with h5 | h5
  · exfalso
    have h1 := cf_in (h 10 (by omega) (by omega)) hw
    obtain ⟨a1, a2, b1, b2, ab⟩ := ha
    rcases (show a = -1 ∨ a = 0 ∨ a = 1 by omega) with rfl | rfl | rfl <;> rcases (show b = -1 ∨ b = 0 ∨ b = 1 by omega) with rfl | rfl | rfl <;> omega
  · exact h5
def dx4 (j : Nat) : Int := if j = 1 then 0 else 1
def dy4 (j : Nat) : Int := if j = 0 then 0 else if j = 3 then -1 else 1
/-- a row of k through a place. -/
def Row4 (c : Int → Int → Int) (who x y : Int) (k : Nat) : Prop := ∃ j : Nat, j < 4 ∧ ∃ p q : Nat, ext c who x y (dx4 j) (dy4 j) p ∧ ext c who x y (-(dx4 j)) (-(dy4 j)) q ∧ k ≤ p + q + 1
end Go.Proofs.Ytfoojdkbonmmgaa
