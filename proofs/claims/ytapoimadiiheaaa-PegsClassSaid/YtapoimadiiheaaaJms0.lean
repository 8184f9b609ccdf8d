/- Plain laws of the row of jumps that a board has room for: its members are just those; no program in sight. -/
import Derived.Test.YtapoimadiiheaaaPgJ
namespace Go.Proofs.Ytapoimadiiheaaa

/-- the four directions. -/
def dv : Nat → Int × Int
  | 0 => (1, 0)
  | 1 => (-1, 0)
  | 2 => (0, 1)
  | _ => (0, -1)
def inR (w h x y : Nat) (d : Int × Int) : Prop := 0 ≤ (x : Int) + 2 * d.1 ∧ (x : Int) + 2 * d.1 < w ∧ 0 ≤ (y : Int) + 2 * d.2 ∧ (y : Int) + 2 * d.2 < h
instance (w h x y : Nat) (d : Int × Int) : Decidable (inR w h x y d) := by unfold inR; exact inferInstance
def jD (w x y i : Nat) (d : Int × Int) : Jm := (i, (((y : Int) + d.2) * w + x + d.1).toNat, (((y : Int) + 2 * d.2) * w + (x + 2 * d.1)).toNat)
instance (s : List Nat) (j : Jm) : Decidable (okJ s j) := by unfold okJ; exact inferInstance
def dirJ (w h : Nat) (s : List Nat) (i k : Nat) : List Jm := if inR w h (i % w) (i / w) (dv k) ∧ okJ s (jD w (i % w) (i / w) i (dv k)) then [jD w (i % w) (i / w) i (dv k)] else []
def rowJ (w h : Nat) (s : List Nat) (i : Nat) : Nat → List Jm
  | 0 => []
  | k + 1 => rowJ w h s i k ++ dirJ w h s i k
def allJ (w h : Nat) (s : List Nat) : Nat → List Jm
  | 0 => []
  | i + 1 => allJ w h s i ++ rowJ w h s i 4
theorem dirJ_len (w h : Nat) (s : List Nat) (i k : Nat) : (dirJ w h s i k).length ≤ 1 := by unfold dirJ; split <;> simp
theorem rowJ_len (w h : Nat) (s : List Nat) (i k : Nat) : (rowJ w h s i k).length ≤ k := by
  induction k with
  | zero => simp [rowJ]
  | succ k ih => have := dirJ_len w h s i k; simp [rowJ]; omega
theorem allJ_len (w h : Nat) (s : List Nat) (i : Nat) : (allJ w h s i).length ≤ 4 * i := by
  induction i with
  | zero => simp [allJ]
  | succ i ih => have := rowJ_len w h s i 4; simp [allJ]; omega
theorem mem_row {w h : Nat} {s : List Nat} {i : Nat} {j : Jm} : ∀ k, j ∈ rowJ w h s i k ↔ ∃ m, m < k ∧ j ∈ dirJ w h s i m := by
  intro k
  induction k with
  | zero => simp [rowJ]
  | succ k ih =>
    rw [rowJ, List.mem_append, ih]
    constructor
    · rintro (⟨m, h1, h2⟩ | h1)
      · exact ⟨m, by omega, h2⟩
      · exact ⟨k, by omega, h1⟩
    · rintro ⟨m, h1, h2⟩
      by_cases e : m = k
      · subst e; exact .inr h2
      · exact .inl ⟨m, by omega, h2⟩
theorem mem_all {w h : Nat} {s : List Nat} {j : Jm} : ∀ n, j ∈ allJ w h s n ↔ ∃ i, i < n ∧ ∃ m, m < 4 ∧ j ∈ dirJ w h s i m := by
  intro k
  induction k with
  | zero => simp [allJ]
  | succ k ih =>
    rw [allJ, List.mem_append, ih, mem_row]
    constructor
    · rintro (⟨m, h1, h2⟩ | h1)
      · exact ⟨m, by omega, h2⟩
      · exact ⟨k, by omega, h1⟩
    · rintro ⟨m, h1, h2⟩
      by_cases e : m = k
      · subst e; exact .inr h2
      · exact .inl ⟨m, by omega, h2⟩
theorem mem_dir {w h : Nat} {s : List Nat} {x y : Nat} {j : Jm} (hx : x < w) (hy : y < h) : (∃ m, m < 4 ∧ j ∈ dirJ w h s (y * w + x) m) ↔ okJ s j ∧ ((x + 2 < w ∧ j = (y * w + x, y * w + (x + 1), y * w + (x + 2))) ∨ (2 ≤ x ∧ j = (y * w + x, y * w + (x - 1), y * w + (x - 2))) ∨ (y + 2 < h ∧ j = (y * w + x, (y + 1) * w + x, (y + 2) * w + x)) ∨ (2 ≤ y ∧ j = (y * w + x, (y - 1) * w + x, (y - 2) * w + x))) := by
  have hd := xy_div (y := y) hx
  have key : ∀ m, j ∈ dirJ w h s (y * w + x) m ↔ okJ s j ∧ inR w h x y (dv m) ∧ j = jD w x y (y * w + x) (dv m) := by
    intro m
    unfold dirJ
    rw [hd.1, hd.2]
    constructor
    · intro hm
      split at hm
      · rename_i hc; rw [List.mem_singleton] at hm; subst hm; exact ⟨hc.2, hc.1, rfl⟩
      · simp at hm
    · rintro ⟨h1, h2, rfl⟩
      rw [if_pos ⟨h2, h1⟩]; simp
  have e0 : inR w h x y (dv 0) ↔ x + 2 < w := by unfold inR dv; simp only; omega
  have e1 : inR w h x y (dv 1) ↔ 2 ≤ x := by unfold inR dv; simp only; omega
  have e2 : inR w h x y (dv 2) ↔ y + 2 < h := by unfold inR dv; simp only; omega
  have e3 : inR w h x y (dv 3) ↔ 2 ≤ y := by unfold inR dv; simp only; omega
  have j0 : jD w x y (y * w + x) (dv 0) = (y * w + x, y * w + (x + 1), y * w + (x + 2)) := by
    unfold jD dv
    simp only [Prod.mk.injEq, true_and]
    constructor
    · have : ((y : Int) + 0) * w + x + 1 = ((y * w + (x + 1) : Nat) : Int) := by push_cast; rw [Int.add_zero]; omega
      rw [this]; rfl
    · have : ((y : Int) + 2 * 0) * w + (x + 2 * 1) = ((y * w + (x + 2) : Nat) : Int) := by push_cast; rw [Int.add_zero]; omega
      rw [this]; rfl
  have j1 : 2 ≤ x → jD w x y (y * w + x) (dv 1) = (y * w + x, y * w + (x - 1), y * w + (x - 2)) := fun h2 => by
    unfold jD dv
    simp only [Prod.mk.injEq, true_and]
    constructor
    · have : ((y : Int) + 0) * w + x + -1 = ((y * w + (x - 1) : Nat) : Int) := by rw [Int.natCast_add, Int.natCast_mul, Int.add_zero]; omega
      rw [this]; rfl
    · have : ((y : Int) + 2 * 0) * w + (x + 2 * -1) = ((y * w + (x - 2) : Nat) : Int) := by rw [Int.natCast_add, Int.natCast_mul, Int.mul_zero, Int.add_zero]; omega
      rw [this]; rfl
  have j2 : jD w x y (y * w + x) (dv 2) = (y * w + x, (y + 1) * w + x, (y + 2) * w + x) := by
    unfold jD dv
    simp only [Prod.mk.injEq, true_and]
    constructor
    · have : ((y : Int) + 1) * w + x + 0 = (((y + 1) * w + x : Nat) : Int) := by push_cast; omega
      rw [this]; rfl
    · have : ((y : Int) + 2 * 1) * w + (x + 2 * 0) = (((y + 2) * w + x : Nat) : Int) := by push_cast; rw [show (y : Int) + 1 + 1 = (y : Int) + 2 by omega]; omega
      rw [this]; rfl
  have j3 : 2 ≤ y → jD w x y (y * w + x) (dv 3) = (y * w + x, (y - 1) * w + x, (y - 2) * w + x) := fun h2 => by
    obtain ⟨z, rfl⟩ : ∃ z, y = z + 2 := ⟨y - 2, by omega⟩
    unfold jD dv
    simp only [Prod.mk.injEq, true_and]
    constructor
    · have : (((z + 2 : Nat) : Int) + -1) * w + x + 0 = (((z + 1) * w + x : Nat) : Int) := by
        rw [show ((z + 2 : Nat) : Int) + -1 = ((z + 1 : Nat) : Int) by omega, Int.natCast_add ((z + 1) * w), Int.natCast_mul, Int.add_zero]
      rw [this]; rfl
    · have : (((z + 2 : Nat) : Int) + 2 * -1) * w + (x + 2 * 0) = ((z * w + x : Nat) : Int) := by
        rw [show ((z + 2 : Nat) : Int) + 2 * -1 = (z : Int) by omega, Int.natCast_add (z * w), Int.natCast_mul, Int.mul_zero, Int.add_zero]
      rw [this]; rfl
  constructor
  · rintro ⟨m, hm, hj⟩
    obtain ⟨k1, k2, k3⟩ := (key m).1 hj
    refine ⟨k1, ?_⟩
    rcases (show m = 0 ∨ m = 1 ∨ m = 2 ∨ m = 3 by omega) with rfl | rfl | rfl | rfl
    · exact .inl ⟨e0.1 k2, by rw [k3, j0]⟩
    · exact .inr (.inl ⟨e1.1 k2, by rw [k3, j1 (e1.1 k2)]⟩)
    · exact .inr (.inr (.inl ⟨e2.1 k2, by rw [k3, j2]⟩))
    · exact .inr (.inr (.inr ⟨e3.1 k2, by rw [k3, j3 (e3.1 k2)]⟩))
  · rintro ⟨k1, ⟨h1, rfl⟩ | ⟨h1, rfl⟩ | ⟨h1, rfl⟩ | ⟨h1, rfl⟩⟩
    · exact ⟨0, by omega, (key 0).2 ⟨k1, e0.2 h1, j0.symm⟩⟩
    · exact ⟨1, by omega, (key 1).2 ⟨k1, e1.2 h1, (j1 h1).symm⟩⟩
    · exact ⟨2, by omega, (key 2).2 ⟨k1, e2.2 h1, j2.symm⟩⟩
    · exact ⟨3, by omega, (key 3).2 ⟨k1, e3.2 h1, (j3 h1).symm⟩⟩
/-- the row holds just the jumps that there is room for. -/
theorem mem_allJ {w h : Nat} {s : List Nat} {j : Jm} (hw : 0 < w) : j ∈ allJ w h s (w * h) ↔ inJ w h s j := by
  rw [mem_all]
  unfold inJ
  constructor
  · rintro ⟨i, hi, hm⟩
    have hx : i % w < w := Nat.mod_lt _ hw
    have hy : i / w < h := Nat.div_lt_of_lt_mul hi
    have e : i / w * w + i % w = i := Nat.div_add_mod' i w
    rw [← e] at hm
    obtain ⟨k1, k2⟩ := (mem_dir hx hy).1 hm
    exact ⟨k1, _, _, hx, hy, k2⟩
  · rintro ⟨k1, x, y, hx, hy, k2⟩
    exact ⟨y * w + x, xy_lt hx hy, (mem_dir hx hy).2 ⟨k1, k2⟩⟩
end Go.Proofs.Ytapoimadiiheaaa
