/- What tour.newField makes: of each place of a board its next ones; conditions: a board of 1 to 8 by 1 to 8, the table of leaps as the program lays it. -/
import Derived.Test.YtebgliipeaelhaaDoorLps
import Derived.Test.YtebgliipeaelhaaDoorNl
import Derived.Lib.MinMax
import Derived.Deep.RegionHeld3
import Derived.Deep.DeepCutAuto
import Derived.Deep.RegionLaw
import Derived.Deep.QuietTactic
namespace Go.Proofs.YtebgliipeaelhaaDoor
open Go.RowKit

def lpx (k : Nat) : Int := lpZ.getD (2 * k) 0
def lpy (k : Nat) : Int := lpZ.getD (2 * k + 1) 0
/-- the place that the k-th leap from p leads to, if it is on the board. -/
def nb1 (w h p k : Nat) : List Nat :=
  if 0 ≤ ((p % w : Nat) : Int) + lpx k ∧ ((p % w : Nat) : Int) + lpx k < w ∧ 0 ≤ ((p / w : Nat) : Int) + lpy k ∧ ((p / w : Nat) : Int) + lpy k < h then [((((p / w : Nat) : Int) + lpy k) * w + (((p % w : Nat) : Int) + lpx k)).toNat] else []
def nbN (w h p : Nat) : Nat → List Nat
  | 0 => []
  | k + 1 => nbN w h p k ++ nb1 w h p k
def nb (w h p : Nat) : List Nat := nbN w h p 8
theorem nbN_len (w h p : Nat) : ∀ k, (nbN w h p k).length ≤ k := by
  intro k
  induction k with
  | zero => simp [nbN]
  | succ k ih => rw [nbN, List.length_append]; unfold nb1; split <;> simp <;> omega
theorem nb_lt {w h p q : Nat} : ∀ k, q ∈ nbN w h p k → q < w * h := by
  intro k
  induction k with
  | zero => simp [nbN]
  | succ k ih =>
    rw [nbN, List.mem_append]
    rintro (hq | hq)
    · exact ih hq
    · unfold nb1 at hq
      split at hq
      · rename_i hc
        obtain ⟨h1, h2, h3, h4⟩ := hc
        rw [List.mem_singleton] at hq
        obtain ⟨a, ha⟩ : ∃ a : Nat, ((p % w : Nat) : Int) + lpx k = a := ⟨_, (Int.toNat_of_nonneg h1).symm⟩
        obtain ⟨b, hb⟩ : ∃ b : Nat, ((p / w : Nat) : Int) + lpy k = b := ⟨_, (Int.toNat_of_nonneg h3).symm⟩
        rw [ha, hb] at hq
        rw [ha] at h2; rw [hb] at h4
        have e : ((b : Int) * w + a).toNat = b * w + a := by
          have : (b : Int) * w + a = ((b * w + a : Nat) : Int) := by push_cast; rfl
          rw [this]; rfl
        rw [hq, e]
        have hb2 : b + 1 ≤ h := by omega
        have := Nat.mul_le_mul_right w hb2
        rw [Nat.add_mul, Nat.one_mul, Nat.mul_comm h w] at this
        omega
      · cases hq

theorem lx0 (w : World) : (Instr.index 54 (.agg #[.int .i64 (-1), .int .i64 (-2), .int .i64 1, .int .i64 (-2), .int .i64 (-2), .int .i64 (-1), .int .i64 2, .int .i64 (-1), .int .i64 (-2), .int .i64 1, .int .i64 2, .int .i64 1, .int .i64 (-1), .int .i64 2, .int .i64 1, .int .i64 2]) (.int .i64 0)).run Tryd.prog w = .ok (.agg #[.int .i64 (lpx 0), .int .i64 (lpy 0)]) w := by kernel_rfl
theorem lx1 (w : World) : (Instr.index 54 (.agg #[.int .i64 (-1), .int .i64 (-2), .int .i64 1, .int .i64 (-2), .int .i64 (-2), .int .i64 (-1), .int .i64 2, .int .i64 (-1), .int .i64 (-2), .int .i64 1, .int .i64 2, .int .i64 1, .int .i64 (-1), .int .i64 2, .int .i64 1, .int .i64 2]) (.int .i64 1)).run Tryd.prog w = .ok (.agg #[.int .i64 (lpx 1), .int .i64 (lpy 1)]) w := by kernel_rfl
theorem lx2 (w : World) : (Instr.index 54 (.agg #[.int .i64 (-1), .int .i64 (-2), .int .i64 1, .int .i64 (-2), .int .i64 (-2), .int .i64 (-1), .int .i64 2, .int .i64 (-1), .int .i64 (-2), .int .i64 1, .int .i64 2, .int .i64 1, .int .i64 (-1), .int .i64 2, .int .i64 1, .int .i64 2]) (.int .i64 2)).run Tryd.prog w = .ok (.agg #[.int .i64 (lpx 2), .int .i64 (lpy 2)]) w := by kernel_rfl
theorem lx3 (w : World) : (Instr.index 54 (.agg #[.int .i64 (-1), .int .i64 (-2), .int .i64 1, .int .i64 (-2), .int .i64 (-2), .int .i64 (-1), .int .i64 2, .int .i64 (-1), .int .i64 (-2), .int .i64 1, .int .i64 2, .int .i64 1, .int .i64 (-1), .int .i64 2, .int .i64 1, .int .i64 2]) (.int .i64 3)).run Tryd.prog w = .ok (.agg #[.int .i64 (lpx 3), .int .i64 (lpy 3)]) w := by kernel_rfl
theorem lx4 (w : World) : (Instr.index 54 (.agg #[.int .i64 (-1), .int .i64 (-2), .int .i64 1, .int .i64 (-2), .int .i64 (-2), .int .i64 (-1), .int .i64 2, .int .i64 (-1), .int .i64 (-2), .int .i64 1, .int .i64 2, .int .i64 1, .int .i64 (-1), .int .i64 2, .int .i64 1, .int .i64 2]) (.int .i64 4)).run Tryd.prog w = .ok (.agg #[.int .i64 (lpx 4), .int .i64 (lpy 4)]) w := by kernel_rfl
theorem lx5 (w : World) : (Instr.index 54 (.agg #[.int .i64 (-1), .int .i64 (-2), .int .i64 1, .int .i64 (-2), .int .i64 (-2), .int .i64 (-1), .int .i64 2, .int .i64 (-1), .int .i64 (-2), .int .i64 1, .int .i64 2, .int .i64 1, .int .i64 (-1), .int .i64 2, .int .i64 1, .int .i64 2]) (.int .i64 5)).run Tryd.prog w = .ok (.agg #[.int .i64 (lpx 5), .int .i64 (lpy 5)]) w := by kernel_rfl
theorem lx6 (w : World) : (Instr.index 54 (.agg #[.int .i64 (-1), .int .i64 (-2), .int .i64 1, .int .i64 (-2), .int .i64 (-2), .int .i64 (-1), .int .i64 2, .int .i64 (-1), .int .i64 (-2), .int .i64 1, .int .i64 2, .int .i64 1, .int .i64 (-1), .int .i64 2, .int .i64 1, .int .i64 2]) (.int .i64 6)).run Tryd.prog w = .ok (.agg #[.int .i64 (lpx 6), .int .i64 (lpy 6)]) w := by kernel_rfl
theorem lx7 (w : World) : (Instr.index 54 (.agg #[.int .i64 (-1), .int .i64 (-2), .int .i64 1, .int .i64 (-2), .int .i64 (-2), .int .i64 (-1), .int .i64 2, .int .i64 (-1), .int .i64 (-2), .int .i64 1, .int .i64 2, .int .i64 1, .int .i64 (-1), .int .i64 2, .int .i64 1, .int .i64 2]) (.int .i64 7)).run Tryd.prog w = .ok (.agg #[.int .i64 (lpx 7), .int .i64 (lpy 7)]) w := by kernel_rfl
theorem lxk (k : Nat) (hk : k < 8) (w : World) : (Instr.index 54 (.agg #[.int .i64 (-1), .int .i64 (-2), .int .i64 1, .int .i64 (-2), .int .i64 (-2), .int .i64 (-1), .int .i64 2, .int .i64 (-1), .int .i64 (-2), .int .i64 1, .int .i64 2, .int .i64 1, .int .i64 (-1), .int .i64 2, .int .i64 1, .int .i64 2]) (.int .i64 (k : Int))).run Tryd.prog w = .ok (.agg #[.int .i64 (lpx k), .int .i64 (lpy k)]) w := by
  rcases (show k = 0 ∨ k = 1 ∨ k = 2 ∨ k = 3 ∨ k = 4 ∨ k = 5 ∨ k = 6 ∨ k = 7 by omega) with rfl | rfl | rfl | rfl | rfl | rfl | rfl | rfl
  · exact lx0 w
  · exact lx1 w
  · exact lx2 w
  · exact lx3 w
  · exact lx4 w
  · exact lx5 w
  · exact lx6 w
  · exact lx7 w
theorem lp_small (k : Nat) (hk : k < 8) : -2 ≤ lpx k ∧ lpx k ≤ 2 ∧ -2 ≤ lpy k ∧ lpy k ≤ 2 := by
  rcases (show k = 0 ∨ k = 1 ∨ k = 2 ∨ k = 3 ∨ k = 4 ∨ k = 5 ∨ k = 6 ∨ k = 7 by omega) with rfl | rfl | rfl | rfl | rfl | rfl | rfl | rfl <;> decide

/-- the field in block g. -/
def FieldIn (w : World) (g a b : Nat) : Prop := g < w.heap.size ∧ ∀ p, p < a * b → ∃ rp c, w.cell? ⟨g, p, none⟩ = some (.slice rp (nb a b p).length c) ∧ IntsIn w rp (nb a b p).length (asI (nb a b p)) ∧ (nb a b p).length ≤ c
theorem FieldIn.below {w w' : World} {g a b : Nat} (h : FieldIn w g a b) (hb : Below w.heap.size w w') : FieldIn w' g a b :=
  ⟨Nat.lt_of_lt_of_le h.1 hb.size, fun p hp => by
    obtain ⟨rp, c, h1, h2, h3⟩ := h.2 p hp
    exact ⟨rp, c, (World.cell?_of_block (a := ⟨g, p, none⟩) (hb.block g h.1)).trans h1, h2.below hb, h3⟩⟩

/-- the rows that are done: none lies in the field's own block. -/
def FRows (W : World) (g : Nat) (vs : List Value) (a b j : Nat) : Prop := ∀ p, p < j → ∃ rp c, vs[p]? = some (.slice rp (nb a b p).length c) ∧ IntsIn W rp (nb a b p).length (asI (nb a b p)) ∧ (nb a b p).length ≤ c ∧ ∀ x, rp = some x → x.block ≠ g
theorem FRows.grown {W W' : World} {g a b j : Nat} {vs : List Value} (h : FRows W g vs a b j) (hg : W.grownBy W' (some g)) : FRows W' g vs a b j := fun p hp => by
  obtain ⟨rp, c, h1, h2, h3, h4⟩ := h p hp
  refine ⟨rp, c, h1, ⟨h2.1, fun i hi => ?_⟩, h3, h4⟩
  obtain ⟨bb, o, e, hb, hc⟩ := h2.2 i hi
  exact ⟨bb, o, e, Nat.lt_of_lt_of_le hb hg.size, (World.cell?_of_block (a := ⟨bb, o + i, none⟩) (hg.block bb hb (by intro e2; injection e2 with e2; exact h4 _ e e2))).trans hc⟩
theorem gset {W W' : World} {g : Nat} (h : W.grownBy W' (some g)) (i : Nat) (v : Value) : W.grownBy (W'.setCell ⟨g, i, none⟩ v) (some g) :=
  ⟨h.os, h.tape, h.output, by simpa [World.setCell] using h.size, fun k hk hne => (Below.heap_setCell W' ⟨g, i, none⟩ v k (by intro e; apply hne; rw [e])).trans (h.block k hk hne)⟩
theorem slT : ElT Tryd.prog 35 26 (.slice none 0 0) 1 24 := ⟨by kernel_rfl, by kernel_rfl, rfl, by omega, by omega⟩
end Go.Proofs.YtebgliipeaelhaaDoor
