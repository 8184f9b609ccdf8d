/- What the loops of moves tell: all leaps, or all steps; conditions: the play's block lies as Py tells, nothing told yet, at most twelve to leap. -/
import Derived.Test.YtelhpfhnmnaefaaDrJ
import Derived.Test.YtelhpfhnmnaefaaDrK
namespace Go.Proofs.Ytelhpfhnmnaefaa
open Go.RowKit

theorem jumps_way {b : List Int} {s piece : Int} : ∀ (f : Nat) (way over x : List Nat), x ∈ jumpsS b s piece f way over → x.length ≤ way.length + f ∧ (1 ≤ way.length → 2 ≤ x.length)
  | 0, _, _, _, h => by simp [jumpsS] at h
  | f + 1, way, over, x, h => by
    unfold jumpsS at h
    simp only [List.mem_append] at h
    rcases h with h | h
    · obtain ⟨d, hd, hx⟩ := List.mem_flatMap.1 h
      cases he : stp b s way over d with
      | none => rw [he] at hx; simp at hx
      | some r =>
        rw [he] at hx
        simp only [Option.elim_some] at hx
        split at hx
        · simp at hx; subst hx; simp
        · have := jumps_way f _ _ x hx
          simp only [List.length_append, List.length_cons, List.length_nil] at this
          exact ⟨by omega, fun h1 => this.2 (by omega)⟩
    · split at h
      · rename_i hc
        simp at h; subst h
        exact ⟨by omega, fun _ => by omega⟩
      · simp at h
theorem out_way {b : List Int} {s : Int} {x : List Nat} (h : x ∈ outS b s) : x.length ≤ 14 ∧ 2 ≤ x.length := by
  unfold outS at h
  simp only at h
  split at h
  · obtain ⟨p, hp, hx⟩ := List.mem_flatMap.1 h
    unfold stepsS at hx
    split at hx
    · obtain ⟨d, hd, hx⟩ := List.mem_flatMap.1 hx
      split at hx
      · simp at hx; subst hx; simp
      · simp at hx
    · simp at hx
  · obtain ⟨p, hp, hx⟩ := List.mem_flatMap.1 h
    unfold leapsS at hx
    split at hx
    · have := jumps_way 13 [p] [] x hx
      simp at this
      omega
    · simp at hx
def accL (b : List Int) (s : Int) (k : Nat) : List (List Nat) := (places.take k).flatMap (leapsS b s)
def accT (b : List Int) (s : Int) (k : Nat) : List (List Nat) := (places.take k).flatMap (stepsS b s)
theorem places_at {k : Nat} (h : k < 32) : places[k]? = some (k + 1) := by unfold places; simp [h]
theorem accL_next {b : List Int} {s : Int} {k : Nat} (h : k < 32) : accL b s (k + 1) = accL b s k ++ leapsS b s (k + 1) := by
  unfold accL; rw [List.take_add_one, places_at h]; simp
theorem accT_next {b : List Int} {s : Int} {k : Nat} (h : k < 32) : accT b s (k + 1) = accT b s k ++ stepsS b s (k + 1) := by
  unfold accT; rw [List.take_add_one, places_at h]; simp
theorem accL_len (b : List Int) (s : Int) (k : Nat) : (accL b s k).length ≤ k * 67108864 := by
  unfold accL
  exact Nat.le_trans (flat_le _ fun p _ => leaps_len b s p) (Nat.mul_le_mul_right _ (by simp; omega))
theorem accT_len (b : List Int) (s : Int) (k : Nat) : (accT b s k).length ≤ k * 4 := by
  unfold accT
  exact Nat.le_trans (flat_le _ fun p _ => steps_len b s p) (Nat.mul_le_mul_right _ (by simp; omega))
theorem out_acc (b : List Int) (s : Int) : outS b s = if (accL b s 32).length = 0 then accT b s 32 else accL b s 32 := by
  unfold outS accL accT
  rw [List.take_of_length_le (by simp [places])]
  simp only
  by_cases h : (places.flatMap (leapsS b s)).isEmpty = true
  · rw [if_pos h, if_pos (by rw [List.isEmpty_iff] at h; rw [h]; rfl)]
  · rw [if_neg h, if_neg (by intro e; apply h; rw [List.isEmpty_iff]; exact List.eq_nil_of_length_eq_zero e)]

def stepD (b : List Int) (s : Int) (p d : Nat) : List (List Nat) := if nxt p d ≠ 0 ∧ atS b s (nxt p d) = 0 then [[p, nxt p d]] else []
def accD (b : List Int) (s : Int) (p k : Nat) : List (List Nat) := ((dirsS (atS b s p) s).take k).flatMap (stepD b s p)
theorem accD_next {b : List Int} {s : Int} {p k d : Nat} (h : (dirsS (atS b s p) s)[k]? = some d) : accD b s p (k + 1) = accD b s p k ++ stepD b s p d := by
  unfold accD; rw [List.take_add_one, h]; simp
theorem accD_len (b : List Int) (s : Int) (p k : Nat) : (accD b s p k).length ≤ k * 1 := by
  unfold accD
  refine Nat.le_trans (flat_le (c := 1) _ fun d _ => ?_) (Nat.mul_le_mul_right _ (by simp; omega))
  unfold stepD; split <;> simp
theorem steps_accD {b : List Int} {s : Int} {p : Nat} (h : 0 < atS b s p) : stepsS b s p = accD b s p (dirsS (atS b s p) s).length := by
  unfold stepsS accD
  rw [if_pos h, List.take_length]
  rfl
theorem steps_none {b : List Int} {s : Int} {p : Nat} (h : ¬ 0 < atS b s p) : stepsS b s p = [] := if_neg h
theorem leaps_none {b : List Int} {s : Int} {p : Nat} (h : ¬ 0 < atS b s p) : leapsS b s p = [] := if_neg h
theorem leaps_some {b : List Int} {s : Int} {p : Nat} (h : 0 < atS b s p) : leapsS b s p = jumpsS b s (atS b s p) 13 [p] [] := if_pos h

/-- the row of ways that moves has told, ahead of its order. -/
structure Told (pb g cb B : Nat) (b : List Int) (s : Int) (W0 W : World) : Prop where
  ex : ∃ q c, Py pb g cb B b s q c ((outS b s).map asI) W ∧ Ch pb none q W0 W

set_option maxRecDepth 20000 in
set_option maxHeartbeats 16000000 in
theorem leap_round (pb g cb B : Nat) (b : List Int) (s : Int) (q1 : Option Addr) (k1 k : Nat) (hk : k < 32) (W1 : World) (hE : E b s [] < 13)
    (hP : Py pb g cb B b s q1 k1 ((accL b s k).map asI) W1) (ha : 0 < atS b s (k + 1)) (w5 : World) (a5 : Nat) (h5 : Below W1.heap.size W1 w5) (hge : W1.heap.size ≤ a5) (hlt : a5 < w5.heap.size) (hI : IntsIn w5 (some ⟨a5, 0, none⟩) 1 (asI [k + 1])) :
    Calls Try.prog 15 #[.pointer (some ⟨pb, 0, none⟩), .slice (some ⟨a5, 0, none⟩) 1 1, .int .i64 (atS b s (k + 1)), .slice none 0 0] w5 fun e W' => e = .returned (.tuple #[]) ∧ ∃ q' c', Py pb g cb B b s q' c' ((accL b s (k + 1)).map asI) W' ∧ Ch pb q1 q' W1 W' := by
  have hl := accL_len b s k
  have h := jumps_any pb g cb B b s (atS b s (k + 1)) 13 [k + 1] [] (some ⟨a5, 0, none⟩) 1 1 none 0 0 q1 k1 _ w5 (hP.below h5) hI (IntsIn.nil _ _)
    (Sf.new (row_lt hP.rw) (fun a ha => by cases ha; exact hge) hP.sz) (Sf.none _ _) (fun a ha => by cases ha; exact hlt) (fun a ha => by cases ha) (by simp) (by intro p hp; simp at hp; omega) (by intro p hp; simp at hp) hE (by omega) (by omega) (by omega) (by omega)
    (by rw [List.length_map, show (4 : Nat) ^ 13 = 67108864 by decide]; omega)
  refine h.mono fun e W' ⟨he, q', c', h1, h2⟩ => ⟨he, q', c', ?_, (Ch.of_below h5).trans h2⟩
  rw [accL_next hk, List.map_append, leaps_some ha]
  exact h1

end Go.Proofs.Ytelhpfhnmnaefaa
