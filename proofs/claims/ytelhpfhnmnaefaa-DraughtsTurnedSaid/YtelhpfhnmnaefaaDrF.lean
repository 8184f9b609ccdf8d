/- What Count answers at the beginning; rows searched for a turned way, plainly. -/
import Derived.Test.YtelhpfhnmnaefaaDrU
import Derived.Test.YtelhpfhnmnaefaaDrO
namespace Go.Proofs.Ytelhpfhnmnaefaa
open Go.RowKit

theorem may_new : mayB newB 1 = true := by decide +kernel
set_option maxHeartbeats 4000000 in
theorem Count_any (g : Nat) (k : Nat) (hk : k ≤ 6) (W : World) (hx : IntsIn W (some ⟨g, 0, none⟩) 33 newB) (hc : chkS k newB 1 = true) (hT : cntS k newB 1 ≤ 1000000) :
    Calls Try.prog 4 #[.agg #[.slice (some ⟨g, 0, none⟩) 33 33, .int .i64 1], .int .i64 k] W fun e W' => e = .returned (.tuple #[.int .i64 (cntS k newB 1 : Nat), .int .i64 0]) ∧ Below W.heap.size W W' := by
  obtain ⟨W1, hW1⟩ : ∃ W1, W1 = W.alloc (.cells #[.slice (some ⟨g, 0, none⟩) 33 33, .int .i64 1] 24) := ⟨_, rfl⟩
  have hB1 : Below W.heap.size W W1 := by rw [hW1]; exact bel_refl_alloc _ _
  have hbx : W1.heap[W.heap.size]? = some (.cells #[.slice (some ⟨g, 0, none⟩) 33 33, .int .i64 1] 24 (0, 0)) := by rw [hW1]; exact heap_alloc_new _ _
  have a0 := wcell (cs := [_, _]) hbx 0
  have a1 := wcell (cs := [_, _]) hbx 1
  have hx1 : IntsIn W1 (some ⟨g, 0, none⟩) 33 newB := hx.below hB1
  have hM := may_any (some ⟨g, 0, none⟩) 33 33 1 newB W1 hx1
  rw [may_new] at hM
  have h0 : ∀ X, Below W1.heap.size W1 X → X.cell? ⟨W.heap.size, 0, none⟩ = some (.slice (some ⟨g, 0, none⟩) 33 33) := fun X h => wcell (cs := [_, _]) ((h.block _ (lt_of_heap hbx)).trans hbx) 0
  have h1 : ∀ X, Below W1.heap.size W1 X → X.cell? ⟨W.heap.size, 1, none⟩ = some (.int .i64 1) := fun X h => wcell (cs := [_, _]) ((h.block _ (lt_of_heap hbx)).trans hbx) 1
  have HC := fun X (h : Below W1.heap.size W1 X) => count_any k hk (some ⟨g, 0, none⟩) 33 1 newB X (hx1.below h) (.inl rfl) hc hT
  rw [show (3 - 2 * 1 : Int) = 1 from rfl] at HC
  obtain ⟨T, hTT⟩ : ∃ T, cntS k newB 1 = T := ⟨_, rfl⟩
  rw [hTT] at HC ⊢
  rw [hW1] at a0 a1 hM
  have k1 : ¬ (k : Int) < 0 := by omega
  have k2 : ¬ (6 : Int) < (k : Int) := by omega
  replace hM := Lib.hid hM; replace hbx := Lib.hid hbx; replace hB1 := Lib.hid hB1; replace hx := Lib.hid hx; replace hx1 := Lib.hid hx1; replace hW1 := Lib.hid hW1; replace h0 := Lib.hid h0; replace h1 := Lib.hid h1; replace HC := Lib.hid HC
  replace hc := Lib.hid hc; replace hT := Lib.hid hT; replace hTT := Lib.hid hTT
  go_enter Try.func4, Try.ntmps4
  go_wp2_with fail
  refine hM.out.mono ?_
  rintro e w2 ⟨rfl, hB2⟩
  rw [← hW1.out] at hB2
  have b0 := h0.out w2 hB2
  have b1 := h1.out w2 hB2
  replace hB2 := Lib.hid hB2
  go_wp2_with fail
  refine (HC.out w2 hB2.out).mono ?_
  rintro e w3 ⟨rfl, hB3⟩
  replace hB3 := Lib.hid hB3
  go_wp2_with fail
  go_ret2
  exact ⟨rfl, (hB1.out.trans (hB2.out.mono hB1.out.size)).trans (hB3.out.mono (Nat.le_trans hB1.out.size hB2.out.size))⟩

/-! ### the search -/
def likeF (x y : List Nat) (j : Nat) : Bool := decide (y.length = x.length) && (List.range j).all fun i => decide (stN y i = 33 - stN x i)
theorem likeF_succ (x y : List Nat) (j : Nat) : likeF x y (j + 1) = (likeF x y j && decide (stN y j = 33 - stN x j)) := by
  unfold likeF
  rw [List.range_succ, List.all_append, Bool.and_assoc]
  simp
theorem likeF_false {x y : List Nat} {j : Nat} (h : likeF x y j = false) : ∀ d, likeF x y (j + d) = false
  | 0 => h
  | d + 1 => by
    have := likeF_false h d
    rw [show j + (d + 1) = (j + d) + 1 by omega, likeF_succ, this]; rfl
theorem likeF_mir {x : List Nat} : likeF x (mir x) x.length = true := by
  unfold likeF
  simp only [Bool.and_eq_true, decide_eq_true_eq, List.all_eq_true, List.mem_range]
  refine ⟨by simp [mir], fun i hi => ?_⟩
  unfold stN mir
  rw [List.getElem?_map, List.getElem?_eq_getElem hi]
  rfl
def inF (Q : List (List Nat)) (x : List Nat) (k : Nat) : Bool := (Q.take k).any fun y => likeF x y x.length
theorem inF_succ (Q : List (List Nat)) (x : List Nat) {k : Nat} (hk : k < Q.length) : inF Q x (k + 1) = (inF Q x k || likeF x Q[k] x.length) := by
  unfold inF
  rw [List.take_add_one, List.getElem?_eq_getElem hk, List.any_append]
  simp
theorem inF_all {Q : List (List Nat)} {x : List Nat} (h : mir x ∈ Q) : inF Q x Q.length = true := by
  unfold inF
  rw [List.take_length, List.any_eq_true]
  exact ⟨_, h, likeF_mir⟩
end Go.Proofs.Ytelhpfhnmnaefaa
