/- What mancala's back, New and Sow compute; conditions: 1 to 6 pits, turn 0 or 1, at most 1000 seeds. -/
import Derived.Test.YtehcelajmhclmaaMTop
import Derived.Test.YtehcelajmhclmaaRep
namespace Go.Proofs.Ytehcelajmhclmaa
open Go.RowKit

theorem own_rep {w : World} {g n B : Nat} {v : Int} (h : w.heap[g]? = some (.cells (repL v n n).toArray 3)) (hB : B ≤ g) (hn : n ≤ 100000) : Own 3 B w (some ⟨g, 0, none⟩) n n (List.replicate n v) := by
  have hr : repL v n n = List.replicate n (.int .i64 v) := by unfold repL; simp
  rw [hr] at h
  exact ⟨by simp, .inr ⟨g, n, _, rfl, hB, h, Nat.le_refl _, by unfold maxLen; omega, by simp, by simp⟩⟩

set_option maxRecDepth 20000 in
set_option maxHeartbeats 4000000 in
theorem back_any (g B n c P u : Nat) (l : List Nat) (w : World) (hP1 : 1 ≤ P) (hP : P ≤ 6) (hn : n = 2 * P + 2) (hu : u ≤ 1) (hO : Own 3 B w (some ⟨g, 0, none⟩) n c (asI l)) :
    Calls Try.prog 20 #[.agg #[.slice (some ⟨g, 0, none⟩) n c, .int .i64 P], .int .i64 u] w fun e w' => ∃ q c', e = .returned (.slice q n c') ∧ IntsIn w' q n (asI (turnL l P u)) ∧ Below w.heap.size w w' := by
  have hl : l.length = n := by have := hO.len; rwa [asI_len] at this
  have hB0 := Lib.hid ((Below.refl w.heap.size w).alloc (Nat.le_refl _) (.cells #[.slice (some ⟨g, 0, none⟩) n c, .int .i64 P] 37))
  have hnc := OwnC.cap (k := 1) hO
  have hOO := Lib.hid (hO.alloc (.cells #[.slice (some ⟨g, 0, none⟩) n c, .int .i64 P] 37))
  have a0 := heap_alloc_new w (.cells #[.slice (some ⟨g, 0, none⟩) n c, .int .i64 P] 37)
  have hsz : w.heap.size < (w.alloc (.cells #[.slice (some ⟨g, 0, none⟩) n c, .int .i64 P] 37)).heap.size := by simp
  clear hO
  replace hn := Lib.hid hn; replace hl := Lib.hid hl
  rcases (show u = 0 ∨ u = 1 by omega) with rfl | rfl
  · have htu : Hid (turnL l P 0 = l) := by show _ = _; unfold turnL; rw [if_neg (by omega)]
    go_enter Try.func20, Try.ntmps20
    go_wp2_with fail
    go_ret
    exact ⟨_, c, rfl, by rw [htu.out]; exact hOO.out.in, hB0.out⟩
  · have htu : Hid (turnL l P 1 = l.drop (P + 1) ++ l.take (P + 1)) := rfl
    go_enter Try.func20, Try.ntmps20
    go_wp2_with fail
    generalize w.alloc (.cells #[.slice (some ⟨g, 0, none⟩) n c, .int .i64 P] 37) = w1 at *
    have c0 : w1.cell? ⟨w.heap.size, 0, none⟩ = some (.slice (some ⟨g, 0, none⟩) n c) := wcell (cs := [_, _]) a0 0
    have hPn : P + 1 ≤ n := by have := hn.out; omega
    have hz0 : 0 ≤ (P : Int) + 1 := by omega
    have hz1 : (P : Int) + 1 ≤ (n : Int) := by omega
    have hz2 : (P : Int) + 1 ≤ (c : Int) := by omega
    have hz3 : ¬ c = P + 1 := by have := hn.out; omega
    have hB4 : Below w1.heap.size w1 (w1.alloc (.cells #[.slice (some ⟨g, P + 1, none⟩) (n - (P + 1)) (c - (P + 1)), .slice (some ⟨g, 0, none⟩) (P + 1) c] 22)).drew := below_drewN ((Below.refl _ w1).alloc (Nat.le_refl _) _) 1
    have k0 : (w1.alloc (.cells #[.slice (some ⟨g, P + 1, none⟩) (n - (P + 1)) (c - (P + 1)), .slice (some ⟨g, 0, none⟩) (P + 1) c] 22)).drew.cell? ⟨w1.heap.size, 0, none⟩ = some (.slice (some ⟨g, P + 1, none⟩) (n - (P + 1)) (c - (P + 1))) := wcell (cs := [_, _]) (heap_alloc_new w1 (.cells #[.slice (some ⟨g, P + 1, none⟩) (n - (P + 1)) (c - (P + 1)), .slice (some ⟨g, 0, none⟩) (P + 1) c] 22)) 0
    have k1 : (w1.alloc (.cells #[.slice (some ⟨g, P + 1, none⟩) (n - (P + 1)) (c - (P + 1)), .slice (some ⟨g, 0, none⟩) (P + 1) c] 22)).drew.cell? ⟨w1.heap.size, 1, none⟩ = some (.slice (some ⟨g, 0, none⟩) (P + 1) c) := wcell (cs := [_, _]) (heap_alloc_new w1 (.cells #[.slice (some ⟨g, P + 1, none⟩) (n - (P + 1)) (c - (P + 1)), .slice (some ⟨g, 0, none⟩) (P + 1) c] 22)) 1
    have x0 : IntsIn w1 (some ⟨g, P + 1, none⟩) (n - (P + 1)) (asI (l.drop (P + 1))) := by
      have := hOO.out.part (P + 1) n (by omega) (Nat.le_refl _)
      rwa [List.take_of_length_le (by rw [asI_len]; have := hl.out; omega), ← asI_drop] at this
    have x1 : IntsIn w1 (some ⟨g, 0, none⟩) (P + 1) (asI (l.take (P + 1))) := by
      have := hOO.out.part 0 (P + 1) (by omega) (by omega)
      rwa [List.drop_zero, ← asI_take, Nat.sub_zero] at this
    have HK := Lib.hid (concat_any w1.heap.size (n - (P + 1)) (c - (P + 1)) (P + 1) c _ _ _ _ _ (by have := hn.out; omega) (by have := hn.out; omega) (by omega) (by omega) (by simp) k0 k1 (x0.below hB4) (x1.below hB4))
    have hnn : Hid (n - (P + 1) + (P + 1) = n) := by show _ = _; omega
    replace hB4 := Lib.hid hB4
    clear k0 k1 x0 x1
    go_region_law (go_simp; refine HK.out.mono ?_; rintro e w5 ⟨p4, c4, rfl, hO5, hB5⟩; rw [hnn.out] at hO5; rw [hnn.out]; replace hO5 := Lib.hid hO5; replace hB5 := Lib.hid hB5)
    all_goals
      go_wp2_with fail
      go_ret
      refine ⟨p4, c4, rfl, ?_, hB0.out.trans ((hB4.out.trans (hB5.out.mono hB4.out.size)).mono (Nat.le_of_lt hsz))⟩
      rw [htu.out, asI_app]
      exact hO5.out.in

def newL (P k : Nat) : List Nat := (List.replicate P k ++ [0]) ++ (List.replicate P k ++ [0])
theorem newL_len (P k : Nat) : (newL P k).length = 2 * P + 2 := by unfold newL; simp; omega
theorem newL_sum (P k : Nat) : (newL P k).sum = 2 * P * k := by unfold newL; simp [List.sum_append]; rw [Nat.mul_assoc]; omega

set_option maxRecDepth 20000 in
set_option maxHeartbeats 4000000 in
theorem new_any (P k : Nat) (w : World) (hP1 : 1 ≤ P) (hP : P ≤ 6) (hk : k ≤ 10) :
    Calls Try.prog 9 #[.int .i64 P, .int .i64 k] w fun e w' => ∃ q c, e = .returned (.tuple #[.agg #[.slice q (2 * P + 2) c, .int .i64 0], .int .i64 0]) ∧ IntsIn w' q (2 * P + 2) (asI (newL P k)) ∧ Below w.heap.size w w' := by
  have HR := repeat1_any (w.heap.size + 1) 1 k P ((w.alloc (.cells #[.slice none 0 0, .int .i64 0] 24)).alloc (.cells #[.int .i64 k] 3)) hP1 (by omega) (by
    have := (heap2 w (.cells #[.slice none 0 0, .int .i64 0] 24) (.cells #[.int .i64 k] 3)).2
    exact wcell (cs := [_]) this 0)
  replace HR := Lib.hid HR
  have a0 := (heap2 w (.cells #[.slice none 0 0, .int .i64 0] 24) (.cells #[.int .i64 k] 3)).1
  have hB0 := Lib.hid (below2 w (.cells #[.slice none 0 0, .int .i64 0] 24) (.cells #[.int .i64 k] 3))
  have hszW : w.heap.size < ((w.alloc (.cells #[.slice none 0 0, .int .i64 0] 24)).alloc (.cells #[.int .i64 k] 3)).heap.size := by simp; omega
  have d1 : decide ((P : Int) < 1) = false := by simp; omega
  have d2 : decide (6 < (P : Int)) = false := by simp; omega
  have d3 : decide ((k : Int) < 0) = false := by simp
  have d4 : decide (10 < (k : Int)) = false := by simp; omega
  go_enter Try.func9, Try.ntmps9
  go_wp2_with fail
  generalize ((w.alloc (.cells #[.slice none 0 0, .int .i64 0] 24)).alloc (.cells #[.int .i64 k] 3)) = W at *
  refine HR.out.mono ?_
  rintro e w2 ⟨rfl, hg, hB⟩
  have hO2 := Lib.hid (own_rep hg (Nat.le_refl _) (by omega))
  have a2 := (hB.block _ hszW).trans a0
  have hs2 := hB.size
  have hBW := Lib.hid (hB0.out.trans (hB.mono hB0.out.size))
  clear hB hB0 HR hg a0 d1 d2 d3 d4
  go_wp2_with (at_builtin; refine wp_append1 int22 w2 rfl _ _ rfl W.heap.size (some ⟨W.heap.size, 0, none⟩) P P _ rfl hO2.out 0 rfl (by omega) hs2 ?_; intro q3 c3 w3 hO3 hg3 hr3 hz3)
  have a3 := (hg3.block _ (by omega) (by simp; omega)).trans a2
  have hB3 := Lib.hid (hBW.out.grown hg3 hBW.out.size (fun x hx => by simp at hx; omega))
  have hl3 : List.replicate P (k : Int) ++ [0] = asI (List.replicate P k ++ [0]) := by simp [asI]
  rw [hl3] at hO3
  have hx3 := hO3.in
  replace hO3 := Lib.hid hO3; replace hl3 := Lib.hid hl3
  clear hg3 hr3 a2 hO2 hBW
  have h24 := heap_alloc_new w3 (.cells #[.slice q3 (P + 1) c3, .slice q3 (P + 1) c3] 22)
  have HK := Lib.hid (concat_any w3.heap.size (P + 1) c3 (P + 1) c3 q3 q3 _ _ (w3.alloc (.cells #[.slice q3 (P + 1) c3, .slice q3 (P + 1) c3] 22)) (by omega) (by omega) (by omega) (by omega) (by simp) (wcell (cs := [_, _]) h24 0) (wcell (cs := [_, _]) h24 1) (hx3.alloc _) (hx3.alloc _))
  have hnn : Hid (P + 1 + (P + 1) = 2 * P + 2) := by show _ = _; omega
  have hsz3 : w.heap.size < w3.heap.size := by omega
  have hB4 := Lib.hid (hB3.out.alloc hB3.out.size (.cells #[.slice q3 (P + 1) c3, .slice q3 (P + 1) c3] 22))
  have a4 := (Below.heap_alloc w3 (.cells #[.slice q3 (P + 1) c3, .slice q3 (P + 1) c3] 22) _ hsz3).trans a3
  have hsz4 : w.heap.size < (w3.alloc (.cells #[.slice q3 (P + 1) c3, .slice q3 (P + 1) c3] 22)).heap.size := by simp; omega
  clear h24 hx3 a3
  go_wp2_with fail
  generalize w3.alloc (.cells #[.slice q3 (P + 1) c3, .slice q3 (P + 1) c3] 22) = W4 at *
  refine HK.out.mono ?_
  rintro e w5 ⟨q5, c5, rfl, hO5, hB5⟩
  have a5 := (hB5.block _ hsz4).trans a4
  have hb5 : ∀ a, q5 = some a → w.heap.size < a.block := fun a ha => Nat.lt_of_lt_of_le hsz4 (OwnC.block (k := 1) hO5 a ha).1
  have hB6 := Lib.hid (hB4.out.trans (hB5.mono hB4.out.size))
  rw [hnn.out, ← asI_app] at hO5
  rw [hnn.out]
  have hx5 := Lib.hid hO5.in
  have m0 : w5.cell? ⟨w.heap.size, 0, none⟩ = some (.slice none 0 0) := wcell (cs := [_, _]) a5 0
  have m1 : w5.cell? ⟨w.heap.size, 1, none⟩ = some (.int .i64 0) := wcell (cs := [_, _]) a5 1
  have f0 : w5.frozen? ⟨w.heap.size, 0, none⟩ = false := wfree a5 0
  have f1 : w5.frozen? ⟨w.heap.size, 1, none⟩ = false := wfree a5 1
  have e2 := wset (wset a5 0 (.slice q5 (2 * P + 2) c5)) 1 (.int .i64 0)
  have r0 : ((w5.setCell ⟨w.heap.size, 0, none⟩ (.slice q5 (2 * P + 2) c5)).setCell ⟨w.heap.size, 1, none⟩ (.int .i64 0)).cell? ⟨w.heap.size, 0, none⟩ = some (.slice q5 (2 * P + 2) c5) := by rw [cell_of_row _ _ 0 _ _ _ e2]; rfl
  have r1 : ((w5.setCell ⟨w.heap.size, 0, none⟩ (.slice q5 (2 * P + 2) c5)).setCell ⟨w.heap.size, 1, none⟩ (.int .i64 0)).cell? ⟨w.heap.size, 1, none⟩ = some (.int .i64 0) := by rw [cell_of_row _ _ 1 _ _ _ e2]; rfl
  have hxx := Lib.hid (hx5.out.keep (w' := (w5.setCell ⟨w.heap.size, 0, none⟩ (.slice q5 (2 * P + 2) c5)).setCell ⟨w.heap.size, 1, none⟩ (.int .i64 0)) (by simp [World.setCell]) (fun b o e => by
    have := hb5 _ e
    rw [wset_ne _ _ (by show b ≠ w.heap.size; simp at this; omega), wset_ne _ _ (by show b ≠ w.heap.size; simp at this; omega)]))
  have hBx := Lib.hid ((hB6.out.setCell (p := ⟨w.heap.size, 0, none⟩) (Nat.le_refl _) (.slice q5 (2 * P + 2) c5)).setCell (p := ⟨w.heap.size, 1, none⟩) (Nat.le_refl _) (.int .i64 0))
  clear hO5 hB5 a5 e2 hb5 a4 HK
  go_wp2_with fail
  refine bodyPost_ret (v := .tuple #[.agg #[.slice q5 (2 * P + 2) c5, .int .i64 0], .int .i64 0]) (by simp [results, Try.results9, go_sem, r0, r1]) rfl ⟨q5, c5, rfl, hxx.out, hBx.out⟩
end Go.Proofs.Ytehcelajmhclmaa
