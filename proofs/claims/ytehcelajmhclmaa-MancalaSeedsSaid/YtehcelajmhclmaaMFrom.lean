/- What mancala's from and back compute; conditions: 1 to 6 pits, turn 0 or 1. -/
import Derived.Test.YtehcelajmhclmaaMCat
import Derived.Test.YtehcelajmhclmaaManVal
import Derived.Deep.RegionHeld3
import Derived.Deep.DeepCutAuto
import Derived.IntWalk
namespace Go.Proofs.Ytehcelajmhclmaa
open Go.RowKit

theorem turnL_len (s : List Nat) (P t : Nat) : (turnL s P t).length = s.length := by
  unfold turnL
  split
  · simp; omega
  · rfl

set_option maxRecDepth 20000 in
set_option maxHeartbeats 4000000 in
theorem from_any (q : Option Addr) (n c P t : Nat) (s : List Nat) (w : World) (hP1 : 1 ≤ P) (hP : P ≤ 6) (hn : n = 2 * P + 2) (ht : t ≤ 1) (hx : IntsIn w q n (asI s)) :
    Calls Try.prog 11 #[.agg #[.slice q n c, .int .i64 t]] w fun e w' => ∃ g c', e = .returned (.agg #[.slice (some ⟨g, 0, none⟩) n c', .int .i64 P]) ∧ Own 3 w.heap.size w' (some ⟨g, 0, none⟩) n c' (asI (turnL s P t)) ∧ Below w.heap.size w w' := by
  have HC := Lib.hid (clone_any q n c (asI s) ((w.alloc (.cells #[.slice q n c, .int .i64 t] 24)).alloc (.cells #[.slice none 0 0, .int .i64 0] 37)) (by omega) ((hx.alloc _).alloc _))
  have hdiv : (n : Int) / 2 = (P : Int) + 1 := by omega
  have hB0 := Lib.hid (((Below.refl w.heap.size w).alloc (Nat.le_refl _) (.cells #[.slice q n c, .int .i64 t] 24)).alloc (by simp) (.cells #[.slice none 0 0, .int .i64 0] 37))
  clear hx
  replace hn := Lib.hid hn
  go_enter Try.func11, Try.ntmps11
  go_wp2_with fail
  have a0 : ((w.alloc (.cells #[.slice q n c, .int .i64 t] 24)).alloc (.cells #[.slice none 0 0, .int .i64 0] 37)).heap[w.heap.size]? = some (.cells #[.slice q n c, .int .i64 t] 24) := (Below.heap_alloc _ _ _ (by simp)).trans (heap_alloc_new w _)
  have a1 : ((w.alloc (.cells #[.slice q n c, .int .i64 t] 24)).alloc (.cells #[.slice none 0 0, .int .i64 0] 37)).heap[w.heap.size + 1]? = some (.cells #[.slice none 0 0, .int .i64 0] 37) := by
    have := heap_alloc_new (w.alloc (.cells #[.slice q n c, .int .i64 t] 24)) (.cells #[.slice none 0 0, .int .i64 0] 37)
    simpa using this
  have hsz : w.heap.size + 1 < ((w.alloc (.cells #[.slice q n c, .int .i64 t] 24)).alloc (.cells #[.slice none 0 0, .int .i64 0] 37)).heap.size := by simp
  generalize ((w.alloc (.cells #[.slice q n c, .int .i64 t] 24)).alloc (.cells #[.slice none 0 0, .int .i64 0] 37)) = W at *
  refine HC.out.mono ?_
  rintro e w1 ⟨p', c', rfl, hOa, hB⟩
  have b0 := (hB.block _ (by omega)).trans a0
  have b1 := (hB.block _ hsz).trans a1
  have hsz1 := Nat.lt_of_lt_of_le hsz hB.size
  have hBB := Lib.hid (hB0.out.trans (hB.mono hB0.out.size))
  obtain ⟨_, hpg, hgW, _⟩ := OwnC.where (k := 1) hOa (by have := hn.out; omega)
  have hO := OwnC.mono (k := 1) hOa (show w.heap.size ≤ W.heap.size by omega)
  obtain ⟨g, rfl, hg1, hg2, hgc⟩ := hO.where (by have := hn.out; omega)
  have hOO : Hid (Own 3 w.heap.size w1 (some ⟨g, 0, none⟩) n c' (asI s)) := hO
  have hgs : w.heap.size + 1 < g := by cases hpg; omega
  have hlen : s.length = n := by have := hOO.out.len; rwa [asI_len] at this
  clear a0 a1 hB hB0 HC hO hOa hsz hpg hgW
  have c1 : w1.cell? ⟨w.heap.size, 1, none⟩ = some (.int .i64 (t : Int)) := wcell (cs := [_, _]) b0 1
  replace hlen := Lib.hid hlen
  replace b0 := Lib.hid b0; replace b1 := Lib.hid b1
  go_upto_if 14 with fail
  go_cut [4] (fun v wx => ∃ g2 c2, v = .slice (some ⟨g2, 0, none⟩) n c2 ∧ w.heap.size + 1 < g2 ∧ Own 3 w.heap.size wx (some ⟨g2, 0, none⟩) n c2 (asI (turnL s P t)) ∧ Below w1.heap.size w1 wx)
  case first =>
    rcases (show t = 0 ∨ t = 1 by omega) with rfl | rfl
    · have htu : Hid (turnL s P 0 = s) := by show _ = _; unfold turnL; rw [if_neg (by omega)]
      go_wp2_with fail
      go_meet
      exact ⟨g, c', rfl, hgs, by rw [htu.out]; exact hOO.out, Below.refl _ _⟩
    · have htu : Hid (turnL s P 1 = s.drop (P + 1) ++ s.take (P + 1)) := rfl
      have hPn : P + 1 ≤ n := by have := hn.out; omega
      have hz0 : 0 ≤ (P : Int) + 1 := by omega
      have hz1 : (P : Int) + 1 ≤ (n : Int) := by omega
      have hz2 : (P : Int) + 1 ≤ (c' : Int) := by omega
      have hz3 : ¬ c' = P + 1 := by have := hn.out; omega
      have hB4 : Below w1.heap.size w1 (w1.alloc (.cells #[.slice (some ⟨g, P + 1, none⟩) (n - (P + 1)) (c' - (P + 1)), .slice (some ⟨g, 0, none⟩) (P + 1) c'] 22)).drew := below_drewN ((Below.refl _ w1).alloc (Nat.le_refl _) _) 1
      have k0 : (w1.alloc (.cells #[.slice (some ⟨g, P + 1, none⟩) (n - (P + 1)) (c' - (P + 1)), .slice (some ⟨g, 0, none⟩) (P + 1) c'] 22)).drew.cell? ⟨w1.heap.size, 0, none⟩ = some (.slice (some ⟨g, P + 1, none⟩) (n - (P + 1)) (c' - (P + 1))) := wcell (cs := [_, _]) (heap_alloc_new w1 (.cells #[.slice (some ⟨g, P + 1, none⟩) (n - (P + 1)) (c' - (P + 1)), .slice (some ⟨g, 0, none⟩) (P + 1) c'] 22)) 0
      have k1 : (w1.alloc (.cells #[.slice (some ⟨g, P + 1, none⟩) (n - (P + 1)) (c' - (P + 1)), .slice (some ⟨g, 0, none⟩) (P + 1) c'] 22)).drew.cell? ⟨w1.heap.size, 1, none⟩ = some (.slice (some ⟨g, 0, none⟩) (P + 1) c') := wcell (cs := [_, _]) (heap_alloc_new w1 (.cells #[.slice (some ⟨g, P + 1, none⟩) (n - (P + 1)) (c' - (P + 1)), .slice (some ⟨g, 0, none⟩) (P + 1) c'] 22)) 1
      have x0 : IntsIn w1 (some ⟨g, P + 1, none⟩) (n - (P + 1)) (asI (s.drop (P + 1))) := by
        have := hOO.out.part (P + 1) n (by omega) (Nat.le_refl _)
        rwa [List.take_of_length_le (by rw [asI_len]; have := hlen.out; omega), ← asI_drop] at this
      have x1 : IntsIn w1 (some ⟨g, 0, none⟩) (P + 1) (asI (s.take (P + 1))) := by
        have := hOO.out.part 0 (P + 1) (by omega) (by omega)
        rwa [List.drop_zero, ← asI_take, Nat.sub_zero] at this
      have HK := Lib.hid (concat_any w1.heap.size (n - (P + 1)) (c' - (P + 1)) (P + 1) c' _ _ _ _ _ (by have := hn.out; omega) (by have := hn.out; omega) (by omega) (by omega) (by simp) k0 k1 (x0.below hB4) (x1.below hB4))
      have hnn : Hid (n - (P + 1) + (P + 1) = n) := by show _ = _; omega
      replace hB4 := Lib.hid hB4
      clear k0 k1 x0 x1
      go_wp2_with fail
      go_region_law (go_simp; refine HK.out.mono ?_; rintro e w5 ⟨p4, c4, rfl, hO5, hB5⟩; rw [hnn.out] at hO5; rw [hnn.out]; replace hO5 := Lib.hid hO5; replace hB5 := Lib.hid hB5)
      obtain ⟨g4, rfl, h1, h2, _⟩ := OwnC.where (k := 1) hO5.out (by have := hn.out; omega)
      have hsz4 := hB4.out.size
      go_wp2_with fail
      go_meet
      refine ⟨g4, c4, rfl, by omega, ?_, hB4.out.trans (hB5.out.mono hsz4)⟩
      rw [htu.out, asI_app]
      exact OwnC.mono (k := 1) hO5.out (by omega)
  case rest =>
    obtain ⟨g2, c2, rfl, hgs2, hO2, hB2⟩ := hcut
    have e1 := (hB2.block _ (by omega)).trans b1.out
    have hBC := Lib.hid (hBB.out.trans (hB2.mono hBB.out.size))
    have d0 : wc.cell? ⟨w.heap.size + 1, 0, none⟩ = some (.slice none 0 0) := wcell (cs := [_, _]) e1 0
    have d1 : wc.cell? ⟨w.heap.size + 1, 1, none⟩ = some (.int .i64 0) := wcell (cs := [_, _]) e1 1
    have f0 : wc.frozen? ⟨w.heap.size + 1, 0, none⟩ = false := wfree e1 0
    have f1 : wc.frozen? ⟨w.heap.size + 1, 1, none⟩ = false := wfree e1 1
    have e2 := wset (wset e1 0 (.slice (some ⟨g2, 0, none⟩) n c2)) 1 (.int .i64 (P : Int))
    have r0 : ((wc.setCell ⟨w.heap.size + 1, 0, none⟩ (.slice (some ⟨g2, 0, none⟩) n c2)).setCell ⟨w.heap.size + 1, 1, none⟩ (.int .i64 (P : Int))).cell? ⟨w.heap.size + 1, 0, none⟩ = some (.slice (some ⟨g2, 0, none⟩) n c2) := by rw [cell_of_row _ _ 0 _ _ _ e2]; rfl
    have r1 : ((wc.setCell ⟨w.heap.size + 1, 0, none⟩ (.slice (some ⟨g2, 0, none⟩) n c2)).setCell ⟨w.heap.size + 1, 1, none⟩ (.int .i64 (P : Int))).cell? ⟨w.heap.size + 1, 1, none⟩ = some (.int .i64 (P : Int)) := by rw [cell_of_row _ _ 1 _ _ _ e2]; rfl
    have hO3 := Lib.hid (hO2.keep (w' := (wc.setCell ⟨w.heap.size + 1, 0, none⟩ (.slice (some ⟨g2, 0, none⟩) n c2)).setCell ⟨w.heap.size + 1, 1, none⟩ (.int .i64 (P : Int))) (fun a ha => by
      cases ha
      rw [wset_ne _ _ (by show g2 ≠ w.heap.size + 1; omega), wset_ne _ _ (by show g2 ≠ w.heap.size + 1; omega)]))
    have hB3 := Lib.hid ((hBC.out.setCell (p := ⟨w.heap.size + 1, 0, none⟩) (by show _ ≤ w.heap.size + 1; omega) (.slice (some ⟨g2, 0, none⟩) n c2)).setCell (p := ⟨w.heap.size + 1, 1, none⟩) (by show _ ≤ w.heap.size + 1; omega) (.int .i64 (P : Int)))
    clear e1 e2 hO2 hB2 hBC
    go_wp2_with fail
    refine bodyPost_ret (v := .agg #[.slice (some ⟨g2, 0, none⟩) n c2, .int .i64 P]) (by simp [results, Try.results11, go_sem, r0, r1]) rfl ⟨g2, c2, rfl, hO3.out, hB3.out⟩
end Go.Proofs.Ytehcelajmhclmaa
