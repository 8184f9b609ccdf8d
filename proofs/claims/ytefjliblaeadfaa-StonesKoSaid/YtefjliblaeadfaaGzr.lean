/- What gameroomkeep.grid computes for an empty board; conditions: width and height are up to 10. -/
import Derived.Test.YtefjliblaeadfaaPick
import Derived.Test.YtefjliblaeadfaaGrd
namespace Go.Proofs.Ytefjliblaeadfaa
open Go.RowKit

def zs (n : Nat) : List Int := List.replicate n 0
theorem zs_asI (n : Nat) : zs n = asI (List.replicate n 0) := by simp [zs, asI]
theorem zs_snoc (n : Nat) : zs n ++ [0] = zs (n + 1) := by simp [zs, List.replicate_succ']
set_option maxHeartbeats 2000000 in
theorem grid_any (a b : Nat) (w : World) (ha : a ≤ 10) (hb : b ≤ 10) (n : Nat) (hn : n = a * b) (aI bI : Int) (eaI : Hid (aI = a)) (ebI : Hid (bI = b)) :
    Calls Try.prog 7 #[.int .i64 aI, .int .i64 bI, .slice none 0 0, .int .i64 0] w fun e w' => ∃ q c, e = .returned (.agg #[.int .i64 a, .int .i64 b, .slice q n c]) ∧ Own 3 w.heap.size w' q n c (zs n) ∧ Below w.heap.size w w' := by
  have eaI := eaI.out; have ebI := ebI.out
  subst eaI ebI
  have hm : (a : Int) * b = (n : Int) := by rw [hn]; simp
  have hab : a * b ≤ 10 * 10 := Nat.mul_le_mul ha hb
  have hn9 : n ≤ 100 := by omega
  have hmw : IntKind.i64.wrap ((a : Int) * b) = n := by rw [hm]; exact IntWalk.i64_in _ (by omega)
  replace hn := Lib.hid hn
  go_enter Try.func7, Try.ntmps7
  go_wp2_with fail
  go_loopg [10] n (fun k i W => ∃ j c : Nat, ∃ q : Option Addr, j ≤ n ∧ k = n - j ∧ i = .int .i64 j ∧ W.heap[w.heap.size + 1]? = some (.cells #[.int .i64 a, .int .i64 b, .slice q j c] 24 (0, 0)) ∧ W.heap[w.heap.size]? = some (.cells #[.int .i64 0, .int .i64 0, .slice none 0 0] 24 (0, 0)) ∧ Own 3 (w.heap.size + 2) W q j c (zs j) ∧ Below w.heap.size w W)
  case atStart =>
    obtain ⟨a1, a2⟩ := heap2 w (.cells #[.int .i64 0, .int .i64 0, .slice none 0 0] 24) (.cells #[.int .i64 a, .int .i64 b, .slice none 0 0] 24)
    exact ⟨0, 0, none, by omega, rfl, rfl, a2, a1, Own.nil _ _ _, below2 _ _ _⟩
  case round =>
    obtain ⟨j, c, q, hj, hk, rfl, h1, h2, hO, hB⟩ := hrel
    replace hk := Lib.hid hk
    obtain ⟨W0, rfl⟩ : ∃ W0 : World, W0 = wr := ⟨_, rfl⟩
    have d0 : W0.cell? ⟨w.heap.size + 1, 0, none⟩ = some (.int .i64 a) := wcell (cs := [_, _, _]) h1 0
    have d1 : W0.cell? ⟨w.heap.size + 1, 1, none⟩ = some (.int .i64 b) := wcell (cs := [_, _, _]) h1 1
    have d2 : W0.cell? ⟨w.heap.size + 1, 2, none⟩ = some (.slice q j c) := wcell (cs := [_, _, _]) h1 2
    have hsz := lt_of_heap h1
    replace h2 := Lib.hid h2; replace hB := Lib.hid hB
    by_cases hlt : j < n
    · have g0 : decide ((j : Int) < n) = true := by simp; omega
      replace hO := Lib.hid hO; replace h1 := Lib.hid h1
      clear d0 d1
      have AP : ∀ q2 c2 (w2 : World), Own 3 (w.heap.size + 2) w2 q2 (j + 1) c2 (zs j ++ [0]) → W0.grownBy w2 (q.map (·.block)) → w2.cell? ⟨w.heap.size + 1, 2, none⟩ = some (.slice q j c) ∧ w2.frozen? ⟨w.heap.size + 1, 2, none⟩ = false ∧
          Hid (w2.heap[w.heap.size + 1]? = some (.cells #[.int .i64 a, .int .i64 b, .slice q j c] 24 (0, 0)) ∧ w2.heap[w.heap.size]? = some (.cells #[.int .i64 0, .int .i64 0, .slice none 0 0] 24 (0, 0)) ∧ Below w.heap.size W0 w2) := by
        intro q2 c2 w2 hM hg2
        have hr : ∀ k, k < w.heap.size + 2 → w2.heap[k]? = W0.heap[k]? := fun k hk => hg2.block k (by omega) (hO.out.apart k hk)
        have e1 := (hr (w.heap.size + 1) (by omega)).trans h1.out
        have e2 := (hr w.heap.size (by omega)).trans h2.out
        exact ⟨wcell (cs := [_, _, _]) e1 2, by simp [World.frozen?, e1], Lib.hid ⟨e1, e2, hg2.os, hg2.tape, hg2.output, hg2.size, fun k hk => hr k (by omega)⟩⟩
      replace AP := Lib.hid AP
      go_wp2_with (at_builtin; refine wp_append1 intG W0 rfl _ _ rfl (w.heap.size + 2) q j c _ rfl hO.out 0 rfl (by omega) (by omega) ?_; intro q2 c2 w2 hM hg2 _ hz2; obtain ⟨f1, f0, hrest⟩ := AP.out q2 c2 w2 hM hg2; replace hM := Lib.hid hM; replace hg2 := Lib.hid hg2; clear d2 AP)
      obtain ⟨e1, e2, hB2⟩ := hrest.out
      have hk := hk.out
      go_roundg (n - (j + 1))
      case measure => omega
      case rel =>
        refine ⟨j + 1, c2, q2, by omega, rfl, by go_num, ?_, ?_, ?_, ?_⟩
        · simp [World.setCell, Array.getElem?_modify, e1]
        · rw [Below.heap_setCell _ _ _ _ (by simp)]; exact e2
        · have := hM.out
          rw [zs_snoc] at this
          exact this.keep fun x hx => Below.heap_setCell _ _ _ _ (by have := (hM.out.block x hx).1; simp; omega)
        · exact (hB.out.trans (hB2.mono (Nat.le_refl _))).setCell (by simp) _
    · have hjn : j = n := by omega
      subst hjn
      replace hO := Lib.hid hO
      have c0 : W0.cell? ⟨w.heap.size, 0, none⟩ = some (.int .i64 0) := wcell (cs := [_, _, _]) h2.out 0
      have c1 : W0.cell? ⟨w.heap.size, 1, none⟩ = some (.int .i64 0) := wcell (cs := [_, _, _]) h2.out 1
      have c2 : W0.cell? ⟨w.heap.size, 2, none⟩ = some (.slice none 0 0) := wcell (cs := [_, _, _]) h2.out 2
      have f0 : W0.frozen? ⟨w.heap.size, 0, none⟩ = false := by simp [World.frozen?, h2.out]
      have f1 : W0.frozen? ⟨w.heap.size, 1, none⟩ = false := by simp [World.frozen?, h2.out]
      have f2 : W0.frozen? ⟨w.heap.size, 2, none⟩ = false := by simp [World.frozen?, h2.out]
      replace h1 := Lib.hid h1
      go_wp2_with fail
      have hO2 : Own 3 w.heap.size (((W0.setCell ⟨w.heap.size, 0, none⟩ (.int .i64 a)).setCell ⟨w.heap.size, 1, none⟩ (.int .i64 b)).setCell ⟨w.heap.size, 2, none⟩ (.slice q j c)) q j c (zs j) :=
        ((((hO.out.keep fun x hx => Below.heap_setCell _ _ _ _ (by have := (hO.out.block x hx).1; simp; omega)).keep fun x hx => Below.heap_setCell _ _ _ _ (by have := (hO.out.block x hx).1; simp; omega)).keep fun x hx => Below.heap_setCell _ _ _ _ (by have := (hO.out.block x hx).1; simp; omega))).mono (by omega)
      have hB2 : Below w.heap.size w (((W0.setCell ⟨w.heap.size, 0, none⟩ (.int .i64 a)).setCell ⟨w.heap.size, 1, none⟩ (.int .i64 b)).setCell ⟨w.heap.size, 2, none⟩ (.slice q j c)) :=
        ((hB.out.setCell (Nat.le_refl _) _).setCell (Nat.le_refl _) _).setCell (Nat.le_refl _) _
      have hF : (((W0.setCell ⟨w.heap.size, 0, none⟩ (.int .i64 a)).setCell ⟨w.heap.size, 1, none⟩ (.int .i64 b)).setCell ⟨w.heap.size, 2, none⟩ (.slice q j c)).heap[w.heap.size]? = some (.cells #[.int .i64 a, .int .i64 b, .slice q j c] 24 (0, 0)) := by
        simp [World.setCell, Array.getElem?_modify, h2.out]
      generalize (((W0.setCell ⟨w.heap.size, 0, none⟩ (.int .i64 a)).setCell ⟨w.heap.size, 1, none⟩ (.int .i64 b)).setCell ⟨w.heap.size, 2, none⟩ (.slice q j c)) = W3 at *
      have g0 : W3.cell? ⟨w.heap.size, 0, none⟩ = some (.int .i64 a) := wcell (cs := [_, _, _]) hF 0
      have g1 : W3.cell? ⟨w.heap.size, 1, none⟩ = some (.int .i64 b) := wcell (cs := [_, _, _]) hF 1
      have g2 : W3.cell? ⟨w.heap.size, 2, none⟩ = some (.slice q j c) := wcell (cs := [_, _, _]) hF 2
      refine bodyPost_ret (v := .agg #[.int .i64 a, .int .i64 b, .slice q j c]) (by simp [results, Try.results7, go_sem, g0, g1, g2]) rfl ⟨q, c, rfl, hO2, hB2⟩
end Go.Proofs.Ytefjliblaeadfaa
