/- What gameroomkeep.grid computes of raw numbers; conditions: width and height are up to 10. -/
import Derived.Test.YtcibkchfdiijfaaGrd
namespace Go.Proofs.Ytcibkchfdiijfaa
open Go.RowKit

def rawG (xs : List Int) (most n : Nat) : List Nat := (List.range n).map fun i => if i < xs.length then pick (xs[i]?.getD 0) (most + 1) else 0
theorem rawG_len (xs : List Int) (most n : Nat) : (rawG xs most n).length = n := by simp [rawG]
theorem rawG_le (xs : List Int) (most n : Nat) : ∀ x ∈ rawG xs most n, x ≤ most := fun x hx => by
  unfold rawG at hx
  obtain ⟨i, _, rfl⟩ := List.mem_map.1 hx
  split
  · have := pick_lt (xs[i]?.getD 0) (most + 1) (by omega); omega
  · omega
theorem rawG_succ (xs : List Int) (most n : Nat) : asI (rawG xs most (n + 1)) = asI (rawG xs most n) ++ [((if n < xs.length then pick (xs[n]?.getD 0) (most + 1) else 0 : Nat) : Int)] := by
  unfold rawG asI
  rw [List.range_succ, List.map_append, List.map_append]; rfl
set_option maxRecDepth 20000 in
set_option maxHeartbeats 2000000 in
theorem gridr_any (a b : Nat) (w : World) (ha : a ≤ 10) (hb : b ≤ 10) (n : Nat) (hn : n = a * b) (rq : Option Addr) (rl rcap : Nat) (xs : List Int) (most : Nat) (hmo : most ≤ 100)
    (hrl : rl ≤ 9223372036854775807) (hxb : ∀ j, j < rl → -9223372036854775808 ≤ xs[j]?.getD 0 ∧ xs[j]?.getD 0 ≤ 9223372036854775807) (hx : IntsIn w rq rl xs) :
    Calls Try.prog 7 #[.int .i64 a, .int .i64 b, .slice rq rl rcap, .int .i64 most] w fun e w' => ∃ q c, e = .returned (.agg #[.int .i64 a, .int .i64 b, .slice q n c]) ∧ Own 3 w.heap.size w' q n c (asI (rawG xs most n)) ∧ Below w.heap.size w w' := by
  have hm : (a : Int) * b = (n : Int) := by rw [hn]; simp
  have hab : a * b ≤ 10 * 10 := Nat.mul_le_mul ha hb
  have hn9 : n ≤ 100 := by omega
  have hmw : IntKind.i64.wrap ((a : Int) * b) = n := by rw [hm]; exact IntWalk.i64_in _ (by omega)
  have hxl := hx.len
  have HPK := Lib.hid (fun j (hj : j < rl) W => picked_any (xs[j]?.getD 0) (most + 1) W (hxb j hj).1 (hxb j hj).2 (by omega) (by omega) ((most : Int) + 1) (by show _ = _; push_cast; rfl))
  replace hn := Lib.hid hn
  replace hxl := Lib.hid hxl
  clear hxb
  go_enter Try.func7, Try.ntmps7
  go_wp2_with fail
  go_loopg [10] n (fun k i W => ∃ j c : Nat, ∃ q : Option Addr, j ≤ n ∧ k = n - j ∧ i = .int .i64 j ∧ W.heap[w.heap.size + 1]? = some (.cells #[.int .i64 a, .int .i64 b, .slice q j c] 24 (0, 0)) ∧ W.heap[w.heap.size]? = some (.cells #[.int .i64 0, .int .i64 0, .slice none 0 0] 24 (0, 0)) ∧ Own 3 (w.heap.size + 2) W q j c (asI (rawG xs most j)) ∧ Below w.heap.size w W)
  case atStart =>
    obtain ⟨a1, a2⟩ := heap2 w (.cells #[.int .i64 0, .int .i64 0, .slice none 0 0] 24) (.cells #[.int .i64 a, .int .i64 b, .slice none 0 0] 24)
    exact ⟨0, 0, none, by omega, rfl, rfl, a2, a1, Own.nil _ _ _, below2 _ _ _⟩
  case round =>
    obtain ⟨j, c, q, hj, hk, rfl, h1, h2, hO, hB⟩ := hrel
    replace hk := Lib.hid hk
    obtain ⟨W0, rfl⟩ : ∃ W0 : World, W0 = wr := ⟨_, rfl⟩
    have d0 : W0.cell? ⟨w.heap.size + 1, 0, none⟩ = some (.int .i64 a) := wcell (cs := [_, _, _]) h1 0
    have d1 : W0.cell? ⟨w.heap.size + 1, 1, none⟩ = some (.int .i64 b) := wcell (cs := [_, _, _]) h1 1
    have d2 : W0.cell? ⟨w.heap.size + 1, 2, none⟩ = some (.slice q j c) := wcell (cs := [_, _, _]) h1 2
    have hsz := lt_of_heap h1
    by_cases hlt : j < n
    · have g0 : decide ((j : Int) < n) = true := by simp; omega
      have hsucc := rawG_succ xs most j
      have hxr := hx.below hB
      replace h2 := Lib.hid h2; replace hB := Lib.hid hB
      replace hO := Lib.hid hO; replace h1 := Lib.hid h1
      clear d0 d1
      obtain ⟨v, hv⟩ : ∃ v : Nat, v = (if j < xs.length then pick (xs[j]?.getD 0) (most + 1) else 0) := ⟨_, rfl⟩
      rw [← hv] at hsucc
      replace hsucc := Lib.hid hsucc
      have AP : ∀ q2 c2 (w2 : World), Own 3 (w.heap.size + 2) w2 q2 (j + 1) c2 (asI (rawG xs most j) ++ [(v : Int)]) → W0.grownBy w2 (q.map (·.block)) → w2.cell? ⟨w.heap.size + 1, 2, none⟩ = some (.slice q j c) ∧ w2.frozen? ⟨w.heap.size + 1, 2, none⟩ = false ∧
          Hid (w2.heap[w.heap.size + 1]? = some (.cells #[.int .i64 a, .int .i64 b, .slice q j c] 24 (0, 0)) ∧ w2.heap[w.heap.size]? = some (.cells #[.int .i64 0, .int .i64 0, .slice none 0 0] 24 (0, 0)) ∧ Below w.heap.size W0 w2) := by
        intro q2 c2 w2 hM hg2
        have hr : ∀ k, k < w.heap.size + 2 → w2.heap[k]? = W0.heap[k]? := fun k hk => hg2.block k (by omega) (hO.out.apart k hk)
        have e1 := (hr (w.heap.size + 1) (by omega)).trans h1.out
        have e2 := (hr w.heap.size (by omega)).trans h2.out
        exact ⟨wcell (cs := [_, _, _]) e1 2, by simp [World.frozen?, e1], Lib.hid ⟨e1, e2, hg2.os, hg2.tape, hg2.output, hg2.size, fun k hk => hr k (by omega)⟩⟩
      replace AP := Lib.hid AP
      have hFin : Hid (∀ q2 c2 (w2 : World), Own 3 (w.heap.size + 2) w2 q2 (j + 1) c2 (asI (rawG xs most j) ++ [(v : Int)]) → (w2.heap[w.heap.size + 1]? = some (.cells #[.int .i64 a, .int .i64 b, .slice q j c] 24 (0, 0)) ∧ w2.heap[w.heap.size]? = some (.cells #[.int .i64 0, .int .i64 0, .slice none 0 0] 24 (0, 0)) ∧ Below w.heap.size W0 w2) →
          ((w2.setCell ⟨w.heap.size + 1, 2, none⟩ (.slice q2 (j + 1) c2)).heap[w.heap.size + 1]? = some (.cells #[.int .i64 a, .int .i64 b, .slice q2 (j + 1) c2] 24 (0, 0)) ∧ (w2.setCell ⟨w.heap.size + 1, 2, none⟩ (.slice q2 (j + 1) c2)).heap[w.heap.size]? = some (.cells #[.int .i64 0, .int .i64 0, .slice none 0 0] 24 (0, 0)) ∧ Own 3 (w.heap.size + 2) (w2.setCell ⟨w.heap.size + 1, 2, none⟩ (.slice q2 (j + 1) c2)) q2 (j + 1) c2 (asI (rawG xs most (j + 1))) ∧ Below w.heap.size w (w2.setCell ⟨w.heap.size + 1, 2, none⟩ (.slice q2 (j + 1) c2)))) := by
        intro q2 c2 w2 hM ⟨e1, e2, hB2⟩
        refine ⟨?_, ?_, ?_, ?_⟩
        · simp [World.setCell, Array.getElem?_modify, e1]
        · rw [Below.heap_setCell _ _ _ _ (by simp)]; exact e2
        · rw [hsucc.out]
          exact hM.keep fun x hx => Below.heap_setCell _ _ _ _ (by have := (hM.block x hx).1; simp; omega)
        · exact (hB.out.trans (hB2.mono (Nat.le_refl _))).setCell (by simp) _
      by_cases hjr : j < rl
      · have hjx : j < xs.length := by rw [hxl.out]; exact hjr
        rw [if_pos hjx] at hv
        obtain ⟨b', o', rfl, _, hc⟩ := hxr.at (by omega)
        have cj := hc j hjr
        have HP := Lib.hid (HPK.out j hjr W0)
        rw [← hv] at HP
        have hjri : (j : Int) < (rl : Int) := by omega
        clear hc hxr
        generalize xs[j]?.getD 0 = xj at *
        replace hv := Lib.hid hv
        go_wp2_with fail
        refine HP.out.mono ?_
        rintro e w' ⟨rfl, rfl⟩
        clear HP cj
        go_wp2_with (at_builtin; refine wp_append1 intG W0 rfl _ _ rfl (w.heap.size + 2) q j c _ rfl hO.out (v : Int) rfl (by omega) (by omega) ?_; intro q2 c2 w2 hM hg2 _ hz2; obtain ⟨f1, f0, hrest⟩ := AP.out q2 c2 w2 hM hg2; replace hM := Lib.hid hM; replace hg2 := Lib.hid hg2; clear d2 AP)
        have hff := hFin.out q2 c2 w2 hM.out hrest.out
        have hk := hk.out
        go_roundg (n - (j + 1))
        case measure => omega
        case rel => exact ⟨j + 1, c2, q2, by omega, rfl, by go_num, hff⟩
      · have hjx : ¬ j < xs.length := by rw [hxl.out]; exact hjr
        rw [if_neg hjx] at hv
        subst hv
        have hjri : ¬ (j : Int) < (rl : Int) := by omega
        clear hxr
        go_wp2_with (at_builtin; refine wp_append1 intG W0 rfl _ _ rfl (w.heap.size + 2) q j c _ rfl hO.out ((0 : Nat) : Int) rfl (by omega) (by omega) ?_; intro q2 c2 w2 hM hg2 _ hz2; obtain ⟨f1, f0, hrest⟩ := AP.out q2 c2 w2 hM hg2; replace hM := Lib.hid hM; replace hg2 := Lib.hid hg2; clear d2 AP)
        have hff := hFin.out q2 c2 w2 hM.out hrest.out
        have hk := hk.out
        go_roundg (n - (j + 1))
        case measure => omega
        case rel => exact ⟨j + 1, c2, q2, by omega, rfl, by go_num, hff⟩
    · have hjn : j = n := by omega
      subst hjn
      replace h2 := Lib.hid h2; replace hB := Lib.hid hB
      replace hO := Lib.hid hO
      have c0 : W0.cell? ⟨w.heap.size, 0, none⟩ = some (.int .i64 0) := wcell (cs := [_, _, _]) h2.out 0
      have c1 : W0.cell? ⟨w.heap.size, 1, none⟩ = some (.int .i64 0) := wcell (cs := [_, _, _]) h2.out 1
      have c2 : W0.cell? ⟨w.heap.size, 2, none⟩ = some (.slice none 0 0) := wcell (cs := [_, _, _]) h2.out 2
      have f0 : W0.frozen? ⟨w.heap.size, 0, none⟩ = false := by simp [World.frozen?, h2.out]
      have f1 : W0.frozen? ⟨w.heap.size, 1, none⟩ = false := by simp [World.frozen?, h2.out]
      have f2 : W0.frozen? ⟨w.heap.size, 2, none⟩ = false := by simp [World.frozen?, h2.out]
      replace h1 := Lib.hid h1
      go_wp2_with fail
      have hO2 : Own 3 w.heap.size (((W0.setCell ⟨w.heap.size, 0, none⟩ (.int .i64 a)).setCell ⟨w.heap.size, 1, none⟩ (.int .i64 b)).setCell ⟨w.heap.size, 2, none⟩ (.slice q j c)) q j c (asI (rawG xs most j)) :=
        ((((hO.out.keep fun x hx => Below.heap_setCell _ _ _ _ (by have := (hO.out.block x hx).1; simp; omega)).keep fun x hx => Below.heap_setCell _ _ _ _ (by have := (hO.out.block x hx).1; simp; omega)).keep fun x hx => Below.heap_setCell _ _ _ _ (by have := (hO.out.block x hx).1; simp; omega))).mono (by omega)
      have hB2 : Below w.heap.size w (((W0.setCell ⟨w.heap.size, 0, none⟩ (.int .i64 a)).setCell ⟨w.heap.size, 1, none⟩ (.int .i64 b)).setCell ⟨w.heap.size, 2, none⟩ (.slice q j c)) :=
        ((hB.out.setCell (Nat.le_refl _) _).setCell (Nat.le_refl _) _).setCell (Nat.le_refl _) _
      have hF : (((W0.setCell ⟨w.heap.size, 0, none⟩ (.int .i64 a)).setCell ⟨w.heap.size, 1, none⟩ (.int .i64 b)).setCell ⟨w.heap.size, 2, none⟩ (.slice q j c)).heap[w.heap.size]? = some (.cells #[.int .i64 a, .int .i64 b, .slice q j c] 24 (0, 0)) := by
        simp [World.setCell, Array.getElem?_modify, h2.out]
      generalize (((W0.setCell ⟨w.heap.size, 0, none⟩ (.int .i64 a)).setCell ⟨w.heap.size, 1, none⟩ (.int .i64 b)).setCell ⟨w.heap.size, 2, none⟩ (.slice q j c)) = W3 at *
      have g0 : W3.cell? ⟨w.heap.size, 0, none⟩ = some (.int .i64 a) := wcell (cs := [_, _, _]) hF 0
      have g1 : W3.cell? ⟨w.heap.size, 1, none⟩ = some (.int .i64 b) := wcell (cs := [_, _, _]) hF 1
      have g2 : W3.cell? ⟨w.heap.size, 2, none⟩ = some (.slice q j c) := wcell (cs := [_, _, _]) hF 2
      refine bodyPost_ret (v := .agg #[.int .i64 a, .int .i64 b, .slice q j c]) (by simp [results, Try.results7, go_sem, g0, g1, g2]) rfl ⟨q, c, rfl, hO2, hB2⟩
end Go.Proofs.Ytcibkchfdiijfaa
