/- What upside computes; the board has 33 places, all in order. -/
import Derived.Test.YtelhpfhnmnaefaaDrI
namespace Go.Proofs.Ytelhpfhnmnaefaa
open Go.RowKit

/-- the result's box n, the board g and its box x, in either order. -/
structure Nx (n g x : Nat) (W : World) (b : List Int) (t : Int) (W' : World) : Prop where
  bw : Bw g b W'
  bx : W'.heap[x]? = some (.cells #[.slice (some ⟨g, 0, none⟩) 33 33, .int .i64 t] 24 (0, 0))
  rs : W'.heap[n]? = some (.cells #[.slice none 0 0, .int .i64 0] 24 (0, 0))
  bl : Below n W W'
  ne : n < g ∧ n < x ∧ g ≠ x
section
variable {n g x : Nat} {W : World} {b : List Int} {t : Int} {W' : World}
theorem Nx.set (h : Nx n g x W b t W') {i : Nat} (hi : i ≤ 32) (v : Int) : Nx n g x W (b.set i v) t (W'.setCell ⟨g, i, none⟩ (.int .i64 v)) :=
  ⟨h.bw.set hi v, (Below.heap_setCell _ ⟨g, i, none⟩ _ _ (by have := h.ne; simp only; omega)).trans h.bx, (Below.heap_setCell _ ⟨g, i, none⟩ _ _ (by have := h.ne; simp only; omega)).trans h.rs, h.bl.setCell (p := ⟨g, i, none⟩) (by have := h.ne; simp only; omega) _, h.ne⟩
theorem Nx.drew (h : Nx n g x W b t W') : Nx n g x W b t W'.drew := ⟨h.bw.keep rfl, h.bx, h.rs, h.bl.drew, h.ne⟩
theorem Nx.end (h : Nx n g x W b t W') (u v : Value) : Bw g b ((W'.setCell ⟨n, 0, none⟩ u).setCell ⟨n, 1, none⟩ v) ∧ Below n W ((W'.setCell ⟨n, 0, none⟩ u).setCell ⟨n, 1, none⟩ v) :=
  ⟨h.bw.keep ((Below.heap_setCell _ ⟨n, 1, none⟩ _ _ (by have := h.ne; simp only; omega)).trans (Below.heap_setCell _ ⟨n, 0, none⟩ _ _ (by have := h.ne; simp only; omega))), (h.bl.setCell (p := ⟨n, 0, none⟩) (Nat.le_refl _) _).setCell (p := ⟨n, 1, none⟩) (Nat.le_refl _) _⟩
theorem Nx.new1 (hn : W.heap.size = n) : Nx n (n + 1) (n + 1 + 1) W (List.replicate 33 0) t (((W.alloc (.cells #[.slice none 0 0, .int .i64 0] 24)).alloc (.cells (Array.replicate 33 (.int .i64 0)) 3)).alloc (.cells #[.slice (some ⟨n + 1, 0, none⟩) 33 33, .int .i64 t] 24)) :=
  have h : Nb n n W (List.replicate 33 0) t (((W.alloc (.cells #[.slice none 0 0, .int .i64 0] 24)).alloc (.cells (Array.replicate 33 (.int .i64 0)) 3)).alloc (.cells #[.slice (some ⟨n + 1, 0, none⟩) 33 33, .int .i64 t] 24)) := Nb.new rfl (Below.refl _ _) hn (Nat.le_refl _)
  ⟨h.bw, h.bx, h.rs, h.bl, by omega⟩
theorem Nx.new2 (hn : W.heap.size = n) : Nx n (n + 1 + 1) (n + 1) W (List.replicate 33 0) t (((W.alloc (.cells #[.slice none 0 0, .int .i64 0] 24)).alloc (.cells #[.slice (some ⟨n + 1 + 1, 0, none⟩) 33 33, .int .i64 t] 24)).alloc (.cells (Array.replicate 33 (.int .i64 0)) 3)) := by
  subst hn
  refine ⟨Bw.new ?_, ?_, ?_, (((Below.refl _ _).alloc (Nat.le_refl _) _).alloc ?_ _).alloc ?_ _, by omega⟩
  · have := heap_alloc_new ((W.alloc (.cells #[.slice none 0 0, .int .i64 0] 24)).alloc (.cells #[.slice (some ⟨W.heap.size + 1 + 1, 0, none⟩) 33 33, .int .i64 t] 24)) (.cells (Array.replicate 33 (.int .i64 0)) 3)
    rwa [World.size_alloc, World.size_alloc] at this
  · rw [Below.heap_alloc _ _ _ (by simp)]
    have := heap_alloc_new (W.alloc (.cells #[.slice none 0 0, .int .i64 0] 24)) (.cells #[.slice (some ⟨W.heap.size + 1 + 1, 0, none⟩) 33 33, .int .i64 t] 24)
    rwa [World.size_alloc] at this
  · rw [Below.heap_alloc _ _ _ (by simp only [World.size_alloc]; omega), Below.heap_alloc _ _ _ (by simp only [World.size_alloc]; omega)]
    exact heap_alloc_new _ _
  · simp only [World.size_alloc]; omega
  · simp only [World.size_alloc]; omega
end

set_option maxRecDepth 20000 in
set_option maxHeartbeats 4000000 in
theorem upside_any (p : Option Addr) (c : Nat) (t : Int) (ht : t = 1 ∨ t = 2) (b : List Int) (W : World) (hx : IntsIn W p 33 b) (hv : ∀ i : Nat, -2 ≤ b[i]?.getD 0 ∧ b[i]?.getD 0 ≤ 2) :
    Calls Try.prog 8 #[.agg #[.slice p 33 c, .int .i64 t]] W fun e W' => ∃ g, e = .returned (.agg #[.slice (some ⟨g, 0, none⟩) 33 33, .int .i64 (3 - t)]) ∧ Bw g (upS b 32) W' ∧ Below W.heap.size W W' := by
  have hmk := run_mk33
  have t3 : IntKind.i64.wrap (3 - t) = 3 - t := IntWalk.i64_in _ (by omega)
  obtain ⟨WA, hWA⟩ : ∃ WA, WA = W.alloc (.cells #[.slice p 33 c, .int .i64 t] 24) := ⟨_, rfl⟩
  obtain ⟨WB, hWB⟩ : ∃ WB, WB = WA.alloc (.cells #[.slice none 0 0, .int .i64 0] 24) := ⟨_, rfl⟩
  have hBA : Below W.heap.size W WA := by rw [hWA]; exact bel_refl_alloc _ _
  have hsA : WA.heap.size = W.heap.size + 1 := by rw [hWA, World.size_alloc]
  have hbA : WA.heap[W.heap.size]? = some (.cells #[.slice p 33 c, .int .i64 t] 24 (0, 0)) := by rw [hWA]; exact heap_alloc_new _ _
  have hbB : WB.heap[W.heap.size]? = some (.cells #[.slice p 33 c, .int .i64 t] 24 (0, 0)) := by rw [hWB, Below.heap_alloc _ _ _ (by omega)]; exact hbA
  have a0 := wcell (cs := [_, _]) hbB 0
  have a1 := wcell (cs := [_, _]) hbB 1
  have hnew1 := Nx.new1 (t := 3 - t) hsA
  have hnew2 := Nx.new2 (t := 3 - t) hsA
  have hxA := hx.below hBA
  obtain ⟨bw, ow, rfl, hbw, hcw⟩ := hxA.at (by omega)
  have hkb : ∀ X, Below (W.heap.size + 1) WA X → X.cell? ⟨W.heap.size, 0, none⟩ = some (.slice (some ⟨bw, ow, none⟩) 33 c) ∧ ∀ i, i < 33 → X.cell? ⟨bw, ow + i, none⟩ = some (.int .i64 (gtD b i)) := fun X h => by
    refine ⟨wcell (cs := [_, _]) ((h.block _ (by omega)).trans hbA) 0, fun i hi => ?_⟩
    rw [show gtD b i = b[i]?.getD 0 from rfl, ← hcw i hi]
    exact World.cell?_of_block (a := ⟨bw, ow + i, none⟩) (h.block _ (by rw [← hsA]; exact hbw))
  clear hcw
  rw [hWB, hWA] at a0 a1
  rw [hWA] at hnew1 hnew2
  replace hWA := Lib.hid hWA; replace hWB := Lib.hid hWB; replace hBA := Lib.hid hBA; replace hsA := Lib.hid hsA; replace hbA := Lib.hid hbA; replace hbB := Lib.hid hbB; replace hx := Lib.hid hx; replace hxA := Lib.hid hxA; replace hv := Lib.hid hv; replace hnew1 := Lib.hid hnew1; replace hnew2 := Lib.hid hnew2; replace hkb := Lib.hid hkb
  go_enter Try.func8, Try.ntmps8
  go_wp2_with fail
  go_upto_region 1 with fail
  go_cut [3] (fun s X => ∃ g x, s = .pointer (some ⟨x, 0, none⟩) ∧ Nx (W.heap.size + 1) g x WA (upS b 0) (3 - t) X)
  case first =>
    go_region_law (fail)
    all_goals
      go_wp2_with fail
      go_meet
      first
        | exact ⟨W.heap.size + 1 + 1, W.heap.size + 1 + 1 + 1, rfl, by rw [hWA.out]; exact hnew1.out.drew⟩
        | exact ⟨W.heap.size + 1 + 1 + 1, W.heap.size + 1 + 1, rfl, by rw [hWA.out]; exact hnew2.out.drew⟩
  case rest =>
    obtain ⟨g, x, rfl, hN⟩ := hcut
    replace hN := Lib.hid hN
    clear hnew1 hnew2 a0 a1 hmk
    go_wp2_with fail
    go_loopg [4] 32 (fun gk pv W' => ∃ k : Nat, k ≤ 32 ∧ gk = 32 - k ∧ pv = .int .i64 ((k : Int) + 1) ∧ Nx (W.heap.size + 1) g x WA (upS b k) (3 - t) W')
    case atStart => exact ⟨0, by omega, rfl, rfl, hN.out⟩
    case round =>
      obtain ⟨k, hk, hgk, rfl, hNk⟩ := hrel
      obtain ⟨W4, rfl⟩ : ∃ W4 : World, W4 = wr := ⟨_, rfl⟩
      replace hgk := Lib.hid hgk
      by_cases hlt : k < 32
      · have hki : (k : Int) + 1 < 33 := by omega
        have hk0 : (0 : Int) ≤ (k : Int) + 1 := by omega
        have j1 : 33 - ((k : Int) + 1) = ((32 - k : Nat) : Int) := by omega
        have j2 : (0 : Int) ≤ ((32 - k : Nat) : Int) := by omega
        have j3 : ((32 - k : Nat) : Int) < 33 := by omega
        have j4 : IntKind.i64.wrap ((32 - k : Nat) : Int) = ((32 - k : Nat) : Int) := IntWalk.i64_in _ (by omega)
        have hv1 := hv.out (32 - k)
        have j5 : IntKind.i64.wrap (- gtD b (32 - k)) = - gtD b (32 - k) := IntWalk.i64_in _ (by unfold gtD; omega)
        have hn1 := hNk.set (i := k + 1) (by omega) (- gtD b (32 - k))
        have a0 := wcell (cs := [_, _]) hNk.bx 0
        have b0 := (hkb.out W4 hNk.bl).1
        have b1 := (hkb.out W4 hNk.bl).2 (32 - k) (by omega)
        have c1 := hNk.bw.cell (p := k + 1) (by omega)
        have f1 := hNk.bw.fz (k + 1)
        generalize ((upS b k)[k + 1]?.getD 0) = o1 at *
        have hr : Hid (upS b (k + 1) = (upS b k).set (k + 1) (- gtD b (32 - k))) := rfl
        generalize gtD b (32 - k) = vv at *
        replace hn1 := Lib.hid hn1; replace hNk := Lib.hid hNk; replace hv1 := Lib.hid hv1
        go_wp2_with fail
        go_region_law (fail)
        all_goals
          have hgk := hgk.out
          go_wp2_with fail
          go_roundg (32 - (k + 1))
          case measure => omega
          case rel => exact ⟨k + 1, by omega, rfl, by go_num, by rw [hr.out]; first | exact hn1.out.drew | exact hn1.out⟩
      · have hk12 : k = 32 := by omega
        have hki : ¬ (k : Int) + 1 < 33 := by omega
        rw [hk12] at hNk
        have a0 := wcell (cs := [_, _]) hNk.bx 0
        have a1 := wcell (cs := [_, _]) hNk.bx 1
        have e0 := wcell (cs := [_, _]) hNk.rs 0
        have e1 := wcell (cs := [_, _]) hNk.rs 1
        have f0 := wfree hNk.rs 0
        have f1 := wfree hNk.rs 1
        replace hNk := Lib.hid hNk
        go_wp2_with fail
        refine bodyPost_ret (v := .agg #[.slice (some ⟨g, 0, none⟩) 33 33, .int .i64 (3 - t)]) (by simp [results, Try.results8, go_sem, e0, e1]) rfl ⟨g, rfl, ?_⟩
        have hE := hNk.out.end (.slice (some ⟨g, 0, none⟩) 33 33) (.int .i64 (3 - t))
        exact ⟨hE.1, hBA.out.trans (hE.2.mono (by omega))⟩
end Go.Proofs.Ytelhpfhnmnaefaa
