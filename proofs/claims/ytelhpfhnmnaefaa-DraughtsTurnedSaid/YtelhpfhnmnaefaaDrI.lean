/- What New, upside and Count compute; upside: the board has 33 places. -/
import Derived.Test.YtelhpfhnmnaefaaDrY
namespace Go.Proofs.Ytelhpfhnmnaefaa
open Go.RowKit

def newS : Nat → List Int
  | 0 => List.replicate 33 0
  | k + 1 => ((newS k).set (k + 1) (-1)).set (32 - k) 1
theorem newS_12 : newS 12 = newB := by decide +kernel
def upS (b : List Int) : Nat → List Int
  | 0 => List.replicate 33 0
  | k + 1 => (upS b k).set (k + 1) (- gtD b (32 - k))
theorem upS_len (b : List Int) : ∀ k, (upS b k).length = 33
  | 0 => by simp [upS]
  | k + 1 => by simp [upS, upS_len b k]
theorem upS_at (b : List Int) : ∀ k, k ≤ 32 → ∀ p, gtD (upS b k) p = if 1 ≤ p ∧ p ≤ k then - gtD b (33 - p) else 0
  | 0, _, p => by
    rw [if_neg (by omega)]
    show (List.replicate 33 (0 : Int))[p]?.getD 0 = 0
    rw [List.getElem?_replicate]; split <;> rfl
  | k + 1, hk, p => by
    have ih := upS_at b k (by omega) p
    unfold gtD at ih ⊢
    show ((upS b k).set (k + 1) (- gtD b (32 - k)))[p]?.getD 0 = _
    rw [List.getElem?_set]
    by_cases e : k + 1 = p
    · subst e
      rw [if_pos rfl, if_pos (by rw [upS_len]; omega), if_pos (by omega)]
      simp [gtD, show 33 - (k + 1) = 32 - k by omega]
    · rw [if_neg e, ih]
      by_cases h : 1 ≤ p ∧ p ≤ k
      · rw [if_pos h, if_pos (by omega)]
      · rw [if_neg h, if_neg (by omega)]
theorem upS_turn (b : List Int) : Tn b (upS b 32) ∧ gtD (upS b 32) 0 = 0 := by
  refine ⟨fun p h1 h2 => ?_, ?_⟩
  · have := upS_at b 32 (Nat.le_refl _) p
    rw [if_pos ⟨h1, h2⟩] at this; exact this
  · rw [upS_at b 32 (Nat.le_refl _) 0, if_neg (by omega)]

/-- a board that may be written. -/
structure Bw (g : Nat) (b : List Int) (W : World) : Prop where
  bd : IntsIn W (some ⟨g, 0, none⟩) 33 b
  fz : ∀ i, W.frozen? ⟨g, i, none⟩ = false
theorem Bw.cell {g : Nat} {b : List Int} {W : World} (h : Bw g b W) {p : Nat} (hp : p ≤ 32) : W.cell? ⟨g, p, none⟩ = some (.int .i64 (b[p]?.getD 0)) := by
  obtain ⟨b', o', e, _, hc⟩ := h.bd.at (by omega)
  cases e
  rw [← hc p (by omega), Nat.zero_add]
theorem Bw.set {g : Nat} {b : List Int} {W : World} (h : Bw g b W) {i : Nat} (hi : i ≤ 32) (v : Int) : Bw g (b.set i v) (W.setCell ⟨g, i, none⟩ (.int .i64 v)) := by
  have hl := h.bd.len
  obtain ⟨b', o', e, hlt, hc⟩ := h.bd.at (by omega)
  cases e
  refine ⟨⟨by simpa using hl, fun j hj => ⟨g, 0, rfl, by simpa [World.setCell] using hlt, ?_⟩⟩, fun j => by rw [World.frozen?_setCell]; exact h.fz j⟩
  by_cases e : j = i
  · subst e
    rw [Nat.zero_add, World.cell?_setCell_same' _ _ _ (by rw [h.cell hi]; rfl)]
    simp [hl, hj]
  · rw [Nat.zero_add, World.cell?_setCell_other (h := by intro e2; apply e; cases e2; rfl), h.cell (by omega)]
    rw [List.getElem?_set_ne (by omega)]
theorem Bw.below {g : Nat} {b : List Int} {W W' : World} (h : Bw g b W) (hB : Below W.heap.size W W') : Bw g b W' := by
  obtain ⟨b', o', e, hlt, hc⟩ := h.bd.at (by omega)
  cases e
  refine ⟨h.bd.below hB, fun i => ?_⟩
  have e := hB.block _ hlt
  have := h.fz i
  unfold World.frozen? at *
  simp only [e] at *
  exact this

theorem run_mk33 (w : World) : (Instr.makeSlice 22 (.int .i64 33) (.int .i64 33)).run Try.prog w = .ok (.slice (some ⟨w.heap.size, 0, none⟩) 33 33) (w.alloc (.cells (Array.replicate 33 (.int .i64 0)) 3)) := by kernel_rfl
theorem Bw.new {W' : World} {g : Nat} (h : W'.heap[g]? = some (.cells (Array.replicate 33 (.int .i64 0)) 3 (0, 0))) : Bw g (List.replicate 33 0) W' := by
  refine ⟨⟨by simp, fun j hj => ⟨g, 0, rfl, lt_of_heap h, ?_⟩⟩, fun i => ?_⟩
  · unfold World.cell?
    rw [Nat.zero_add]
    simp only [h]
    rw [List.getElem?_replicate, if_pos hj]
    show (Array.replicate 33 (Value.int .i64 0))[j]? = _
    rw [Array.getElem?_replicate, if_pos hj]; rfl
  · unfold World.frozen?
    simp only [h]
    rfl

/-- the result's box, the board and its box. -/
structure Nb (m n : Nat) (W : World) (b : List Int) (t : Int) (W' : World) : Prop where
  bw : Bw (n + 1) b W'
  bx : W'.heap[n + 1 + 1]? = some (.cells #[.slice (some ⟨n + 1, 0, none⟩) 33 33, .int .i64 t] 24 (0, 0))
  rs : W'.heap[n]? = some (.cells #[.slice none 0 0, .int .i64 0] 24 (0, 0))
  bl : Below m W W'
theorem Nb.set {m n : Nat} {W : World} {b : List Int} {t : Int} {W' : World} (h : Nb m n W b t W') (hmn : m ≤ n) {i : Nat} (hi : i ≤ 32) (v : Int) : Nb m n W (b.set i v) t (W'.setCell ⟨n + 1, i, none⟩ (.int .i64 v)) :=
  ⟨h.bw.set hi v, (Below.heap_setCell _ ⟨n + 1, i, none⟩ _ _ (by simp)).trans h.bx, (Below.heap_setCell _ ⟨n + 1, i, none⟩ _ _ (by simp)).trans h.rs, h.bl.setCell (p := ⟨n + 1, i, none⟩) (by simp; omega) _⟩
theorem Nb.new {m n : Nat} {W : World} {t : Int} {W0 W' : World} (hW : W' = ((W0.alloc (.cells #[.slice none 0 0, .int .i64 0] 24)).alloc (.cells (Array.replicate 33 (.int .i64 0)) 3)).alloc (.cells #[.slice (some ⟨n + 1, 0, none⟩) 33 33, .int .i64 t] 24))
    (hB : Below m W W0) (hn : W0.heap.size = n) (hm : m ≤ n) : Nb m n W (List.replicate 33 0) t W' := by
  subst hW hn
  refine ⟨Bw.new ?_, ?_, ?_, ((hB.alloc hm _).alloc ?_ _).alloc ?_ _⟩
  · rw [Below.heap_alloc _ _ _ (by simp)]
    have := heap_alloc_new (W0.alloc (.cells #[.slice none 0 0, .int .i64 0] 24)) (.cells (Array.replicate 33 (.int .i64 0)) 3)
    rwa [World.size_alloc] at this
  · have := heap_alloc_new ((W0.alloc (.cells #[.slice none 0 0, .int .i64 0] 24)).alloc (.cells (Array.replicate 33 (.int .i64 0)) 3)) (.cells #[.slice (some ⟨W0.heap.size + 1, 0, none⟩) 33 33, .int .i64 t] 24)
    rwa [World.size_alloc, World.size_alloc] at this
  · rw [Below.heap_alloc _ _ _ (by simp only [World.size_alloc]; omega), Below.heap_alloc _ _ _ (by simp only [World.size_alloc]; omega)]
    exact heap_alloc_new _ _
  · simp only [World.size_alloc]; omega
  · simp only [World.size_alloc]; omega

theorem Bw.keep {g : Nat} {b : List Int} {W W' : World} (h : Bw g b W) (e : W'.heap[g]? = W.heap[g]?) : Bw g b W' := by
  obtain ⟨b', o', e2, hlt, hc⟩ := h.bd.at (by omega)
  cases e2
  refine ⟨⟨h.bd.len, fun j hj => ⟨g, 0, rfl, ?_, ?_⟩⟩, fun i => ?_⟩
  · rcases Nat.lt_or_ge g W'.heap.size with h1 | h1
    · exact h1
    · rw [Array.getElem?_eq_none h1, Array.getElem?_eq_getElem hlt] at e; cases e
  · rw [World.cell?_of_block (a := ⟨g, 0 + j, none⟩) e]
    rw [Nat.zero_add]; exact h.cell (by omega)
  · have := h.fz i
    unfold World.frozen? at *
    simp only [e] at *
    exact this
theorem Nb.end {m n : Nat} {W : World} {b : List Int} {t : Int} {W' : World} (h : Nb m n W b t W') (hmn : m ≤ n) (u v : Value) : Bw (n + 1) b ((W'.setCell ⟨n, 0, none⟩ u).setCell ⟨n, 1, none⟩ v) ∧ Below m W ((W'.setCell ⟨n, 0, none⟩ u).setCell ⟨n, 1, none⟩ v) :=
  ⟨h.bw.keep ((Below.heap_setCell _ ⟨n, 1, none⟩ _ _ (by simp)).trans (Below.heap_setCell _ ⟨n, 0, none⟩ _ _ (by simp))), (h.bl.setCell (p := ⟨n, 0, none⟩) hmn _).setCell (p := ⟨n, 1, none⟩) hmn _⟩

set_option maxRecDepth 20000 in
set_option maxHeartbeats 4000000 in
theorem New_any (W : World) : Calls Try.prog 5 #[] W fun e W' => ∃ g, e = .returned (.agg #[.slice (some ⟨g, 0, none⟩) 33 33, .int .i64 1]) ∧ Bw g newB W' ∧ W.heap.size ≤ g ∧ Below W.heap.size W W' := by
  have hmk := run_mk33
  go_enter Try.func5, Try.ntmps5
  go_upto_region 2 with fail
  clear hmk
  obtain ⟨W3, hW3⟩ : ∃ W3, W3 = ((W.alloc (.cells #[.slice none 0 0, .int .i64 0] 24)).alloc (.cells (Array.replicate 33 (.int .i64 0)) 3)).alloc (.cells #[.slice (some ⟨W.heap.size + 1, 0, none⟩) 33 33, .int .i64 1] 24) := ⟨_, rfl⟩
  rw [← hW3]
  have hN : Hid (Nb W.heap.size W.heap.size W (newS 0) 1 W3) := Nb.new hW3 (Below.refl _ _) rfl (Nat.le_refl _)
  clear hW3
  go_wp2_with fail
  go_loopg [2] 12 (fun gk pv W' => ∃ k : Nat, k ≤ 12 ∧ gk = 12 - k ∧ pv = .int .i64 ((k : Int) + 1) ∧ Nb W.heap.size W.heap.size W (newS k) 1 W')
  case atStart => exact ⟨0, by omega, rfl, rfl, hN.out⟩
  case round =>
    obtain ⟨k, hk, hgk, rfl, hNk⟩ := hrel
    obtain ⟨W4, rfl⟩ : ∃ W4 : World, W4 = wr := ⟨_, rfl⟩
    replace hgk := Lib.hid hgk
    by_cases hlt : k < 12
    · have hki : (k : Int) + 1 ≤ 12 := by omega
      have hk0 : (0 : Int) ≤ (k : Int) + 1 := by omega
      have hk2 : (k : Int) + 1 < 33 := by omega
      have j1 : 33 - ((k : Int) + 1) = ((32 - k : Nat) : Int) := by omega
      have j2 : (0 : Int) ≤ ((32 - k : Nat) : Int) := by omega
      have j3 : ((32 - k : Nat) : Int) < 33 := by omega
      have j4 : IntKind.i64.wrap ((32 - k : Nat) : Int) = ((32 - k : Nat) : Int) := IntWalk.i64_in _ (by omega)
      have hn1 := hNk.set (Nat.le_refl _) (i := k + 1) (by omega) (-1)
      have hn2 := hn1.set (Nat.le_refl _) (i := 32 - k) (by omega) 1
      have a0 := wcell (cs := [_, _]) hNk.bx 0
      have c1 := hNk.bw.cell (p := k + 1) (by omega)
      have f1 := hNk.bw.fz (k + 1)
      have a2 := wcell (cs := [_, _]) hn1.bx 0
      have c2 := hn1.bw.cell (p := 32 - k) (by omega)
      have f2 := hn1.bw.fz (32 - k)
      generalize ((newS k)[k + 1]?.getD 0) = o1 at *
      generalize (((newS k).set (k + 1) (-1))[32 - k]?.getD 0) = o2 at *
      have hr : Hid (newS (k + 1) = ((newS k).set (k + 1) (-1)).set (32 - k) 1) := rfl
      replace hn1 := Lib.hid hn1; replace hn2 := Lib.hid hn2; replace hNk := Lib.hid hNk
      go_wp2_with fail
      have hgk := hgk.out
      go_roundg (12 - (k + 1))
      case measure => omega
      case rel => exact ⟨k + 1, by omega, rfl, by go_num, by rw [hr.out]; exact hn2.out⟩
    · have hk12 : k = 12 := by omega
      have hki : ¬ (k : Int) + 1 ≤ 12 := by omega
      rw [hk12] at hNk
      have a0 := wcell (cs := [_, _]) hNk.bx 0
      have a1 := wcell (cs := [_, _]) hNk.bx 1
      have e0 := wcell (cs := [_, _]) hNk.rs 0
      have e1 := wcell (cs := [_, _]) hNk.rs 1
      have f0 := wfree hNk.rs 0
      have f1 := wfree hNk.rs 1
      replace hNk := Lib.hid hNk
      go_wp2_with fail
      refine bodyPost_ret (v := .agg #[.slice (some ⟨W.heap.size + 1, 0, none⟩) 33 33, .int .i64 1]) (by simp [results, Try.results5, go_sem, e0, e1]) rfl ⟨W.heap.size + 1, rfl, ?_⟩
      have hE := hNk.out.end (Nat.le_refl _) (.slice (some ⟨W.heap.size + 1, 0, none⟩) 33 33) (.int .i64 1)
      rw [newS_12] at hE
      exact ⟨hE.1, by omega, hE.2⟩
end Go.Proofs.Ytelhpfhnmnaefaa
