import Derived.RangeFuncCalls
import Derived.Test.YtcibkchfdiijfaaHxN
/- hex.near, and a range over it in a function's body; conditions: a board of 1 to 10 by as many, a place of it; the body leaves whatever is no cells as it is. -/
namespace Go.Proofs.Ytcibkchfdiijfaa
open Go.RowKit Go.Shelf

theorem near_any (n p : Nat) (w : World) :
    Calls Try.prog 21 #[.int .i64 (n : Int), .int .i64 (p : Int)] w fun e w' => e = .returned (.func (.func 30) #[] #[.pointer (some ⟨w.heap.size + 1, 0, none⟩), .pointer (some ⟨w.heap.size, 0, none⟩)]) ∧ w' = (w.alloc (.cells #[.int .i64 (n : Int)] 3)).alloc (.cells #[.int .i64 (p : Int)] 3) := by
  go_enter Try.func21, Try.ntmps21
  go_wp2_with fail
  go_ret
  exact ⟨rfl, rfl⟩

theorem keepsO_trans {A B C : World} (h : KeepsOthers A B) (k : KeepsOthers B C) : KeepsOthers A C := h.trans k

/-- a range over near in a function's body (no round). -/
theorem wpIn_near {g : Operand} {ps : Array Tmp} {assign body : Code} {Q : Exit → Act → World → Prop} {a : Act} {w : World} {nn : Nat}
    (Bn Ba n p : Nat) (hn1 : 1 ≤ n) (hn : n ≤ 10) (hp : p < n * n)
    (hg : a.eval g = .func (.func 30) #[] #[.pointer (some ⟨Ba, 0, none⟩), .pointer (some ⟨Bn, 0, none⟩)]) (hps : ps.size = 1)
    (ha : w.cell? ⟨Ba, 0, none⟩ = some (.int .i64 (p : Int))) (hal : Ba < w.heap.size)
    (I : List Nat → World → Prop)
    (hIn : ∀ pre A, I pre A → A.cell? ⟨Bn, 0, none⟩ = some (.int .i64 (n : Int)))
    (hI : ∀ pre A B, I pre A → A.grownBy B (some (w.heap.size + 1)) → I pre B) (h0 : I [] w)
    (hround : ∀ m pre x W, x < n * n → x ∈ nearL n p → I pre W → w.heap.size + 2 ≤ W.heap.size →
      assign.wpIn (Fence.wide.inRound (w.heap.size + 1)) m Try.prog (Exit.then (fun a₁ W₁ => W₁ = W ∧ ∀ W2, I pre W2 → w.heap.size + 2 ≤ W2.heap.size → body.wpIn (Fence.wide.inRound (w.heap.size + 1)) m Try.prog
        (fun e _ W₃ => e = .normal ∧ KeepsOthers W2 W₃ ∧ I (pre ++ [x]) W₃) a₁ W2) (fun _ _ _ => False))
        { tmps := (ps.zip #[Value.int .i64 (x : Int)]).foldl (fun t (p, v) => t.setIfInBounds p v) a.tmps, defers := [] } W)
    (hdone : ∀ W, I (nearL n p) W → W.heap[w.heap.size]? = some (.deferred (some [])) → KeepsOthers w W → Q .normal { a with defers := { target := .collected w.heap.size, args := #[] } :: a.defers } W) :
    (Code.rangeFunc g ps assign body).wpIn Fence.wide nn Try.prog Q a w := by
  refine wpIn_rangeFunc ?_
  intro fn hfn
  obtain ⟨rec, hrec⟩ : ∃ rec : LoopState → Option Code → Loop, rec = fun st pe => { state := st, pending := pe, fn, tmps := a.tmps, params := ps, assign, body, defers := w.heap.size } := ⟨_, rfl⟩
  obtain ⟨W1, hW1⟩ : ∃ W1, (w.alloc (.deferred (some []))).alloc (.loop (rec .ready none)) = W1 := ⟨_, rfl⟩
  have hL1 : W1.heap[w.heap.size + 1]? = some (.loop (rec .ready none)) := by
    rw [← hW1]; have := World.alloc_heap_new (w.alloc (.deferred (some []))) (.loop (rec .ready none)); rwa [World.size_alloc] at this
  have hK1 : W1.heap[w.heap.size]? = some (.deferred (some [])) := by
    rw [← hW1]; exact (Below.heap_alloc _ _ _ (by simp)).trans (World.alloc_heap_new w _)
  have hs1 : W1.heap.size = w.heap.size + 2 := by rw [← hW1]; simp
  have hB1 : Below w.heap.size w W1 := by rw [← hW1]; exact ((Below.refl _ w).alloc (Nat.le_refl _) _).alloc (by simp) _
  have hO1 : KeepsOthers w W1 := ⟨hB1.size, fun k o h _ => (hB1.block k (lt_of_heap h)).trans h⟩
  refine ⟨w.heap.size + 1, [{ target := .collected w.heap.size, args := #[] }], W1, { target := .fn (.func 30) #[.pointer (some ⟨Ba, 0, none⟩), .pointer (some ⟨Bn, 0, none⟩)], args := #[.func (.yield (w.heap.size + 1)) #[] #[]] }, W1, 30,
    #[.func (.yield (w.heap.size + 1)) #[] #[]] ++ #[.pointer (some ⟨Ba, 0, none⟩), .pointer (some ⟨Bn, 0, none⟩)], W1, ?_, ?_, ?_, ?_, ?_, ?_⟩
  · rw [← hW1, hrec]; exact run_enterLoop_outer _ _ _ _ _
  · simp only [resolve, hg]
    simp [go_sem]
  · intro _ _; trivial
  · simp [invoke, go_sem]
  · intro h; cases h
  · have hgb : ∀ l A B, Below A.heap.size A B → A.grownBy B (some l) := fun l A B h => grown_below h _
    refine (callsIn_wide.2 (near1_any (w.heap.size + 1) Bn Ba n p (fun pre W => I pre W ∧ W.heap[w.heap.size + 1]? = some (.loop (rec .ready none)) ∧ W.heap[w.heap.size]? = some (.deferred (some [])) ∧ KeepsOthers w W ∧ w.heap.size + 2 ≤ W.heap.size) W1 hn1 hn hp ?_ ?_ ?_ ?_ ⟨hI _ _ _ h0 (grown_below hB1 _), hL1, hK1, hO1, by omega⟩)).mono ?_
    · rintro pre A ⟨hi, _⟩
      exact hIn _ _ hi
    · rintro pre A B ⟨hi, ha, hb, hc, hd⟩ hT
      exact ⟨hI _ _ _ hi (grown_below hT _), (hT.block _ (lt_of_heap ha)).trans ha, (hT.block _ (lt_of_heap hb)).trans hb, hc.trans ⟨hT.size, fun k o h _ => (hT.block k (lt_of_heap h)).trans h⟩, Nat.le_trans hd hT.size⟩
    · rintro m pre x W ⟨hi, ha, hb, hc, hsz⟩ hx hxn
      have hy := run_yield (P := Try.prog) (args := #[Value.int .i64 (x : Int)]) ha (by rw [hrec]; exact hps.symm)
      rw [hrec] at hy
      refine ⟨fn, _, assign, body, hy, roundIn_of_wpIn hfn (wpIn_mono (hround m pre x W hx hxn hi hsz) ?_)⟩
      intro e a₁ W₁ hq
      cases e with
      | normal =>
        obtain ⟨rfl, hbody⟩ := hq
        have hlt := lt_of_heap ha
        have hg2 : W₁.grownBy (W₁.putObj (w.heap.size + 1) (.loop { rec .ready none with state := .busy })) (some (w.heap.size + 1)) := grownBy_putObj' _ _ _
        have hsz2 : w.heap.size + 2 ≤ (W₁.putObj (w.heap.size + 1) (.loop { rec .ready none with state := .busy })).heap.size := Nat.le_trans hsz hg2.size
        refine ⟨_, run_beginRound ha (by rw [hrec]), wpIn_mono (hbody _ (hI _ _ _ hi hg2) hsz2) ?_⟩
        rintro e a₃ W₃ ⟨rfl, hT3, hi3⟩
        have hl2 : (W₁.putObj (w.heap.size + 1) (.loop { rec .ready none with state := .busy })).heap[w.heap.size + 1]? = some (.loop { rec .ready none with state := .busy }) := World.putObj_heap_same hlt
        have hl3 := hT3.2 _ _ hl2 rfl
        have hk2 : (W₁.putObj (w.heap.size + 1) (.loop { rec .ready none with state := .busy })).heap[w.heap.size]? = some (.deferred (some [])) := (World.putObj_heap_other (by omega)).trans hb
        have hk3 := hT3.2 _ _ hk2 rfl
        have hsz3 : w.heap.size + 2 ≤ W₃.heap.size := Nat.le_trans hsz2 hT3.1
        have hr := run_endRound (P := Try.prog) none hl3
        rw [hrec] at hr
        have hl4 : (W₃.putObj (w.heap.size + 1) (.loop (rec .ready none))).heap[w.heap.size + 1]? = some (.loop (rec .ready none)) := World.putObj_heap_same (lt_of_heap hl3)
        have hO4 : KeepsOthers w (W₃.putObj (w.heap.size + 1) (.loop (rec .ready none))) := by
          refine ⟨Nat.le_trans (Nat.le_trans (Nat.le_add_right _ 2) hsz3) (grownBy_putObj' W₃ (w.heap.size + 1) _).size, fun k o h1 h2 => ?_⟩
          have hkl := lt_of_heap h1
          rw [World.putObj_heap_other (by omega)]
          exact hT3.2 _ _ ((World.putObj_heap_other (by omega)).trans (hc.2 _ _ h1 h2)) h2
        have hs4 : w.heap.size + 2 ≤ (W₃.putObj (w.heap.size + 1) (.loop (rec .ready none))).heap.size := by
          exact Nat.le_trans hsz3 (grownBy_putObj' W₃ (w.heap.size + 1) (.loop (rec .ready none))).size
        rw [hrec] at hl4 hO4 hs4
        refine ⟨_, _, hr, rfl, hI _ _ _ hi3 (grownBy_putObj' _ _ _), by rw [hrec]; exact hl4, (World.putObj_heap_other (by omega)).trans hk3, hO4, hs4⟩
      | ret => exact hq.elim
      | exit id => exact hq.elim
      | goto t => exact hq.elim
      | panic ch => exact hq.elim
      | outgrown => exact hq.elim
    · exact (hB1.cell (p := ⟨Ba, 0, none⟩) hal).trans ha
    · rintro e W2 ⟨rfl, hi, ha, hb, hc, hd⟩
      refine ⟨none, _, by have := run_endLoop (P := Try.prog) ha (by rw [hrec]; simp); rw [hrec] at this; exact this, hdone _ (hI _ _ _ hi (grownBy_putObj' _ _ _)) ((World.putObj_heap_other (by omega)).trans hb) ⟨Nat.le_trans hc.1 (grownBy_putObj' _ _ _).size, fun k o h1 h2 => ?_⟩⟩
      have hkl := lt_of_heap h1
      exact (World.putObj_heap_other (by omega)).trans (hc.2 _ _ h1 h2)
end Go.Proofs.Ytcibkchfdiijfaa
