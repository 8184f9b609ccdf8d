/- poker.best of five to seven cards below 52: the greatest value of five of them, and the first five that have it; conditions stand in it. -/
import Derived.Test.YtkakggagaplaiaaPkF
import Derived.Test.YtkakggagaplaiaaShelf
import Derived.RangeFuncCalls
namespace Go.Proofs.Ytkakggagaplaiaa
open Go.RowKit Go.Shelf

/-- a range over an iterator with cells of its own: its body writes two cells that lay ahead of it. -/
theorem wpIn_range2 {g : Operand} {ps : Array Tmp} {assign body : Code} {Q : Exit → Act → World → Prop} {a : Act} {w : World} {n : Nat}
    {gf : Nat} {lb : Array Value} (hg : a.eval g = .func (.func gf) #[] lb) (eg : ∀ args w, (callFunc gf args).run Try.prog w = .ok (.enter gf args) w)
    (encs : List Nat → Array Value) (hps : ∀ x, (encs x).size = ps.size) (b1 b2 : Nat) (h1 : b1 < w.heap.size) (h2 : b2 < w.heap.size)
    (S : List (List Nat)) (I : List (List Nat) → World → Prop)
    (hseq : ∀ (J : List (List Nat) → World → Prop) (W : World), W.heap.size = w.heap.size + 2 → Below w.heap.size w W →
      (∀ pre A B, J pre A → Two (W.heap.size + 1) (W.heap.size + 2) A B → J pre B) →
      (∀ m pre x W', x.length = 5 → J pre W' → W.heap.size + 4 ≤ W'.heap.size → YieldAt Fence.wide m Try.prog (w.heap.size + 1) (encs x) W' fun e W'' => e = .returned (.bool true) ∧ J (pre ++ [x]) W'' ∧ KpX b1 b2 W' W'') → J [] W →
      Calls Try.prog gf (#[.func (.yield (w.heap.size + 1)) #[] #[]] ++ lb) W fun e W' => e = .returned (.tuple #[]) ∧ J S W')
    (hI2 : ∀ pre A B, I pre A → Two (w.heap.size + 3) (w.heap.size + 4) A B → I pre B)
    (hIo : ∀ pre A l o, l = w.heap.size + 1 → I pre A → I pre (A.putObj l o)) (h0 : I [] w)
    (hround : ∀ m pre x W, x.length = 5 → I pre W → w.heap.size + 6 ≤ W.heap.size →
      assign.wpIn (Fence.wide.inRound (w.heap.size + 1)) m Try.prog (Exit.then (fun a₁ W₁ => Two b1 b2 W W₁ ∧ ∀ o, body.wpIn (Fence.wide.inRound (w.heap.size + 1)) m Try.prog
        (fun e _ W₃ => e = .normal ∧ Two b1 b2 (W₁.putObj (w.heap.size + 1) o) W₃ ∧ I (pre ++ [x]) W₃) a₁ (W₁.putObj (w.heap.size + 1) o)) (fun _ _ _ => False))
        { tmps := (ps.zip (encs x)).foldl (fun t (p, v) => t.setIfInBounds p v) a.tmps, defers := [] } W)
    (hdone : ∀ W, I S W → W.heap[w.heap.size]? = some (.deferred (some [])) → w.heap.size + 2 ≤ W.heap.size → Q .normal { a with defers := { target := .collected w.heap.size, args := #[] } :: a.defers } W) :
    (Code.rangeFunc g ps assign body).wpIn Fence.wide n Try.prog Q a w := by
  refine wpIn_rangeFunc ?_
  intro fn hfn
  obtain ⟨l, hl⟩ : ∃ l, l = w.heap.size + 1 := ⟨_, rfl⟩
  obtain ⟨rec, hrec⟩ : ∃ rec : LoopState → Option Code → Loop, rec = fun st pe => { state := st, pending := pe, fn, tmps := a.tmps, params := ps, assign, body, defers := w.heap.size } := ⟨_, rfl⟩
  obtain ⟨W1, hW1⟩ : ∃ W1, (w.alloc (.deferred (some []))).alloc (.loop (rec .ready none)) = W1 := ⟨_, rfl⟩
  have hL1 : W1.heap[w.heap.size + 1]? = some (.loop (rec .ready none)) := by
    rw [← hW1]; have := World.alloc_heap_new (w.alloc (.deferred (some []))) (.loop (rec .ready none)); rwa [World.size_alloc] at this
  have hK1 : W1.heap[w.heap.size]? = some (.deferred (some [])) := by
    rw [← hW1]; exact (Below.heap_alloc _ _ _ (by simp)).trans (World.alloc_heap_new w _)
  have hs1 : W1.heap.size = w.heap.size + 2 := by rw [← hW1]; simp
  have hT1 : Two (w.heap.size + 3) (w.heap.size + 4) w W1 := by rw [← hW1]; exact ((Two.refl _ _ _).alloc _).alloc _
  have hB1 : Below w.heap.size w W1 := by rw [← hW1]; exact ((Below.refl _ w).alloc (Nat.le_refl _) _).alloc (by simp) _
  refine ⟨w.heap.size + 1, [{ target := .collected w.heap.size, args := #[] }], W1, { target := .fn (.func gf) lb, args := #[.func (.yield (w.heap.size + 1)) #[] #[]] }, W1, gf,
    #[.func (.yield (w.heap.size + 1)) #[] #[]] ++ lb, W1, ?_, ?_, ?_, ?_, ?_, ?_⟩
  · rw [← hW1, hrec]; exact run_enterLoop_outer _ _ _ _ _
  · simp only [resolve, hg]
    simp [go_sem]
  · intro _ _; trivial
  · simp [invoke, go_sem, eg]
  · intro h; cases h
  · refine (callsIn_wide.2 (hseq (fun pre W => I pre W ∧ W.heap[w.heap.size + 1]? = some (.loop (rec .ready none)) ∧ W.heap[w.heap.size]? = some (.deferred (some []))) W1 hs1 hB1 ?_ ?_ ⟨hI2 _ _ _ h0 hT1, hL1, hK1⟩)).mono ?_
    · rintro pre A B ⟨hi, ha, hb⟩ hT
      rw [hs1] at hT
      have la := (Array.getElem?_eq_some_iff.1 ha).1
      have lb := (Array.getElem?_eq_some_iff.1 hb).1
      exact ⟨hI2 _ _ _ hi hT, (hT.block _ la (by omega) (by omega)).trans ha, (hT.block _ lb (by omega) (by omega)).trans hb⟩
    · rintro m pre x W hx ⟨hi, ha, hb⟩ hsz
      rw [hs1] at hsz
      have hy := run_yield (P := Try.prog) (args := encs x) ha (by rw [hrec]; exact hps x)
      rw [hrec] at hy
      refine ⟨fn, _, assign, body, hy, roundIn_of_wpIn hfn (wpIn_mono (hround m pre x W hx hi (by omega)) ?_)⟩
      intro e a₁ W₁ hq
      cases e with
      | normal =>
        obtain ⟨hT, hbody⟩ := hq
        have ha1 : W₁.heap[w.heap.size + 1]? = some (.loop (rec .ready none)) := (hT.block _ (Array.getElem?_eq_some_iff.1 ha).1 (by omega) (by omega)).trans ha
        have hb1 : W₁.heap[w.heap.size]? = some (.deferred (some [])) := (hT.block _ (Array.getElem?_eq_some_iff.1 hb).1 (by omega) (by omega)).trans hb
        have hlt : w.heap.size + 1 < W₁.heap.size := (Array.getElem?_eq_some_iff.1 ha1).1
        refine ⟨_, run_beginRound ha1 (by rw [hrec]), wpIn_mono (hbody _) ?_⟩
        rintro e a₃ W₃ ⟨rfl, hT3, hi3⟩
        have hl2 : (W₁.putObj (w.heap.size + 1) (.loop { rec .ready none with state := .busy })).heap[w.heap.size + 1]? = some (.loop { rec .ready none with state := .busy }) := World.putObj_heap_same hlt
        have hl3 := (hT3.block (w.heap.size + 1) (by simpa [World.putObj] using hlt) (by omega) (by omega)).trans hl2
        have hk3 := (hT3.block w.heap.size (by simp [World.putObj]; omega) (by omega) (by omega)).trans ((World.putObj_heap_other (by omega)).trans hb1)
        have hr := run_endRound (P := Try.prog) none hl3
        rw [hrec] at hr
        have hl4 : (W₃.putObj (w.heap.size + 1) (.loop (rec .ready none))).heap[w.heap.size + 1]? = some (.loop (rec .ready none)) := World.putObj_heap_same (Array.getElem?_eq_some_iff.1 hl3).1
        rw [hrec] at hl4
        refine ⟨_, _, hr, rfl, ⟨hIo _ _ _ _ rfl hi3, by rw [hrec]; exact hl4, (World.putObj_heap_other (by omega)).trans hk3⟩, ?_⟩
        refine ⟨?_, fun k o ho hc k1 k2 => ?_⟩
        · have e1 := hT.size; have e2 := hT3.size; simp [World.putObj] at e2 ⊢; omega
        · have kl := (Array.getElem?_eq_some_iff.1 ho).1
          have kn : k ≠ w.heap.size + 1 := fun e => by subst e; rw [ha] at ho; cases ho; cases hc
          have e2 := hT.size
          rw [World.putObj_heap_other (by omega), hT3.block k (by simp [World.putObj]; omega) k1 k2, World.putObj_heap_other (by omega), hT.block k kl k1 k2, ho]
      | ret => exact hq.elim
      | exit id => exact hq.elim
      | goto t => exact hq.elim
      | panic ch => exact hq.elim
      | outgrown => exact hq.elim
    · rintro e W2 ⟨rfl, hi, ha, hb⟩
      have hlt := (Array.getElem?_eq_some_iff.1 ha).1
      exact ⟨none, _, by have := run_endLoop (P := Try.prog) ha (by rw [hrec]; simp); rw [hrec] at this; exact this, hdone _ (hIo _ _ _ _ rfl hi) ((World.putObj_heap_other (by omega)).trans hb) (by simp [World.putObj]; omega)⟩

/-- what the loop holds: the boxes of the greatest value so far and of its five. -/
structure Bi (w : World) (L : List Nat) (pre : List (List Nat)) (W : World) : Prop where
  top : Nums W w.heap.size 3 [(bfold L pre).1]
  row : ∃ q c, W.heap[w.heap.size + 1]? = some (.cells #[.slice q (bfold L pre).2.length c] 22 (0, 0)) ∧ Own 3 (w.heap.size + 9) W q (bfold L pre).2.length c (asI (bfold L pre).2)
  bel : Below w.heap.size w W
theorem Bi.two {w : World} {L : List Nat} {pre : List (List Nat)} {A B : World} (h : Bi w L pre A) (k : Two (w.heap.size + 6) (w.heap.size + 7) A B) : Bi w L pre B := by
  obtain ⟨h1, ⟨q, c, h2, h3⟩, h4⟩ := h
  have l1 := h1.lt
  have l2 := lt_of_heap h2
  exact ⟨(k.block _ l1 (by omega) (by omega)).trans h1, ⟨q, c, (k.block _ l2 (by omega) (by omega)).trans h2, OwnC.keep (k := 1) h3 fun a ha => k.block _ (OwnC.block (k := 1) h3 a ha).2 (by have := (OwnC.block (k := 1) h3 a ha).1; omega) (by have := (OwnC.block (k := 1) h3 a ha).1; omega)⟩,
    ⟨k.os.trans h4.os, k.tape.trans h4.tape, k.output.trans h4.output, Nat.le_trans h4.size k.size, fun i hi => (k.block i (Nat.lt_of_lt_of_le hi h4.size) (by omega) (by omega)).trans (h4.block i hi)⟩⟩
theorem Bi.put {w : World} {L : List Nat} {pre : List (List Nat)} {A : World} {l : Nat} {o : Obj} (h : Bi w L pre A) (hl : l = w.heap.size + 4) : Bi w L pre (A.putObj l o) := by
  subst hl
  obtain ⟨h1, ⟨q, c, h2, h3⟩, h4⟩ := h
  exact ⟨(World.putObj_heap_other (by omega)).trans h1, ⟨q, c, (World.putObj_heap_other (by omega)).trans h2, OwnC.keep (k := 1) h3 fun a ha => World.putObj_heap_other (by have := (OwnC.block (k := 1) h3 a ha).1; omega)⟩,
    ⟨h4.os, h4.tape, h4.output, by simpa [World.putObj] using h4.size, fun i hi => (World.putObj_heap_other (by omega)).trans (h4.block i hi)⟩⟩

theorem clone5_any (g : Nat) (s : List Nat) (W : World) (h : Nums W g 101 (asI s)) (hl : s.length = 5) :
    Calls Try.prog 39 #[.slice (some ⟨g, 0, none⟩) 5 5] W fun e w' => ∃ q c, e = .returned (.slice q 5 c) ∧ Own 3 W.heap.size w' q 5 c (asI s) ∧ Below W.heap.size W w' := by
  have hl' : (asI s).length = 5 := by rw [asI_len, hl]
  refine (Sh.slices_Clone_int g 0 5 5 (asI s) W (by omega) (by omega) fun j hj => ?_).mono ?_
  · rw [Nat.zero_add, h.cell hj]; simp [List.getD]
  · rintro e w' ⟨v, rfl, ho, hne, hB⟩
    rw [List.take_of_length_le (by omega)] at ho
    rcases ho.2 with ⟨hv, h0⟩ | ⟨g', cap, cur, hv, r⟩
    · omega
    · subst hv; exact ⟨_, _, rfl, ho, hB⟩
section
attribute [local go_sem] Oper.semAt_some
set_option maxRecDepth 100000 in
set_option maxHeartbeats 4000000 in
theorem best7_any (p : Option Addr) (len cap : Nat) (L : List Nat) (w : World) (h5 : 5 ≤ len) (h7 : len ≤ 7) (hx : IntsIn w p len (asI L)) (h52 : ∀ x ∈ L, x < 52) :
    Calls Try.prog 37 #[.slice p len cap] w fun e w' => ∃ q c, e = .returned (.tuple #[.int .i64 (bestS L).1, .slice q 5 c]) ∧ Own 3 w.heap.size w' q 5 c (asI (bestS L).2) ∧ Below w.heap.size w w' := by
  have hlL : L.length = len := by have := hx.len; rwa [asI_len] at this
  have hap : ∀ a, p = some a → a.block < w.heap.size := fun a e => by
    obtain ⟨b, o, e2, hb, _⟩ := hx.at (by omega); rw [e] at e2; cases e2; exact hb
  have hst : ∀ i, st L i < 52 := fun i => by
    by_cases h : i < L.length
    · exact h52 _ (st_mem_lt h)
    · unfold st; rw [List.getElem?_eq_none (by omega)]; exact Nat.zero_lt_succ _
  refine (callsIn_wide (n := 20)).1 ?_
  refine callsIn_of_wp_marks Try.func37 rfl trivial ?_ rfl
  simp only [Try.ntmps37, List.size_toArray, List.length_cons, List.length_nil, Nat.reduceAdd, Nat.reduceSub, Array.replicate_succ, Array.replicate_zero, List.push_toArray, List.append_toArray, List.nil_append, List.cons_append]
  gi_wp2_with (refine ⟨trivial, ?_⟩; gi_at_call 59; refine (callsIn_wide.2 (fives_any p len cap _)).mono ?_; rintro e w' ⟨rfl, rfl⟩)
  obtain ⟨W0, hW0⟩ : ∃ W0 : World, W0 = ((w.alloc (.cells #[.int .i64 (-1)] 3)).alloc (.cells #[.slice none 0 0] 22)).alloc (.cells #[.slice p len cap] 22) := ⟨_, rfl⟩
  have hs0 : W0.heap.size = w.heap.size + 3 := by rw [hW0]; simp
  have a0 : W0.heap[w.heap.size]? = some (.cells #[.int .i64 (-1)] 3 (0, 0)) := by
    rw [hW0]; exact (Below.heap_alloc _ _ _ (by simp; omega)).trans ((Below.heap_alloc _ _ _ (by simp)).trans (heap_alloc_new w _))
  have a1 : W0.heap[w.heap.size + 1]? = some (.cells #[.slice none 0 0] 22 (0, 0)) := by
    have h := heap_alloc_new (w.alloc (.cells #[.int .i64 (-1)] 3)) (.cells #[.slice none 0 0] 22)
    rw [World.size_alloc] at h
    rw [hW0]; exact (Below.heap_alloc _ _ _ (by simp)).trans h
  have a2 : W0.heap[w.heap.size + 2]? = some (.cells #[.slice p len cap] 22 (0, 0)) := by
    have h := heap_alloc_new ((w.alloc (.cells #[.int .i64 (-1)] 3)).alloc (.cells #[.slice none 0 0] 22)) (.cells #[.slice p len cap] 22)
    rw [World.size_alloc, World.size_alloc] at h
    rw [hW0]; exact h
  have hB0 : Below w.heap.size w W0 := by rw [hW0]; exact (((Below.refl _ w).alloc (Nat.le_refl _) _).alloc (by simp) _).alloc (by simp; omega) _
  have hI0 : Bi w L [] W0 := ⟨a0, ⟨none, 0, a1, OwnC.nil _ _ _ _⟩, hB0⟩
  rw [← hW0]
  clear hW0
  refine wpIn_range2 (gf := 73) (lb := #[.pointer (some ⟨w.heap.size + 2, 0, none⟩)]) rfl (enters_of Try.func73 (by kernel_rfl) rfl) (fun x => #[A5 x, A5 (atS L x)]) (fun _ => rfl) w.heap.size (w.heap.size + 1) (by omega) (by omega)
    (ixs len 5 0) (Bi w L) ?seq ?two ?put hI0 ?round ?done
  case two =>
    rw [hs0]
    exact fun pre A B h k => h.two k
  case put =>
    rw [hs0]
    exact fun pre A l o hl h => h.put hl
  case seq =>
    intro J W hsz hB hJ2 hY hj0
    rw [hs0] at hsz
    refine fives1_any (W0.heap.size + 1) (w.heap.size + 2) w.heap.size (w.heap.size + 1) len cap p L J W (by omega) (by omega) (by omega) (by omega) (fun a e => by have := hap a e; omega) hJ2 hY
      ((hB.cell (p := ⟨w.heap.size + 2, 0, none⟩) (by rw [hs0]; simp)).trans (wcell (cs := [_]) a2 0)) ((hx.below hB0).below hB) hj0
  case round =>
    intro m pre x W hx5 hI hsz
    have hxl : (atS L x).length = 5 := by simp [atS, hx5]
    have hx52 : ∀ c ∈ atS L x, c < 52 := fun c hc => by
      unfold atS at hc; obtain ⟨i, _, rfl⟩ := List.mem_map.1 hc; exact hst i
    have hbs := Lib.hid (bfold_snoc L pre x)
    have hbs2 : Hid (bstep L (bfold L pre) x = if (bfold L pre).1 < (vlS (atS L x) : Int) then ((vlS (atS L x) : Int), atS L x) else bfold L pre) := rfl
    generalize atS L x = X at *
    have HV := Lib.hid (fun W => value_any X hxl hx52 W)
    unfold A5 at *
    gi_wp2
    refine ⟨(Two.refl _ _ _).alloc _, fun o => ?_⟩
    have hIa : Bi w L pre (W.alloc (.cells #[.int .i64 (st X 0 : Nat), .int .i64 (st X 1 : Nat), .int .i64 (st X 2 : Nat), .int .i64 (st X 3 : Nat), .int .i64 (st X 4 : Nat)] 101)) := hI.two ((Two.refl _ _ _).alloc _)
    have hI2 := hIa.put (l := W0.heap.size + 1) (o := o) (by omega)
    have hX : Nums ((W.alloc (.cells #[.int .i64 (st X 0 : Nat), .int .i64 (st X 1 : Nat), .int .i64 (st X 2 : Nat), .int .i64 (st X 3 : Nat), .int .i64 (st X 4 : Nat)] 101)).putObj (W0.heap.size + 1) o) W.heap.size 101 (asI X) := by
      have h := heap_alloc_new W (.cells #[.int .i64 (st X 0 : Nat), .int .i64 (st X 1 : Nat), .int .i64 (st X 2 : Nat), .int .i64 (st X 3 : Nat), .int .i64 (st X 4 : Nat)] 101)
      refine (World.putObj_heap_other (by omega)).trans ?_
      rw [h, five_is hxl]; rfl
    generalize (W.alloc (.cells #[.int .i64 (st X 0 : Nat), .int .i64 (st X 1 : Nat), .int .i64 (st X 2 : Nat), .int .i64 (st X 3 : Nat), .int .i64 (st X 4 : Nat)] 101)).putObj (W0.heap.size + 1) o = W2 at *
    clear hIa hI hx hst hap hlL h52
    have hHB : w.heap.size + 9 ≤ W.heap.size := by omega
    generalize W.heap.size = H at *
    have q := load5 hX hxl
    have c0 := q 0 (by omega); have c1 := q 1 (by omega); have c2 := q 2 (by omega); have c3 := q 3 (by omega); have c4 := q 4 (by omega)
    have hHV : Hid (Calls Try.prog 60 #[.agg #[.int .i64 (st X 0 : Nat), .int .i64 (st X 1 : Nat), .int .i64 (st X 2 : Nat), .int .i64 (st X 3 : Nat), .int .i64 (st X 4 : Nat)]] W2 fun e W3 => ∃ v : Int, e = .returned (.int .i64 v) ∧ v = (vlS X : Nat) ∧ Below W2.heap.size W2 W3 ∧ Bi w L pre W3 ∧ Nums W3 H 101 (asI X)) := (HV.out W2).mono fun e W3 ⟨h1, h2⟩ =>
      ⟨_, h1, rfl, h2, hI2.two ((Two.refl _ _ _).below h2), hX.below h2 hX.lt⟩
    clear q HV
    replace hX := Lib.hid hX; replace hI2 := Lib.hid hI2
    gi_wp2
    refine ⟨trivial, (fun h => by cases h), ?_⟩
    refine (CallsIn.inRound _ (callsIn_wide.2 hHV.out)).mono ?_
    rintro e W3 ⟨v, rfl, hv, hB3, hI3, hX3⟩
    obtain ⟨q3, k3, r3, o3⟩ := hI3.row
    have d0 := hI3.top.cell (i := 0) (by simp)
    simp only [List.getElem?_cons_zero, Option.getD_some] at d0
    have HC := Lib.hid (clone5_any H X W3 hX3 hxl)
    have hHlt := hX3.lt
    have hT3 := Lib.hid ((Two.refl w.heap.size (w.heap.size + 1) W2).below hB3)
    replace hI3 := Lib.hid hI3; replace hX3 := Lib.hid hX3; replace hv := Lib.hid hv
    clear r3 o3 hHV c0 c1 c2 c3 c4 hB3 hI2 hX
    by_cases hgt : (bfold L pre).1 < v
    · have b1 : decide ((bfold L pre).1 < v) = true := decide_eq_true hgt
      gi_wp2
      refine ⟨trivial, (fun h => by cases h), ?_⟩
      refine (CallsIn.inRound _ (callsIn_wide.2 HC.out)).mono ?_
      rintro e W4 ⟨q4, k4, rfl, ho4, hB4⟩
      have hI4 := hI3.out.two ((Two.refl _ _ _).below hB4)
      obtain ⟨q5, k5, r5, o5⟩ := hI4.row
      have d2 := hI4.top.cell (i := 0) (by simp)
      have f2 := hI4.top.free 0
      have d3 := wcell (cs := [_]) r5 0
      have f3 := wfree r5 0
      have d4 : (W4.setCell ⟨w.heap.size, 0, none⟩ (.int .i64 v)).cell? ⟨w.heap.size + 1, 0, none⟩ = W4.cell? ⟨w.heap.size + 1, 0, none⟩ := World.cell?_of_block (Below.heap_setCell W4 _ _ _ (by simp))
      simp only [List.getElem?_cons_zero, Option.getD_some] at d2 d3
      have hbb : bfold L (pre ++ [x]) = ((vlS X : Int), X) := by rw [hbs.out, hbs2.out, if_pos (by rw [← hv.out]; exact hgt)]
      have hfin : Hid (Two w.heap.size (w.heap.size + 1) W2 ((W4.setCell ⟨w.heap.size, 0, none⟩ (.int .i64 v)).setCell ⟨w.heap.size + 1, 0, none⟩ (.slice q4 5 k4)) ∧ Bi w L (pre ++ [x]) ((W4.setCell ⟨w.heap.size, 0, none⟩ (.int .i64 v)).setCell ⟨w.heap.size + 1, 0, none⟩ (.slice q4 5 k4))) := by
        refine ⟨((hT3.out.below hB4).set ⟨w.heap.size, 0, none⟩ _ (.inl rfl)).set ⟨w.heap.size + 1, 0, none⟩ _ (.inr rfl), ⟨?_, ⟨q4, k4, ?_, ?_⟩, ?_⟩⟩
        · rw [hbb]; exact (by have := hI4.top.set 0 v; rw [← hv.out]; exact this : Nums (W4.setCell ⟨w.heap.size, 0, none⟩ (.int .i64 v)) w.heap.size 3 [(vlS X : Int)]).far (p := ⟨w.heap.size + 1, 0, none⟩) (by simp) _
        · rw [hbb, hxl]
          have h1 := (Below.heap_setCell W4 ⟨w.heap.size, 0, none⟩ (.int .i64 v) (w.heap.size + 1) (by simp)).trans r5
          exact wset h1 0 (.slice q4 5 k4)
        · rw [hbb, hxl]
          have hm := OwnC.mono (k := 1) (B' := w.heap.size + 9) ho4 (by omega)
          exact OwnC.keep (k := 1) hm fun a ha => (Below.heap_setCell _ _ _ _ (by have := (OwnC.block (k := 1) hm a ha).1; simp; omega)).trans (Below.heap_setCell _ _ _ _ (by have := (OwnC.block (k := 1) hm a ha).1; simp; omega))
        · exact (hI4.bel.setCell (p := ⟨w.heap.size, 0, none⟩) (Nat.le_refl _) _).setCell (p := ⟨w.heap.size + 1, 0, none⟩) (by simp) _
      clear r5 o5 hI4 ho4 hB4 hT3 HC hbs hbs2 hbb
      gi_wp2
      exact hfin.out
    · have b1 : decide ((bfold L pre).1 < v) = false := decide_eq_false hgt
      have hbb : Hid (bfold L (pre ++ [x]) = bfold L pre) := by show _ = _; rw [hbs.out, hbs2.out, if_neg (by rw [← hv.out]; exact hgt)]
      clear HC hbs hbs2
      gi_wp2
      refine ⟨hT3.out, ?_⟩
      have hI := hI3.out
      exact ⟨by rw [hbb.out]; exact hI.top, by rw [hbb.out]; exact hI.row, hI.bel⟩
  case done =>
    intro W hI hD hsz
    have e1 := hI.top.cell (i := 0) (by simp)
    obtain ⟨q, c, e2, e3⟩ := hI.row
    have hbest : bfold L (ixs len 5 0) = bestS L := by unfold bestS; rw [hlL]
    rw [hbest] at e1 e2 e3
    have hbl := best_len (L := L) (by omega)
    rw [hbl] at e2 e3
    have e2c := wcell (cs := [_]) e2 0
    have hB := Lib.hid hI.bel
    replace e3 := Lib.hid e3
    clear hI e2 hbest
    dsimp only
    gi_wp2
    gi_region
    all_goals gi_wp2
    all_goals
      refine ⟨by simp, .inl ⟨_, _, rfl, run_takeDeferred hD, ?_⟩⟩
      refine ⟨_, results_tmp2 rfl _ _ _, q, c, rfl, ?_, ?_⟩
      · have hm := OwnC.mono (k := 1) (B' := w.heap.size) e3.out (by omega)
        exact OwnC.keep (k := 1) hm fun a ha => World.putObj_heap_other (by have := (OwnC.block (k := 1) e3.out a ha).1; omega)
      · exact ⟨hB.out.os, hB.out.tape, hB.out.output, by simpa [World.putObj] using hB.out.size, fun k hk => (World.putObj_heap_other (by omega)).trans (hB.out.block k hk)⟩
end
end Go.Proofs.Ytkakggagaplaiaa
