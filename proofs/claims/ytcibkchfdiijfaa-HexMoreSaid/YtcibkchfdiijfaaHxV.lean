import Derived.Test.YtcibkchfdiijfaaHxK
/- What hex.groups' memory keeps; conditions: those typed. -/
namespace Go.Proofs.Ytcibkchfdiijfaa
open Go.RowKit Go.Shelf
variable {n who N gc : Nat} {gp : Option Addr} {s : List Nat} {w : World}

theorem grown_far {A B C : World} {r l : Nat} (h : A.grownBy B (some r)) (k : B.grownBy C (some l)) (hl : A.heap.size ≤ l) : A.grownBy C (some r) :=
  ⟨k.os.trans h.os, k.tape.trans h.tape, k.output.trans h.output, Nat.le_trans h.size k.size, fun i hi hne => (k.block i (Nat.lt_of_lt_of_le hi h.size) (fun e => by injection e with e; omega)).trans (h.block i hi hne)⟩
theorem Gw.new (W : World) (w : World) (hW : W = (((w.alloc (.cells #[.int .i64 (n : Int), .int .i64 (n : Int), .slice gp N gc] 24)).alloc (.cells #[.int .i64 (who : Int)] 3)).alloc (.cells (Array.replicate N (.bool false)) 4)).alloc (.cells #[.slice (some ⟨w.heap.size + 1 + 1, 0, none⟩) N N] 61)) :
    Gw n who N gc gp s w W 0 [] none 0 0 [] (fun _ => false) := by
  obtain ⟨h1, h2, h3, h4⟩ := heap4 w (.cells #[.int .i64 (n : Int), .int .i64 (n : Int), .slice gp N gc] 24) (.cells #[.int .i64 (who : Int)] 3) (.cells (Array.replicate N (.bool false)) 4) (.cells #[.slice (some ⟨w.heap.size + 1 + 1, 0, none⟩) N N] 61)
  rw [← hW] at h1 h2 h3 h4
  refine ⟨h1, h2, ⟨_, h3, by simp, fun i hi => by simp [hi]⟩, h4, OwnRows.nil _ _ _, by rw [hW]; exact below4 _ _ _ _ _, Whole.nil _ _, fun a h => absurd h (Nat.not_lt_zero a), Mk.nil _ _, Nat.le_refl _⟩
/-- behind blocks from the world's own end on, and the seen row written. -/
theorem Gw.after {k : Nat} {ms : List Nat} {q : Option Addr} {l c : Nat} {L : List (List Nat)} {f : Nat → Bool} {W W' : World} (h : Gw n who N gc gp s w W k ms q l c L f) (hg : W.grownBy W' (some (w.heap.size + 1 + 1))) :
    W'.heap[w.heap.size]? = some (.cells #[.int .i64 (n : Int), .int .i64 (n : Int), .slice gp N gc] 24 (0, 0)) ∧ W'.heap[w.heap.size + 1]? = some (.cells #[.int .i64 (who : Int)] 3 (0, 0)) ∧
    W'.heap[w.heap.size + 1 + 1 + 1]? = some (.cells #[.slice (some ⟨w.heap.size + 1 + 1, 0, none⟩) N N] 61 (0, 0)) ∧ OwnRows 22 (w.heap.size + 4) W' q l c (L.map asI) ∧ Below w.heap.size w W' := by
  have ne : ∀ k, k ≠ w.heap.size + 1 + 1 → some k ≠ some (w.heap.size + 1 + 1) := fun k h e => by injection e with e; exact h e
  refine ⟨(hg.block _ (lt_of_heap h.box) (ne _ (by omega))).trans h.box, (hg.block _ (lt_of_heap h.whb) (ne _ (by omega))).trans h.whb, (hg.block _ (lt_of_heap h.sb) (ne _ (by omega))).trans h.sb, h.rows.far hg.size fun k h1 h2 => hg.block k h2 (ne _ (by omega)), ?_⟩
  exact ⟨hg.os.trans h.bel.os, hg.tape.trans h.bel.tape, hg.output.trans h.bel.output, Nat.le_trans h.bel.size hg.size, fun i hi => (hg.block i (Nat.lt_of_lt_of_le hi h.bel.size) (ne _ (by omega))).trans (h.bel.block i hi)⟩
theorem Hw.start {k : Nat} {ms : List Nat} {q : Option Addr} {l c : Nat} {L : List (List Nat)} {f : Nat → Bool} {W : World} (h : Gw n who N gc gp s w W k ms q l c L f) (hk : k < n * n) (hw : st s k = who) (hf : f k = false) :
    Hw n who N gc gp s w W (((W.setCell ⟨w.heap.size + 1 + 1, k, none⟩ (.bool true)).alloc (.cells #[.int .i64 (k : Int)] 3)).alloc (.cells #[.slice (some ⟨W.heap.size, 0, none⟩) 1 1] 22)) f k (W.heap.size + 1) ms (some ⟨W.heap.size, 0, none⟩) 1 [k] (fset f k) := by
  have hsz : (W.setCell ⟨w.heap.size + 1 + 1, k, none⟩ (.bool true)).heap.size = W.heap.size := by simp [World.setCell]
  have hb : ∀ i, i ≠ w.heap.size + 1 + 1 → (W.setCell ⟨w.heap.size + 1 + 1, k, none⟩ (.bool true)).heap[i]? = W.heap[i]? := fun i hi => Below.heap_setCell W ⟨w.heap.size + 1 + 1, k, none⟩ _ i hi
  have hss := h.seen.set k
  have hmk := h.mrk.keep (KeepsOthers.setCell W ⟨w.heap.size + 1 + 1, k, none⟩ (.bool true))
  have hgr : W.grownBy (W.setCell ⟨w.heap.size + 1 + 1, k, none⟩ (.bool true)) (some (w.heap.size + 1 + 1)) := ⟨rfl, rfl, rfl, by rw [hsz]; exact Nat.le_refl _, fun i _ hne => hb i (fun e => hne (by rw [e]))⟩
  generalize W.setCell ⟨w.heap.size + 1 + 1, k, none⟩ (.bool true) = V at *
  obtain ⟨b1, b2⟩ := heap2 V (.cells #[.int .i64 (k : Int)] 3) (.cells #[.slice (some ⟨W.heap.size, 0, none⟩) 1 1] 22)
  rw [hsz] at b1 b2
  have hB := below2 V (.cells #[.int .i64 (k : Int)] 3) (.cells #[.slice (some ⟨W.heap.size, 0, none⟩) 1 1] 22)
  have hO : KeepsOthers V ((V.alloc (.cells #[.int .i64 (k : Int)] 3)).alloc (.cells #[.slice (some ⟨W.heap.size, 0, none⟩) 1 1] 22)) := ⟨hB.size, fun i o h _ => (hB.block i (lt_of_heap h)).trans h⟩
  generalize (V.alloc (.cells #[.int .i64 (k : Int)] 3)).alloc (.cells #[.slice (some ⟨W.heap.size, 0, none⟩) 1 1] 22) = Y at *
  refine ⟨?_, hss.keep (hB.block _ hss.lt), b2, ?_, Nat.le_succ _, Sp.start hf hk hw, by simp [fset], hmk.keep hO⟩
  · exact ⟨hB.os.trans hgr.os, hB.tape.trans hgr.tape, hB.output.trans hgr.output, Nat.le_trans hgr.size hB.size, fun i hi hne => (hB.block i (by omega)).trans (hgr.block i hi hne)⟩
  · refine ⟨by simp [asI], .inr ⟨W.heap.size, 1, #[.int .i64 (k : Int)], rfl, Nat.le_refl _, b1, by simp, by unfold maxLen; omega, by simp, by simp [asI]⟩⟩
theorem Hw.keep {W0 A B : World} {f0 : Nat → Bool} {kf : Nat} {G l : Nat} {ms : List Nat} {gq : Option Addr} {gcap : Nat} {Gr : List Nat} {f : Nat → Bool} (h : Hw n who N gc gp s w W0 A f0 kf G ms gq gcap Gr f) (hg : A.grownBy B (some l)) (hl : W0.heap.size ≤ l) (hW : w.heap.size + 4 ≤ W0.heap.size)
    (hlG : l ≠ G) (hlq : ∀ a, gq = some a → a.block ≠ l) (hmk : Mk w.heap.size ms B) : Hw n who N gc gp s w W0 B f0 kf G ms gq gcap Gr f := by
  have ne : ∀ k, k ≠ l → some k ≠ some l := fun k h e => by injection e with e; exact h e
  exact ⟨grown_far h.gro hg hl, h.seen.keep (hg.block _ h.seen.lt (ne _ (by omega))), (hg.block _ (lt_of_heap h.gb) (ne _ (fun e => hlG e.symm))).trans h.gb, h.own.keep fun a ha => hg.block _ (h.own.block a ha).2 (ne _ (hlq a ha)), h.gH, h.sp, h.fst, hmk⟩
/-- what holds in a range over the neighbours of the i-th place, which is p; X: the block of near's first box. -/
def Rw (n who N gc : Nat) (gp : Option Addr) (s : List Nat) (w W0 : World) (f0 : Nat → Bool) (kf : Nat) (G X i p : Nat) (ms : List Nat) (pre : List Nat) (W : World) : Prop :=
  ∃ (gq : Option Addr) (gcap : Nat) (Gr : List Nat) (f : Nat → Bool), Hw n who N gc gp s w W0 W f0 kf G ms gq gcap Gr f ∧ i < Gr.length ∧ st Gr i = p ∧ (∀ j, j < i → ∀ c, Nx n (st Gr j) c → st s c = who → f c = true) ∧
    (∀ c ∈ pre, st s c = who → f c = true) ∧ (∀ a, gq = some a → a.block < X ∨ X + 4 ≤ a.block) ∧ W.heap[X]? = some (.cells #[.int .i64 (n : Int)] 3 (0, 0)) ∧ X + 2 ≤ W.heap.size
theorem Rw.keep {W0 A B : World} {f0 : Nat → Bool} {kf : Nat} {G X i p : Nat} {ms pre : List Nat} (h : Rw n who N gc gp s w W0 f0 kf G X i p ms pre A) (hg : A.grownBy B (some (X + 3))) (hW : w.heap.size + 4 ≤ W0.heap.size) (hX : W0.heap.size ≤ X) (hG : G < X) (hms : ∀ D ∈ ms, D < X) : Rw n who N gc gp s w W0 f0 kf G X i p ms pre B := by
  obtain ⟨gq, gcap, Gr, f, h1, h2, h3, h4, h5, h6, h7, h8⟩ := h
  have ne : ∀ k, k ≠ X + 3 → some k ≠ some (X + 3) := fun k h e => by injection e with e; exact h e
  exact ⟨gq, gcap, Gr, f, h1.keep hg (by omega) hW (by omega) (fun a ha => by have := h6 a ha; omega) ⟨h1.mrk.1, fun D hD => ⟨(h1.mrk.2 D hD).1, (hg.block D (lt_of_heap (h1.mrk.2 D hD).2) (ne _ (by have := hms D hD; omega))).trans (h1.mrk.2 D hD).2⟩⟩, h2, h3, h4, h5, h6, (hg.block X (lt_of_heap h7) (ne _ (by omega))).trans h7, Nat.le_trans h8 hg.size⟩
theorem st_app {l : List Nat} {y j : Nat} (h : j < l.length) : st (l ++ [y]) j = st l j := by unfold st; rw [List.getElem?_append_left h]
theorem fset_mono {f : Nat → Bool} {x c : Nat} (h : f c = true) : fset f x c = true := by unfold fset; split <;> simp_all
/-- a place more. -/
theorem Rw.more {W0 A B : World} {f0 : Nat → Bool} {kf : Nat} {G X i p x : Nat} {ms pre : List Nat} {gq gq' : Option Addr} {gcap gcap' : Nat} {Gr : List Nat} {f : Nat → Bool} (h1 : Hw n who N gc gp s w W0 A f0 kf G ms gq gcap Gr f) (h2 : i < Gr.length) (h3 : st Gr i = p)
    (h4 : ∀ j, j < i → ∀ c, Nx n (st Gr j) c → st s c = who → f c = true) (h5 : ∀ c ∈ pre, st s c = who → f c = true) (hx : Nx n p x) (hw : st s x = who) (hf : f x = false)
    (k1 : W0.grownBy B (some (w.heap.size + 1 + 1))) (k2 : Bools B (w.heap.size + 1 + 1) N (fset f x)) (k3 : B.heap[G]? = some (.cells #[.slice gq' (Gr.length + 1) gcap'] 22 (0, 0))) (k4 : Own 3 W0.heap.size B gq' (Gr.length + 1) gcap' (asI Gr ++ [(x : Int)])) (k5 : KeepsOthers A B)
    (k6 : ∀ a, gq' = some a → a.block < X ∨ X + 4 ≤ a.block) (k7 : B.heap[X]? = some (.cells #[.int .i64 (n : Int)] 3 (0, 0))) (k8 : X + 2 ≤ B.heap.size) : Rw n who N gc gp s w W0 f0 kf G X i p ms (pre ++ [x]) B := by
  have hmem : p ∈ Gr := by
    rw [← h3]; unfold st; rw [List.getElem?_eq_getElem h2]; exact List.getElem_mem h2
  refine ⟨gq', gcap', Gr ++ [x], fset f x, ⟨k1, k2, by simpa using k3, ?_, h1.gH, h1.sp.add hmem hx hw hf, fset_mono h1.fst, h1.mrk.keep k5⟩, by simp; omega, by rw [st_app h2]; exact h3, fun j hj c hc hs => ?_, fun c hc hs => ?_, k6, k7, k8⟩
  · rw [asI_app]; simpa [asI] using k4
  · rw [st_app (by omega)] at hc; exact fset_mono (h4 j hj c hc hs)
  · rcases List.mem_append.1 hc with hc | hc
    · exact fset_mono (h5 c hc hs)
    · obtain rfl := List.mem_singleton.1 hc
      simp [fset]
/-- a place that needs none. -/
theorem Rw.skip {W0 A B : World} {f0 : Nat → Bool} {kf : Nat} {G X i p x : Nat} {ms pre : List Nat} {gq : Option Addr} {gcap : Nat} {Gr : List Nat} {f : Nat → Bool} (h1 : Hw n who N gc gp s w W0 A f0 kf G ms gq gcap Gr f) (h2 : i < Gr.length) (h3 : st Gr i = p)
    (h4 : ∀ j, j < i → ∀ c, Nx n (st Gr j) c → st s c = who → f c = true) (h5 : ∀ c ∈ pre, st s c = who → f c = true) (h6 : ∀ a, gq = some a → a.block < X ∨ X + 4 ≤ a.block) (h7 : A.heap[X]? = some (.cells #[.int .i64 (n : Int)] 3 (0, 0))) (h8 : X + 2 ≤ A.heap.size) (hx : st s x = who → f x = true)
    (hB : B.heap = A.heap) (ho : B.os = A.os) (ht : B.tape = A.tape) (hu : B.output = A.output) : Rw n who N gc gp s w W0 f0 kf G X i p ms (pre ++ [x]) B := by
  have hgr : A.grownBy B none := ⟨ho, ht, hu, by rw [hB]; exact Nat.le_refl _, fun k _ _ => by rw [hB]⟩
  refine ⟨gq, gcap, Gr, f, ⟨?_, h1.seen.keep (by rw [hB]), by rw [hB]; exact h1.gb, h1.own.keep fun a _ => by rw [hB], h1.gH, h1.sp, h1.fst, ⟨h1.mrk.1, fun D hD => by rw [hB]; exact h1.mrk.2 D hD⟩⟩, h2, h3, h4, fun c hc hs => ?_, h6, by rw [hB]; exact h7, by rw [hB]; exact h8⟩
  · exact ⟨ho.trans h1.gro.os, ht.trans h1.gro.tape, hu.trans h1.gro.output, by rw [hB]; exact h1.gro.size, fun k hk hne => by rw [hB]; exact h1.gro.block k hk hne⟩
  · rcases List.mem_append.1 hc with hc | hc
    · exact h5 c hc hs
    · obtain rfl := List.mem_singleton.1 hc
      exact hx hs
/-- the box of a slice is not its row. -/
theorem box_ne {W : World} {G B n' c' : Nat} {v : Value} {p : Option Addr} {xs : List Int} (hb : W.heap[G]? = some (.cells #[v] 22 (0, 0))) (ho : Own 3 B W p n' c' xs) (a : Addr) (ha : p = some a) : a.block ≠ G ∧ ∃ cur, W.heap[a.block]? = some (.cells cur 3 (0, 0)) := by
  rcases ho.2 with ⟨hv, _⟩ | ⟨g, cap, cur, hv, _, hh, _⟩
  · injection hv with h1 _ _; rw [ha] at h1; cases h1
  · injection hv with h1 _ _
    rw [ha] at h1; injection h1 with h1; subst h1
    refine ⟨fun e => ?_, cur, hh⟩
    simp only at e
    rw [e, hb] at hh; simp at hh
/-- a place more is written. -/
theorem Rw.appended {W0 A w' : World} {f0 : Nat → Bool} {kf : Nat} {G X i p x : Nat} {ms pre : List Nat} {gq p' : Option Addr} {gcap c' : Nat} {Gr : List Nat} {f : Nat → Bool} (h1 : Hw n who N gc gp s w W0 A f0 kf G ms gq gcap Gr f) (h2 : i < Gr.length) (h3 : st Gr i = p)
    (h4 : ∀ j, j < i → ∀ c, Nx n (st Gr j) c → st s c = who → f c = true) (h5 : ∀ c ∈ pre, st s c = who → f c = true) (hx : Nx n p x) (hw : st s x = who) (hf : f x = false)
    (h6 : ∀ a, gq = some a → a.block < X ∨ X + 4 ≤ a.block) (h7 : A.heap[X]? = some (.cells #[.int .i64 (n : Int)] 3 (0, 0))) (h8 : X + 4 ≤ A.heap.size) (hW : w.heap.size + 4 ≤ W0.heap.size) (hX : W0.heap.size ≤ X) (hGX : G < X) (hgX : ∀ a, gq = some a → a.block ≠ X)
    (hO : Own 3 W0.heap.size w' p' (Gr.length + 1) c' (asI Gr ++ [(x : Int)])) (hg : (A.setCell ⟨w.heap.size + 1 + 1, x, none⟩ (.bool true)).grownBy w' (gq.map (·.block)))
    (hor : p'.map (·.block) = gq.map (·.block) ∨ ∀ a', p' = some a' → (A.setCell ⟨w.heap.size + 1 + 1, x, none⟩ (.bool true)).heap.size ≤ a'.block) :
    w'.heap[G]? = some (.cells #[.slice gq Gr.length gcap] 22 (0, 0)) ∧ KeepsOthers A (w'.setCell ⟨G, 0, none⟩ (.slice p' (Gr.length + 1) c')) ∧ Rw n who N gc gp s w W0 f0 kf G X i p ms (pre ++ [x]) (w'.setCell ⟨G, 0, none⟩ (.slice p' (Gr.length + 1) c')) := by
  have hsz : (A.setCell ⟨w.heap.size + 1 + 1, x, none⟩ (.bool true)).heap.size = A.heap.size := by simp [World.setCell]
  have hA : ∀ k, k ≠ w.heap.size + 1 + 1 → (A.setCell ⟨w.heap.size + 1 + 1, x, none⟩ (.bool true)).heap[k]? = A.heap[k]? := fun k hk => Below.heap_setCell A ⟨w.heap.size + 1 + 1, x, none⟩ _ k hk
  have hss := h1.seen.set x
  have hO1 : KeepsOthers A (A.setCell ⟨w.heap.size + 1 + 1, x, none⟩ (.bool true)) := KeepsOthers.setCell A _ _
  have hos : (A.setCell ⟨w.heap.size + 1 + 1, x, none⟩ (.bool true)).os = A.os ∧ (A.setCell ⟨w.heap.size + 1 + 1, x, none⟩ (.bool true)).tape = A.tape ∧ (A.setCell ⟨w.heap.size + 1 + 1, x, none⟩ (.bool true)).output = A.output := ⟨rfl, rfl, rfl⟩
  generalize A.setCell ⟨w.heap.size + 1 + 1, x, none⟩ (.bool true) = C at *
  have hGl := lt_of_heap h1.gb
  have hsl := h1.seen.lt
  have hgH := h1.gH
  have hgb := fun a ha => (h1.own.block a ha).1
  have hrow : ∀ a, gq = some a → a.block ≠ G ∧ ∃ cur, A.heap[a.block]? = some (.cells cur 3 (0, 0)) := fun a ha => box_ne h1.gb h1.own a ha
  have nq : ∀ k, (∀ a, gq = some a → a.block ≠ k) → some k ≠ gq.map (·.block) := fun k hk e => by
    cases gq with
    | none => cases e
    | some a => simp at e; exact hk a rfl e.symm
  have g1 : w'.heap[G]? = some (.cells #[.slice gq Gr.length gcap] 22 (0, 0)) := (hg.block G (by omega) (nq _ fun a ha => (hrow a ha).1)).trans ((hA G (by omega)).trans h1.gb)
  have g2 : Bools w' (w.heap.size + 1 + 1) N (fset f x) := hss.keep (hg.block _ (by omega) (nq _ fun a ha => by have := hgb a ha; omega))
  have g3 : w'.heap[X]? = some (.cells #[.int .i64 (n : Int)] 3 (0, 0)) := (hg.block X (by omega) (nq _ hgX)).trans ((hA X (by omega)).trans h7)
  have g4 : KeepsOthers C w' := by
    refine KeepsOthers.of_grownBy hg fun j o ej hj => ?_
    cases gq with
    | none => cases ej
    | some a =>
      simp at ej
      obtain ⟨_, cur, hc⟩ := hrow a rfl
      rw [← ej, hA _ (by have := hgb a rfl; omega), hc] at hj
      cases hj; rfl
  have g5 : KeepsOthers A (w'.setCell ⟨G, 0, none⟩ (.slice p' (Gr.length + 1) c')) := (hO1.trans g4).trans (KeepsOthers.setCell w' _ _)
  have hpG : ∀ a, p' = some a → a.block ≠ G := fun a ha => by
    rcases hor with h | h
    · intro e
      rw [ha] at h
      cases gq with
      | none => cases h
      | some b => simp at h; exact (hrow b rfl).1 (by rw [← h]; exact e)
    · have := h a ha; omega
  have hb : ∀ k, k ≠ G → (w'.setCell ⟨G, 0, none⟩ (.slice p' (Gr.length + 1) c')).heap[k]? = w'.heap[k]? := fun k hk => Below.heap_setCell w' ⟨G, 0, none⟩ _ k hk
  have hsz2 : (w'.setCell ⟨G, 0, none⟩ (.slice p' (Gr.length + 1) c')).heap.size = w'.heap.size := by simp [World.setCell]
  have hgs := hg.size
  refine ⟨g1, g5, Rw.more h1 h2 h3 h4 h5 hx hw hf ?_ (g2.keep (hb _ (by omega))) (by have := wset g1 0 (.slice p' (Gr.length + 1) c'); simpa using this) (hO.keep fun a ha => hb _ (hpG a ha)) g5 ?_ ((hb X (by omega)).trans g3) (by omega)⟩
  · refine ⟨hg.os.trans (hos.1.trans h1.gro.os), hg.tape.trans (hos.2.1.trans h1.gro.tape), hg.output.trans (hos.2.2.trans h1.gro.output), by have := h1.gro.size; omega, fun k hk hne => ?_⟩
    have hk2 : k ≠ w.heap.size + 1 + 1 := fun e => hne (by rw [e])
    have := h1.gro.size
    rw [hb k (by omega), hg.block k (by omega) (nq _ fun a ha => by have := hgb a ha; omega), hA k hk2]
    exact h1.gro.block k hk hne
  · intro a ha
    rcases hor with h | h
    · rw [ha] at h
      cases gq with
      | none => cases h
      | some b => simp at h; rw [h]; exact h6 b rfl
    · right; have := h a ha; omega
/-- behind the sort of a group. -/
theorem Hw.sorted {W0 A Y : World} {f0 : Nat → Bool} {kf : Nat} {G : Nat} {ms : List Nat} {gq : Option Addr} {gcap : Nat} {Gr : List Nat} {f : Nat → Bool} (h : Hw n who N gc gp s w W0 A f0 kf G ms gq gcap Gr f) (hg : A.grownBy Y (gq.map (·.block))) (hW : w.heap.size + 4 ≤ W0.heap.size) :
    W0.grownBy Y (some (w.heap.size + 1 + 1)) ∧ Bools Y (w.heap.size + 1 + 1) N f ∧ Mk w.heap.size ms Y ∧ Y.heap[G]? = some (.cells #[.slice gq Gr.length gcap] 22 (0, 0)) := by
  have hrow : ∀ a, gq = some a → a.block ≠ G ∧ ∃ cur, A.heap[a.block]? = some (.cells cur 3 (0, 0)) := fun a ha => box_ne h.gb h.own a ha
  have hgb := fun a ha => (h.own.block a ha).1
  have nq : ∀ k, (∀ a, gq = some a → a.block ≠ k) → some k ≠ gq.map (·.block) := fun k hk e => by
    cases gq with
    | none => cases e
    | some a => simp at e; exact hk a rfl e.symm
  refine ⟨⟨hg.os.trans h.gro.os, hg.tape.trans h.gro.tape, hg.output.trans h.gro.output, Nat.le_trans h.gro.size hg.size, fun k hk hne => ?_⟩, h.seen.keep (hg.block _ h.seen.lt (nq _ fun a ha => by have := hgb a ha; omega)), h.mrk.keep ?_, (hg.block _ (lt_of_heap h.gb) (nq _ fun a ha => (hrow a ha).1)).trans h.gb⟩
  · have := h.gro.size
    rw [hg.block k (by omega) (nq _ fun a ha => by have := hgb a ha; omega)]
    exact h.gro.block k hk hne
  · refine KeepsOthers.of_grownBy hg fun j o ej hj => ?_
    cases gq with
    | none => cases ej
    | some a =>
      simp at ej
      obtain ⟨_, cur, hc⟩ := hrow a rfl
      rw [← ej, hc] at hj
      cases hj; rfl
/-- behind a group that was laid to the others. -/
theorem Gw.next {W Y Z : World} {k : Nat} {ms ms' : List Nat} {q q' : Option Addr} {l c c' : Nat} {L : List (List Nat)} {f0 f : Nat → Bool} {Gr H : List Nat} (h : Gw n who N gc gp s w W k ms q l c L f0)
    (h1 : W.grownBy Y (some (w.heap.size + 1 + 1))) (h2 : Bools Y (w.heap.size + 1 + 1) N f) (h3 : Mk w.heap.size ms' Y) (hS : Sp n (fun a => st s a = who) f0 Gr f) (hcl : ∀ a ∈ Gr, ∀ c, Nx n a c → st s c = who → f c = true) (hH : H.Perm Gr) (hk : f k = true)
    (hO : OwnRows 22 (w.heap.size + 4) Z q' (l + 1) c' (L.map asI ++ [asI H])) (hg : Y.grownBy Z (q.map (·.block))) : Gw n who N gc gp s w Z (k + 1) ms' q' (l + 1) c' (L ++ [H]) f := by
  obtain ⟨m1, m2, m3, m4, m5⟩ := h.after h1
  have hq : ∀ a, q = some a → w.heap.size + 4 ≤ a.block ∧ ∃ cur t fr, Y.heap[a.block]? = some (.cells cur t fr) := fun a ha => by
    obtain ⟨vs, hO, _, _⟩ := m4
    refine ⟨(hO.block a ha).1, ?_⟩
    rcases hO.2 with ⟨hv, _⟩ | ⟨g, cap, cur, hv, _, hh, _⟩
    · injection hv with h1 _ _; rw [ha] at h1; cases h1
    · injection hv with h1 _ _
      rw [ha] at h1; injection h1 with h1; subst h1
      exact ⟨cur, _, _, hh⟩
  have nq : ∀ k, k < w.heap.size + 4 → some k ≠ q.map (·.block) := fun k hk e => by
    cases q with
    | none => cases e
    | some a => simp at e; have := (hq a rfl).1; omega
  have keep : ∀ {k o}, k < w.heap.size + 4 → Y.heap[k]? = some o → Z.heap[k]? = some o := fun hk ho => (hg.block _ (lt_of_heap ho) (nq _ hk)).trans ho
  have hmem : ∀ a, f a = true ↔ f0 a = true ∨ a ∈ Gr := hS.mem
  refine ⟨keep (by omega) m1, keep (by omega) m2, h2.keep (hg.block _ h2.lt (nq _ (by omega))), keep (by omega) m3, by simpa using hO, ?_, h.whole.more hS hcl hH, fun a ha hw => ?_, h3.keep ?_, by have := h.lk; omega⟩
  · exact ⟨hg.os.trans m5.os, hg.tape.trans m5.tape, hg.output.trans m5.output, Nat.le_trans m5.size hg.size, fun i hi => (hg.block i (Nat.lt_of_lt_of_le hi m5.size) (nq _ (by omega))).trans (m5.block i hi)⟩
  · rcases (show a < k ∨ a = k by omega) with hak | rfl
    · exact (hmem a).2 (.inl (h.done a hak hw))
    · exact hk
  · refine KeepsOthers.of_grownBy hg fun j o ej hj => ?_
    cases q with
    | none => cases ej
    | some a =>
      simp at ej
      obtain ⟨_, cur, t, fr, hc⟩ := hq a rfl
      rw [← ej, hc] at hj
      cases hj; rfl
end Go.Proofs.Ytcibkchfdiijfaa
