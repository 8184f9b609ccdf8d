import Derived.Test.YtcibkchfdiijfaaHxA
import Derived.Test.YtcibkchfdiijfaaHxG
import Derived.Test.YtcibkchfdiijfaaHxR
/- Marks of ranges over iterators among a function's deferred calls: many of them; how they leave; conditions: each mark's block hands over no call. -/
namespace Go.Proofs.Ytcibkchfdiijfaa
open Go.RowKit Go.Shelf

def mks (ms : List Nat) : List Deferred := ms.map fun D => { target := .collected D, args := #[] }
def Mk (B : Nat) (ms : List Nat) (W : World) : Prop := ms.Nodup ∧ ∀ D ∈ ms, B ≤ D ∧ W.heap[D]? = some (.deferred (some []))
theorem Mk.nil (B : Nat) (W : World) : Mk B [] W := ⟨List.nodup_nil, by simp⟩
theorem Mk.keep {B : Nat} {ms : List Nat} {A W : World} (h : Mk B ms A) (k : KeepsOthers A W) : Mk B ms W := ⟨h.1, fun D hD => ⟨(h.2 D hD).1, k.2 _ _ (h.2 D hD).2 rfl⟩⟩
theorem Mk.cons {B : Nat} {ms : List Nat} {A W : World} (h : Mk B ms A) (k : KeepsOthers A W) (hB : B ≤ A.heap.size) (hD : W.heap[A.heap.size]? = some (.deferred (some []))) : Mk B (A.heap.size :: ms) W := by
  refine ⟨List.nodup_cons.2 ⟨fun hm => ?_, h.1⟩, fun D hd => ?_⟩
  · have := lt_of_heap (h.2 _ hm).2; omega
  · rcases List.mem_cons.1 hd with rfl | hd
    · exact ⟨hB, hD⟩
    · exact (h.keep k).2 D hd
/-- all that is cells is as it was, and all below B. -/
structure Mo (B : Nat) (A C : World) : Prop where
  os : C.os = A.os
  tape : C.tape = A.tape
  output : C.output = A.output
  size : A.heap.size ≤ C.heap.size
  cells : ∀ (k : Nat) (o : Obj), A.heap[k]? = some o → o.isCells = true → C.heap[k]? = some o
  below : ∀ k, k < B → C.heap[k]? = A.heap[k]?
theorem Mo.refl (B : Nat) (A : World) : Mo B A A := ⟨rfl, rfl, rfl, Nat.le_refl _, fun _ _ h _ => h, fun _ _ => rfl⟩
theorem Mo.trans {B : Nat} {A C D : World} (h : Mo B A C) (k : Mo B C D) : Mo B A D :=
  ⟨k.os.trans h.os, k.tape.trans h.tape, k.output.trans h.output, Nat.le_trans h.size k.size, fun i o h1 h2 => k.cells i o (h.cells i o h1 h2) h2, fun i hi => (k.below i hi).trans (h.below i hi)⟩
theorem Mo.put {B : Nat} {A : World} {l : Nat} {o : Obj} (o' : Obj) (hl : A.heap[l]? = some o) (ho : o.isCells = false) (hB : B ≤ l) : Mo B A (A.putObj l o') :=
  ⟨rfl, rfl, rfl, (grownBy_putObj' A l o').size, fun k o2 h1 h2 => by
    have : k ≠ l := fun e => by subst e; rw [hl] at h1; cases h1; rw [ho] at h2; cases h2
    rw [World.putObj_heap_other (by omega)]; exact h1, fun k hk => World.putObj_heap_other (by omega)⟩
theorem cell_cells {W : World} {a : Addr} {v : Value} (h : W.cell? a = some v) : ∃ o : Obj, W.heap[a.block]? = some o ∧ o.isCells = true := by
  unfold World.cell? at h
  cases ho : W.heap[a.block]? with
  | none => simp [ho] at h
  | some o => exact ⟨o, rfl, by cases o <;> simp_all [Obj.isCells]⟩
theorem Mo.cell {B : Nat} {A C : World} (h : Mo B A C) {a : Addr} {v : Value} (hc : A.cell? a = some v) : C.cell? a = some v := by
  obtain ⟨o, ho, hi⟩ := cell_cells hc
  exact (World.cell?_of_block ((h.cells _ o ho hi).trans ho.symm)).trans hc
theorem Mo.ints {B : Nat} {A C : World} (h : Mo B A C) {p : Option Addr} {n : Nat} {xs : List Int} (hx : IntsIn A p n xs) : IntsIn C p n xs :=
  ⟨hx.1, fun j hj => let ⟨b, o, e, hb, hc⟩ := hx.2 j hj; ⟨b, o, e, Nat.lt_of_lt_of_le hb h.size, h.cell hc⟩⟩
theorem Mo.own {B E k Bo : Nat} {A C : World} (h : Mo B A C) {p : Option Addr} {n c : Nat} {vs : List Value} (hx : OwnC E k Bo A p n c vs) : OwnC E k Bo C p n c vs := by
  refine ⟨hx.1, ?_⟩
  rcases hx.2 with h2 | ⟨g, cap, cur, hv, hb, hh, r⟩
  · exact .inl h2
  · exact .inr ⟨g, cap, cur, hv, hb, h.cells _ _ hh rfl, r⟩
theorem Mo.rows {B E Bo : Nat} {A C : World} (h : Mo B A C) {q : Option Addr} {n c : Nat} {ls : List (List Int)} (hx : OwnRows E Bo A q n c ls) : OwnRows E Bo C q n c ls := by
  obtain ⟨vs, hO, hl, hr⟩ := hx
  refine ⟨vs, h.own hO, hl, fun i l hi => ?_⟩
  obtain ⟨p, m, c', hv, hx, hne⟩ := hr i l hi
  exact ⟨p, m, c', hv, h.ints hx, fun a ha => ⟨(hne a ha).1, (hne a ha).2.1, Nat.lt_of_lt_of_le (hne a ha).2.2 h.size⟩⟩
theorem Mo.bel {B : Nat} {w A C : World} (h : Mo B A C) (k : Below B w A) : Below B w C :=
  ⟨h.os.trans k.os, h.tape.trans k.tape, h.output.trans k.output, Nat.le_trans k.size h.size, fun i hi => (h.below i hi).trans (k.block i hi)⟩
/-- how marks leave. -/
theorem leaves_marks {P : Program} {fn : Func} {tmps : Array Value} {R : Ending → World → Prop} {B n : Nat} : ∀ (ms : List Nat) (W : World), Mk B ms W →
    (∀ W', Mo B W W' → LeavesIn Fence.wide n P fn tmps R [] .returning W') → LeavesInM Fence.wide n P fn tmps R (mks ms) .returning W
  | [], W, _, h => h W (Mo.refl _ _)
  | D :: ms, W, hM, h => by
    obtain ⟨hB, hD⟩ := hM.2 D (by simp)
    have hnd := List.nodup_cons.1 hM.1
    refine ⟨by simp, .inl ⟨D, _, rfl, run_takeDeferred hD, ?_⟩⟩
    refine leaves_marks ms _ ⟨hnd.2, fun D' h' => ⟨(hM.2 D' (by simp [h'])).1, ?_⟩⟩ fun W' hW' => h W' ((Mo.put _ hD rfl hB).trans hW')
    exact (World.putObj_heap_other (fun e => hnd.1 (by subst e; exact h'))).trans (hM.2 D' (by simp [h'])).2
theorem OwnRows.mono {E B B' : Nat} {w : World} {q : Option Addr} {n c : Nat} {ls : List (List Int)} (h : OwnRows E B w q n c ls) (hB : B' ≤ B) : OwnRows E B' w q n c ls := by
  obtain ⟨vs, hO, hl, hr⟩ := h
  refine ⟨vs, hO.mono hB, hl, fun i l hi => ?_⟩
  obtain ⟨p, m, c', hv, hx, hne⟩ := hr i l hi
  exact ⟨p, m, c', hv, hx, fun a ha => ⟨(hne a ha).1, Nat.le_trans hB (hne a ha).2.1, (hne a ha).2.2⟩⟩
/-- rows keep where a block below them is written. -/
theorem OwnRows.far {E B : Nat} {w w' : World} {q : Option Addr} {n c : Nat} {ls : List (List Int)} (h : OwnRows E B w q n c ls) (hs : w.heap.size ≤ w'.heap.size) (hk : ∀ k, B ≤ k → k < w.heap.size → w'.heap[k]? = w.heap[k]?) : OwnRows E B w' q n c ls := by
  obtain ⟨vs, hO, hl, hr⟩ := h
  refine ⟨vs, OwnC.keep hO fun a ha => hk _ (hO.block a ha).1 (hO.block a ha).2, hl, fun i l hi => ?_⟩
  obtain ⟨p, m, c', hv, hx, hne⟩ := hr i l hi
  exact ⟨p, m, c', hv, hx.keep hs fun b o e => hk b (hne _ e).2.1 (hne _ e).2.2, fun a ha => ⟨(hne a ha).1, (hne a ha).2.1, Nat.lt_of_lt_of_le (hne a ha).2.2 hs⟩⟩
end Go.Proofs.Ytcibkchfdiijfaa
