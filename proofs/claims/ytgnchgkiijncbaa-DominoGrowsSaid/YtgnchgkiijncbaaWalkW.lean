/- What (*domino.walker).walk computes: Hierholzer's walk from a number on; conditions: the walker's struct is known, its pieces lie in an earlier block, at most 60 of them. -/
import Derived.Test.YtgnchgkiijncbaaPMem
namespace Go.Proofs.Ytgnchgkiijncbaa
open Go.RowKit

/-- what a walk may change of what was: the used marks, the walker, and the way's own row. -/
structure Kp (ub wb : Nat) (q q' : Option Addr) (w w' : World) : Prop where
  os : w'.os = w.os
  tape : w'.tape = w.tape
  output : w'.output = w.output
  size : w.heap.size ≤ w'.heap.size
  block : ∀ k, k < w.heap.size → k ≠ ub → k ≠ wb → some k ≠ q.map (·.block) → w'.heap[k]? = w.heap[k]?
  row : q'.map (·.block) = q.map (·.block) ∨ ∀ a, q' = some a → w.heap.size ≤ a.block
theorem Kp.refl (ub wb : Nat) (q : Option Addr) (w : World) : Kp ub wb q q w w := ⟨rfl, rfl, rfl, Nat.le_refl _, fun _ _ _ _ _ => rfl, .inl rfl⟩
theorem Kp.trans {ub wb : Nat} {q q1 q2 : Option Addr} {w w1 w2 : World} (h : Kp ub wb q q1 w w1) (k : Kp ub wb q1 q2 w1 w2) : Kp ub wb q q2 w w2 := by
  refine ⟨k.os.trans h.os, k.tape.trans h.tape, k.output.trans h.output, Nat.le_trans h.size k.size, fun i hi h1 h2 h3 => (k.block i (Nat.lt_of_lt_of_le hi h.size) h1 h2 ?_).trans (h.block i hi h1 h2 h3), ?_⟩
  · rcases h.row with e | e
    · rw [e]; exact h3
    · intro e2
      cases q1 with
      | none => cases e2
      | some a => have := e a rfl; simp at e2; omega
  · rcases k.row with e | e
    · rcases h.row with e3 | e3
      · left; rw [e, e3]
      · right
        intro a ha
        cases q1 with
        | none => rw [ha] at e; cases e
        | some b => rw [ha] at e; simp at e; have := e3 b rfl; omega
    · right; intro a ha; exact Nat.le_trans h.size (e a ha)
theorem Kp.ofBelow {ub wb : Nat} {q : Option Addr} {w w' : World} (h : Below w.heap.size w w') : Kp ub wb q q w w' := ⟨h.os, h.tape, h.output, h.size, fun k hk _ _ _ => h.block k hk, .inl rfl⟩
theorem Kp.set {ub wb : Nat} {q : Option Addr} (w : World) (a : Addr) (ha : a.block = ub ∨ a.block = wb) (v : Value) : Kp ub wb q q w (w.setCell a v) :=
  ⟨rfl, rfl, rfl, by simp [World.setCell], fun k _ h1 h2 _ => Below.heap_setCell w a v k (by rcases ha with e | e <;> rw [e] <;> assumption), .inl rfl⟩
theorem Kp.fresh {ub wb d : Nat} {q q' : Option Addr} {w w' : World} (h : Kp ub wb q q' w w') (hd : w.heap.size ≤ d) (a : Addr) (ha : a.block = d) (v : Value) : Kp ub wb q q' w (w'.setCell a v) :=
  ⟨h.os, h.tape, h.output, by simpa [World.setCell] using h.size, fun k hk h1 h2 h3 => (Below.heap_setCell w' a v k (by omega)).trans (h.block k hk h1 h2 h3), h.row⟩

/-- the walker at work. -/
structure St (w : World) (ub wb B : Nat) (p : Option Addr) (n c : Nat) (ps : List Piece) (q : Option Addr) (cq : Nat) (s : WSt) : Prop where
  b0 : w.heap[wb]? = some (.cells #[.slice p n c, .slice (some ⟨ub, 0, none⟩) n n, .slice q s.2.length cq] 40 (0, 0))
  u0 : w.heap[ub]? = some (.cells (s.1.map Value.bool).toArray 4 (0, 0))
  ul : s.1.length = n
  own : OwnP (wb + 1) w q s.2.length cq s.2
  l : PIn B w p n ps
  o1 : B ≤ ub
  o2 : ub < wb
theorem St.lt {w : World} {ub wb B : Nat} {p : Option Addr} {n c : Nat} {ps : List Piece} {q : Option Addr} {cq : Nat} {s : WSt} (h : St w ub wb B p n c ps q cq s) : wb < w.heap.size := lt_of_heap h.b0
theorem St.qb {w : World} {ub wb B : Nat} {p : Option Addr} {n c : Nat} {ps : List Piece} {q : Option Addr} {cq : Nat} {s : WSt} (h : St w ub wb B p n c ps q cq s) (k : Nat) (hk : k ≤ wb) : some k ≠ q.map (·.block) := h.own.1.apart k (by omega)
theorem St.below {w w' : World} {ub wb B : Nat} {p : Option Addr} {n c : Nat} {ps : List Piece} {q : Option Addr} {cq : Nat} {s : WSt} (h : St w ub wb B p n c ps q cq s) (hb : Below w.heap.size w w') : St w' ub wb B p n c ps q cq s :=
  ⟨(hb.block wb h.lt).trans h.b0, (hb.block ub (by have := h.lt; have := h.o2; omega)).trans h.u0, h.ul, ⟨h.own.1.below hb (Nat.le_refl _), h.own.2⟩, h.l.keep hb.size (fun g _ hg => hb.block g hg), h.o1, h.o2⟩
theorem St.used {w : World} {ub wb B : Nat} {p : Option Addr} {n c : Nat} {ps : List Piece} {q : Option Addr} {cq : Nat} {s : WSt} (h : St w ub wb B p n c ps q cq s) (i : Nat) : St (w.setCell ⟨ub, i, none⟩ (.bool true)) ub wb B p n c ps q cq (s.1.set i true, s.2) := by
  have o1 := h.o1; have o2 := h.o2
  refine ⟨(wset_ne _ _ (by simp; omega)).trans h.b0, ?_, by simpa using h.ul, ⟨h.own.1.keep fun a ha => wset_ne _ _ (by have := (h.own.1.block a ha).1; simp; omega), h.own.2⟩, h.l.keep (by simp [World.setCell]) fun g hg _ => wset_ne _ _ (by simp; omega), o1, o2⟩
  rw [wset h.u0]
  simp [List.map_set]
theorem St.fresh {w : World} {ub wb B : Nat} {p : Option Addr} {n c : Nat} {ps : List Piece} {q : Option Addr} {cq : Nat} {s : WSt} (h : St w ub wb B p n c ps q cq s) (d : Nat) (hd : wb < d) (hq : some d ≠ q.map (·.block)) (i : Nat) (v : Value) : St (w.setCell ⟨d, i, none⟩ v) ub wb B p n c ps q cq s := by
  have o1 := h.o1; have o2 := h.o2
  refine ⟨(wset_ne _ _ (by simp; omega)).trans h.b0, (wset_ne _ _ (by simp; omega)).trans h.u0, h.ul, ⟨h.own.1.keep fun a ha => wset_ne _ _ (by intro e; apply hq; rw [ha]; simp at e; simp [e]), h.own.2⟩, h.l.keep (by simp [World.setCell]) fun g hg _ => wset_ne _ _ (by simp; omega), o1, o2⟩
/-- the way one piece longer: what the append and the store behind it leave. -/
theorem St.push {w w' : World} {ub wb B : Nat} {p : Option Addr} {n c : Nat} {ps : List Piece} {q : Option Addr} {cq : Nat} {s : WSt} {x : Piece} (h : St w ub wb B p n c ps q cq s) {q' : Option Addr} {cq' : Nat}
    (hM : OwnP (wb + 1) w' q' (s.2.length + 1) cq' (s.2 ++ [x])) (hg : w.grownBy w' (q.map (·.block))) (hr : q'.map (·.block) = q.map (·.block) ∨ ∀ a, q' = some a → w.heap.size ≤ a.block) :
    St (w'.setCell ⟨wb, 2, none⟩ (.slice q' (s.2.length + 1) cq')) ub wb B p n c ps q' cq' (s.1, s.2 ++ [x]) ∧ Kp ub wb q q' w (w'.setCell ⟨wb, 2, none⟩ (.slice q' (s.2.length + 1) cq')) := by
  have o1 := h.o1; have o2 := h.o2; have hlt := h.lt
  have hk : ∀ k, k ≤ wb → w'.heap[k]? = w.heap[k]? := fun k hk => hg.block k (by omega) (h.qb k hk)
  refine ⟨⟨?_, (wset_ne _ _ (by simp; omega)).trans ((hk ub (by omega)).trans h.u0), h.ul, ?_, ?_, o1, o2⟩, ⟨hg.os, hg.tape, hg.output, by simpa [World.setCell] using hg.size, fun k hk h1 h2 h3 => (wset_ne _ _ (by simpa using h2)).trans (hg.block k hk h3), hr⟩⟩
  · rw [wset ((hk wb (Nat.le_refl _)).trans h.b0)]
    simp
  · refine ⟨?_, by simp [hM.2]⟩
    have := hM.1.keep (w' := w'.setCell ⟨wb, 2, none⟩ (.slice q' (s.2.length + 1) cq')) fun a ha => wset_ne _ _ (by have := (hM.1.block a ha).1; simp; omega)
    simpa using this
  · exact h.l.keep (by simpa [World.setCell] using hg.size) fun g hg2 hg3 => (wset_ne _ _ (by simp; omega)).trans (hk g (by omega))
end Go.Proofs.Ytgnchgkiijncbaa
