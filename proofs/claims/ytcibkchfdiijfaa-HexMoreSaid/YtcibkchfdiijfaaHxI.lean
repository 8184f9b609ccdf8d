import Derived.Test.YtcibkchfdiijfaaHxD
import Derived.Test.YtcibkchfdiijfaaHxE
import Derived.Test.YtcibkchfdiijfaaHxQ
import Derived.Test.YtcibkchfdiijfaaRep
/- Where hex.Shortest stands in memory; conditions: those typed. -/
namespace Go.Proofs.Ytcibkchfdiijfaa
open Go.RowKit Go.Shelf

/-- the closures' boxes beside what they read and write; B: the call's first block, Y: the box of the row of lengths, F: that row. -/
structure Px (n who N gc : Nat) (gp : Option Addr) (s : List Nat) (w : World) (F Y : Nat) (Z : Nat → Prop) (W : World) (far : Nat → Int) (R : List (List Nat)) : Prop where
  ps : Ps n who N gc N gp s w.heap.size (w.heap.size + 1) Y F (Y + 1 + 1) Z W far R
  cb : W.heap[Y + 1]? = some (.cells #[.func (.func 18) #[] #[.pointer (some ⟨w.heap.size, 0, none⟩)]] 45 (0, 0))
  pb : W.heap[Y + 1 + 1 + 1]? = some (.cells #[.func (.func 19) #[] #[.pointer (some ⟨w.heap.size, 0, none⟩), .pointer (some ⟨w.heap.size + 1, 0, none⟩), .pointer (some ⟨Y, 0, none⟩), .pointer (some ⟨Y + 1 + 1, 0, none⟩)]] 47 (0, 0))
  bel : Below w.heap.size w W
  zl : ∀ k, k < Y + 4 → Z k
  fY : w.heap.size + 2 ≤ F ∧ F < Y
section
variable {n who N gc : Nat} {gp : Option Addr} {s : List Nat} {w : World} {F Y : Nat} {Z Z' : Nat → Prop} {W W' : World} {far far' : Nat → Int} {R R' : List (List Nat)}
theorem Px.put (h : Px n who N gc gp s w F Y Z W far R) (hp : Ps n who N gc N gp s w.heap.size (w.heap.size + 1) Y F (Y + 1 + 1) Z W' far' R') (hk : Pk F (Y + 1 + 1) Z W W') : Px n who N gc gp s w F Y Z W' far' R' := by
  obtain ⟨f1, f2⟩ := h.fY
  refine ⟨hp, (hk.block _ (h.zl _ (by omega)) (by omega) (by omega)).trans h.cb, (hk.block _ (h.zl _ (by omega)) (by omega) (by omega)).trans h.pb, ⟨hk.os.trans h.bel.os, hk.tape.trans h.bel.tape, hk.output.trans h.bel.output, Nat.le_trans h.bel.size hk.size, fun i hi => (hk.block i (h.zl _ (by omega)) (by omega) (by omega)).trans (h.bel.block i hi)⟩, h.zl, h.fY⟩
theorem Px.below (h : Px n who N gc gp s w F Y Z W far R) (hb : Below W.heap.size W W') : Px n who N gc gp s w F Y Z W' far R :=
  ⟨h.ps.below hb, (hb.block _ (lt_of_heap h.cb)).trans h.cb, (hb.block _ (lt_of_heap h.pb)).trans h.pb, h.bel.trans (hb.mono h.bel.size), h.zl, h.fY⟩
/-- a set of blocks for another, that are the same among the blocks there are. -/
theorem Px.zs (h : Px n who N gc gp s w F Y Z W far R) (hz : ∀ k, k < W.heap.size → Z' k → Z k) (hl : ∀ k, k < Y + 4 → Z' k) (hgp : ∀ a, gp = some a → a.block < Y + 4) : Px n who N gc gp s w F Y Z' W far R := by
  obtain ⟨f1, f2⟩ := h.fY
  obtain ⟨q, l, c, P, C, h1, h2⟩ := h.ps.rd
  exact ⟨⟨h.ps.gb, h.ps.wb, h.ps.fb, h.ps.fr, ⟨q, l, c, P, C, h1, h2.mono hz⟩, h.ps.gs, ⟨hl _ (by omega), hl _ (by omega), hl _ (by omega), hl _ (by omega), hl _ (by omega), fun a ha => hl _ (hgp a ha)⟩, h.ps.ne⟩, h.cb, h.pb, h.bel, hl, h.fY⟩
theorem Px.same (h : Px n who N gc gp s w F Y Z W far R) (hb : W'.heap = W.heap) (ho : W'.os = W.os) (ht : W'.tape = W.tape) (hu : W'.output = W.output) : Px n who N gc gp s w F Y Z W' far R :=
  h.below ⟨ho, ht, hu, by rw [hb]; exact Nat.le_refl _, fun i _ => by rw [hb]⟩
theorem Px.grown {j : Nat} (h : Px n who N gc gp s w F Y Z W far R) (hg : W.grownBy W' (some j)) (hN0 : 0 < N) (hj : Z j) (hjY : Y + 4 ≤ j) (hgp : ∀ a, gp = some a → a.block < Y + 4) : Px n who N gc gp s w F Y Z W' far R := by
  obtain ⟨f1, f2⟩ := h.fY
  have ne : ∀ k, k < Y + 4 → some k ≠ some j := fun k h e => by injection e with e; omega
  exact ⟨h.ps.grown hg hN0 hj ⟨by omega, by omega, by omega, by omega, by omega, fun a ha e => by have := hgp a ha; omega⟩, (hg.block _ (lt_of_heap h.cb) (ne _ (by omega))).trans h.cb, (hg.block _ (lt_of_heap h.pb) (ne _ (by omega))).trans h.pb,
    ⟨hg.os.trans h.bel.os, hg.tape.trans h.bel.tape, hg.output.trans h.bel.output, Nat.le_trans h.bel.size hg.size, fun i hi => (hg.block i (Nat.lt_of_lt_of_le hi h.bel.size) (ne _ (by omega))).trans (h.bel.block i hi)⟩, h.zl, h.fY⟩
theorem Px.start (w2 w3 W : World) (hw2 : w2.heap[w.heap.size]? = some (.cells #[.int .i64 (n : Int), .int .i64 (n : Int), .slice gp N gc] 24 (0, 0))) (hw2' : w2.heap[w.heap.size + 1]? = some (.cells #[.int .i64 (who : Int)] 3 (0, 0)))
    (hx : IntsIn w gp N (asI s)) (hN0 : 0 < N) (hB : Below w.heap.size w w2) (h3 : Below (w2.heap.size + 1) (w2.alloc (.cells #[.int .i64 (-1)] 3)) w3) (hF : w3.heap[w2.heap.size + 1]? = some (.cells (repL (-1) N N).toArray 3 (0, 0)))
    (hW : W = ((((w3.alloc (.cells #[.slice (some ⟨w2.heap.size + 1, 0, none⟩) N N] 22)).alloc (.cells #[.func (.func 18) #[] #[.pointer (some ⟨w.heap.size, 0, none⟩)]] 45)).alloc (.cells #[.slice none 0 0] 46)).alloc
      (.cells #[.func (.func 19) #[] #[.pointer (some ⟨w.heap.size, 0, none⟩), .pointer (some ⟨w.heap.size + 1, 0, none⟩), .pointer (some ⟨w3.heap.size, 0, none⟩), .pointer (some ⟨w3.heap.size + 1 + 1, 0, none⟩)]] 47))) :
    Px n who N gc gp s w (w2.heap.size + 1) w3.heap.size (fun k => k < w3.heap.size + 4) W (fun _ => -1) [] := by
  obtain ⟨a1, a2, a3, a4⟩ := heap4 w3 (.cells #[.slice (some ⟨w2.heap.size + 1, 0, none⟩) N N] 22) (.cells #[.func (.func 18) #[] #[.pointer (some ⟨w.heap.size, 0, none⟩)]] 45) (.cells #[.slice none 0 0] 46)
    (.cells #[.func (.func 19) #[] #[.pointer (some ⟨w.heap.size, 0, none⟩), .pointer (some ⟨w.heap.size + 1, 0, none⟩), .pointer (some ⟨w3.heap.size, 0, none⟩), .pointer (some ⟨w3.heap.size + 1 + 1, 0, none⟩)]] 47)
  have hb4 := below4 w3 (.cells #[.slice (some ⟨w2.heap.size + 1, 0, none⟩) N N] 22) (.cells #[.func (.func 18) #[] #[.pointer (some ⟨w.heap.size, 0, none⟩)]] 45) (.cells #[.slice none 0 0] 46)
    (.cells #[.func (.func 19) #[] #[.pointer (some ⟨w.heap.size, 0, none⟩), .pointer (some ⟨w.heap.size + 1, 0, none⟩), .pointer (some ⟨w3.heap.size, 0, none⟩), .pointer (some ⟨w3.heap.size + 1 + 1, 0, none⟩)]] 47)
  rw [← hW] at a1 a2 a3 a4 hb4
  have hA : Below w2.heap.size w2 (w2.alloc (.cells #[.int .i64 (-1)] 3)) := (Below.refl _ w2).alloc (Nat.le_refl _) _
  have h23 : Below w2.heap.size w2 w3 := hA.trans (h3.mono (by omega))
  have h2W : Below w2.heap.size w2 W := h23.trans (hb4.mono h23.size)
  have hFl := lt_of_heap hF
  have hl2 := lt_of_heap hw2'
  have hwW : Below w.heap.size w W := hB.trans (h2W.mono hB.size)
  obtain ⟨b, o, hgp, hbl, _⟩ := hx.at hN0
  have hgl : ∀ a, gp = some a → a.block < w.heap.size := fun a ha => by rw [hgp] at ha; cases ha; exact hbl
  refine ⟨⟨(h2W.block _ (lt_of_heap hw2)).trans hw2, (h2W.block _ hl2).trans hw2', a1, ?_, ⟨none, 0, 0, _, _, a3, Rds.nil _ _⟩, hx.below hwW, ⟨?_, ?_, ?_, ?_, ?_, ?_⟩, ⟨?_, ?_, ?_, ?_, ?_, ?_, ?_, ?_⟩⟩, a2, a4, hwW, fun k h => h, ⟨by omega, hFl⟩⟩
  · show W.heap[w2.heap.size + 1]? = _
    rw [hb4.block _ hFl, hF]
    congr 3
    unfold repL
    simp [List.map_const']
  all_goals first | (intro a ha; have := hgl a ha; first | (show _ < _; omega) | (constructor <;> omega)) | (show _ < _; omega) | omega
end
end Go.Proofs.Ytcibkchfdiijfaa
