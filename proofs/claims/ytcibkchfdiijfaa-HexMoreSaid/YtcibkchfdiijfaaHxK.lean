import Derived.Test.YtcibkchfdiijfaaHxJ
import Derived.Test.YtcibkchfdiijfaaSrt
import Derived.Lib.LazyBuf
/- Where hex.groups stands in memory, and its frames; no conditions. -/
namespace Go.Proofs.Ytcibkchfdiijfaa
open Go.RowKit Go.Shelf

/-- a row of bools. -/
def Bools (W : World) (S N : Nat) (f : Nat → Bool) : Prop := ∃ cs : Array Value, W.heap[S]? = some (.cells cs 4 (0, 0)) ∧ cs.size = N ∧ ∀ i, i < N → cs[i]? = some (.bool (f i))
theorem Bools.keep {W W' : World} {S N : Nat} {f : Nat → Bool} (h : Bools W S N f) (k : W'.heap[S]? = W.heap[S]?) : Bools W' S N f := by
  obtain ⟨cs, h1, h2⟩ := h
  exact ⟨cs, k.trans h1, h2⟩
theorem Bools.cell {W : World} {S N : Nat} {f : Nat → Bool} (h : Bools W S N f) {i : Nat} (hi : i < N) : W.cell? ⟨S, i, none⟩ = some (.bool (f i)) := by
  obtain ⟨cs, h1, _, h3⟩ := h
  rw [cell_of_row W S i _ _ (0, 0) h1]; exact h3 i hi
theorem Bools.free {W : World} {S N : Nat} {f : Nat → Bool} (h : Bools W S N f) (i : Nat) : W.frozen? ⟨S, i, none⟩ = false := by
  obtain ⟨cs, h1, _⟩ := h
  exact wfree h1 i
theorem Bools.lt {W : World} {S N : Nat} {f : Nat → Bool} (h : Bools W S N f) : S < W.heap.size := by
  obtain ⟨cs, h1, _⟩ := h
  exact lt_of_heap h1
theorem Bools.set {W : World} {S N : Nat} {f : Nat → Bool} (h : Bools W S N f) (x : Nat) : Bools (W.setCell ⟨S, x, none⟩ (.bool true)) S N (fset f x) := by
  obtain ⟨cs, h1, h2, h3⟩ := h
  refine ⟨_, wset h1 x _, by simp [h2], fun i hi => ?_⟩
  rw [Array.getElem?_setIfInBounds]
  unfold fset
  by_cases e : x = i
  · subst e; simp [h2, hi]
  · rw [if_neg e, if_neg (fun k => e k.symm)]; exact h3 i hi
theorem run_mkb (n : Nat) (hn : n ≤ 1000) (w : World) : (Instr.makeSlice 61 (.int .i64 (n : Int)) (.int .i64 (n : Int))).run Try.prog w = .ok (.slice (some ⟨w.heap.size, 0, none⟩) n n) (w.alloc (.cells (Array.replicate n (.bool false)) 4)) := by
  obtain ⟨i0, hi, hz0, hz1, hz2⟩ := info_parts (show (Try.prog.info? 4).map (fun i => (i.zero, i.size, i.bytes)) = some (some (.bool false), 1, 1) by kernel_rfl)
  have hrun := run_make (P := Try.prog) w 61 4 i0 (.bool false) Try.underlying61 hi hz0 .i64 .i64 n n (by omega) (by omega) (by rw [hz2]; omega) (by omega)
  simp only [Int.toNat_natCast] at hrun
  rw [hrun]
  congr 3
  simp only [madeCells, Value.cells, hz1, Nat.mul_one]
  apply Array.ext
  · simp
  · intro i h1 h2
    simp [Nat.mod_one]

/-- what holds between two groups. -/
structure Gw (n who N gc : Nat) (gp : Option Addr) (s : List Nat) (w W : World) (k : Nat) (ms : List Nat) (q : Option Addr) (l c : Nat) (L : List (List Nat)) (f : Nat → Bool) : Prop where
  box : W.heap[w.heap.size]? = some (.cells #[.int .i64 (n : Int), .int .i64 (n : Int), .slice gp N gc] 24 (0, 0))
  whb : W.heap[w.heap.size + 1]? = some (.cells #[.int .i64 (who : Int)] 3 (0, 0))
  seen : Bools W (w.heap.size + 1 + 1) N f
  sb : W.heap[w.heap.size + 1 + 1 + 1]? = some (.cells #[.slice (some ⟨w.heap.size + 1 + 1, 0, none⟩) N N] 61 (0, 0))
  rows : OwnRows 22 (w.heap.size + 4) W q l c (L.map asI)
  bel : Below w.heap.size w W
  whole : Whole n (fun a => st s a = who) L f
  done : ∀ a, a < k → st s a = who → f a = true
  mrk : Mk w.heap.size ms W
  lk : l ≤ k
def GO (n who N gc : Nat) (gp : Option Addr) (s : List Nat) (w : World) (g : Nat) (a : Act) (W : World) : Prop :=
  ∃ (ff : Nat → Value) (ms : List Nat) (k : Nat) (q : Option Addr) (l c : Nat) (L : List (List Nat)) (f : Nat → Bool),
    a = { tmps := #[.agg #[.int .i64 (n : Int), .int .i64 (n : Int), .slice gp N gc], .int .i64 (who : Int), .pointer (some ⟨w.heap.size, 0, none⟩), .pointer (some ⟨w.heap.size + 1, 0, none⟩), .slice none 0 0, .slice q l c, .pointer (some ⟨w.heap.size + 1 + 1 + 1, 0, none⟩), ff 7, ff 8, ff 9, ff 10, ff 11, .pointer (some ⟨w.heap.size, 2, none⟩), .slice gp N gc, .int .i64 (N : Int), .slice (some ⟨w.heap.size + 1 + 1, 0, none⟩) N N, .pointer (some ⟨w.heap.size, 2, none⟩), .slice gp N gc, .int .i64 (N : Int), .int .i64 (k : Int), ff 20, ff 21, ff 22, ff 23, ff 24, ff 25, ff 26, ff 27, ff 28, ff 29, ff 30, ff 31, ff 32, ff 33, ff 34, ff 35, ff 36, ff 37, ff 38, ff 39, ff 40, ff 41, ff 42, ff 43, ff 44, ff 45, ff 46, ff 47, ff 48, ff 49, ff 50, ff 51, ff 52, ff 53, ff 54, ff 55, ff 56, ff 57, ff 58, ff 59, ff 60, ff 61, ff 62, ff 63, ff 64, ff 65, ff 66, ff 67, ff 68, ff 69, ff 70, ff 71, ff 72, ff 73, ff 74, ff 75, ff 76, ff 77, ff 78, ff 79, ff 80], defers := mks ms } ∧ g = N - k ∧ k ≤ N ∧ Gw n who N gc gp s w W k ms q l c L f
theorem GO.intro {n who N gc : Nat} {gp : Option Addr} {s : List Nat} {w : World} {g : Nat} {a : Act} {W : World} (ms : List Nat) (k : Nat) (q : Option Addr) (l c : Nat) (L : List (List Nat)) (f : Nat → Bool)
    (h : Gw n who N gc gp s w W k ms q l c L f) (hg : g = N - k) (hk : k ≤ N) (kv : Int) (ha : a = { tmps := #[.agg #[.int .i64 (n : Int), .int .i64 (n : Int), .slice gp N gc], .int .i64 (who : Int), .pointer (some ⟨w.heap.size, 0, none⟩), .pointer (some ⟨w.heap.size + 1, 0, none⟩), .slice none 0 0, .slice q l c, .pointer (some ⟨w.heap.size + 1 + 1 + 1, 0, none⟩), (a.tmps[7]?.getD undef), (a.tmps[8]?.getD undef), (a.tmps[9]?.getD undef), (a.tmps[10]?.getD undef), (a.tmps[11]?.getD undef), .pointer (some ⟨w.heap.size, 2, none⟩), .slice gp N gc, .int .i64 (N : Int), .slice (some ⟨w.heap.size + 1 + 1, 0, none⟩) N N, .pointer (some ⟨w.heap.size, 2, none⟩), .slice gp N gc, .int .i64 (N : Int), .int .i64 kv, (a.tmps[20]?.getD undef), (a.tmps[21]?.getD undef), (a.tmps[22]?.getD undef), (a.tmps[23]?.getD undef), (a.tmps[24]?.getD undef), (a.tmps[25]?.getD undef), (a.tmps[26]?.getD undef), (a.tmps[27]?.getD undef), (a.tmps[28]?.getD undef), (a.tmps[29]?.getD undef), (a.tmps[30]?.getD undef), (a.tmps[31]?.getD undef), (a.tmps[32]?.getD undef), (a.tmps[33]?.getD undef), (a.tmps[34]?.getD undef), (a.tmps[35]?.getD undef), (a.tmps[36]?.getD undef), (a.tmps[37]?.getD undef), (a.tmps[38]?.getD undef), (a.tmps[39]?.getD undef), (a.tmps[40]?.getD undef), (a.tmps[41]?.getD undef), (a.tmps[42]?.getD undef), (a.tmps[43]?.getD undef), (a.tmps[44]?.getD undef), (a.tmps[45]?.getD undef), (a.tmps[46]?.getD undef), (a.tmps[47]?.getD undef), (a.tmps[48]?.getD undef), (a.tmps[49]?.getD undef), (a.tmps[50]?.getD undef), (a.tmps[51]?.getD undef), (a.tmps[52]?.getD undef), (a.tmps[53]?.getD undef), (a.tmps[54]?.getD undef), (a.tmps[55]?.getD undef), (a.tmps[56]?.getD undef), (a.tmps[57]?.getD undef), (a.tmps[58]?.getD undef), (a.tmps[59]?.getD undef), (a.tmps[60]?.getD undef), (a.tmps[61]?.getD undef), (a.tmps[62]?.getD undef), (a.tmps[63]?.getD undef), (a.tmps[64]?.getD undef), (a.tmps[65]?.getD undef), (a.tmps[66]?.getD undef), (a.tmps[67]?.getD undef), (a.tmps[68]?.getD undef), (a.tmps[69]?.getD undef), (a.tmps[70]?.getD undef), (a.tmps[71]?.getD undef), (a.tmps[72]?.getD undef), (a.tmps[73]?.getD undef), (a.tmps[74]?.getD undef), (a.tmps[75]?.getD undef), (a.tmps[76]?.getD undef), (a.tmps[77]?.getD undef), (a.tmps[78]?.getD undef), (a.tmps[79]?.getD undef), (a.tmps[80]?.getD undef)], defers := mks ms }) (hkv : kv = (k : Int)) : GO n who N gc gp s w g a W :=
  ⟨fun i => a.tmps[i]?.getD undef, ms, k, q, l, c, L, f, by rw [← hkv]; exact ha, hg, hk, h⟩
/-- what holds inside a group; W0: the world ahead of it. -/
structure Hw (n who N gc : Nat) (gp : Option Addr) (s : List Nat) (w W0 W : World) (f0 : Nat → Bool) (kf : Nat) (G : Nat) (ms : List Nat) (gq : Option Addr) (gcap : Nat) (Gr : List Nat) (f : Nat → Bool) : Prop where
  gro : W0.grownBy W (some (w.heap.size + 1 + 1))
  seen : Bools W (w.heap.size + 1 + 1) N f
  gb : W.heap[G]? = some (.cells #[.slice gq Gr.length gcap] 22 (0, 0))
  own : Own 3 W0.heap.size W gq Gr.length gcap (asI Gr)
  gH : W0.heap.size ≤ G
  sp : Sp n (fun a => st s a = who) f0 Gr f
  fst : f kf = true
  mrk : Mk w.heap.size ms W
def HI (n who N gc : Nat) (gp : Option Addr) (s : List Nat) (w W0 : World) (f0 : Nat → Bool) (G : Nat) (k : Nat) (q : Option Addr) (l c : Nat) (g : Nat) (a : Act) (W : World) : Prop :=
  ∃ (ff : Nat → Value) (ms : List Nat) (i : Nat) (gq : Option Addr) (gcap : Nat) (Gr : List Nat) (f : Nat → Bool),
    a = { tmps := #[.agg #[.int .i64 (n : Int), .int .i64 (n : Int), .slice gp N gc], .int .i64 (who : Int), .pointer (some ⟨w.heap.size, 0, none⟩), .pointer (some ⟨w.heap.size + 1, 0, none⟩), .slice none 0 0, .slice q l c, .pointer (some ⟨w.heap.size + 1 + 1 + 1, 0, none⟩), ff 7, ff 8, .pointer (some ⟨G, 0, none⟩), .int .i64 (i : Int), ff 11, .pointer (some ⟨w.heap.size, 2, none⟩), .slice gp N gc, .int .i64 (N : Int), .slice (some ⟨w.heap.size + 1 + 1, 0, none⟩) N N, .pointer (some ⟨w.heap.size, 2, none⟩), .slice gp N gc, .int .i64 (N : Int), .int .i64 (k : Int), ff 20, ff 21, ff 22, ff 23, ff 24, ff 25, ff 26, ff 27, ff 28, ff 29, ff 30, ff 31, ff 32, ff 33, ff 34, ff 35, ff 36, ff 37, ff 38, ff 39, ff 40, ff 41, ff 42, ff 43, ff 44, ff 45, ff 46, ff 47, ff 48, ff 49, ff 50, ff 51, ff 52, ff 53, ff 54, ff 55, ff 56, ff 57, ff 58, ff 59, ff 60, ff 61, ff 62, ff 63, ff 64, ff 65, ff 66, ff 67, ff 68, ff 69, ff 70, ff 71, ff 72, ff 73, ff 74, ff 75, ff 76, ff 77, ff 78, ff 79, ff 80], defers := mks ms } ∧ g = N - i ∧ i ≤ Gr.length ∧ Hw n who N gc gp s w W0 W f0 k G ms gq gcap Gr f ∧ ∀ j, j < i → ∀ c, Nx n (st Gr j) c → st s c = who → f c = true
theorem HI.intro {n who N gc : Nat} {gp : Option Addr} {s : List Nat} {w W0 : World} {f0 : Nat → Bool} {G k : Nat} {q : Option Addr} {l c g : Nat} {a : Act} {W : World} (ms : List Nat) (i : Nat) (gq : Option Addr) (gcap : Nat) (Gr : List Nat) (f : Nat → Bool)
    (h : Hw n who N gc gp s w W0 W f0 k G ms gq gcap Gr f) (hc : ∀ j, j < i → ∀ c, Nx n (st Gr j) c → st s c = who → f c = true) (hg : g = N - i) (hi : i ≤ Gr.length) (iv : Int) (ha : a = { tmps := #[.agg #[.int .i64 (n : Int), .int .i64 (n : Int), .slice gp N gc], .int .i64 (who : Int), .pointer (some ⟨w.heap.size, 0, none⟩), .pointer (some ⟨w.heap.size + 1, 0, none⟩), .slice none 0 0, .slice q l c, .pointer (some ⟨w.heap.size + 1 + 1 + 1, 0, none⟩), (a.tmps[7]?.getD undef), (a.tmps[8]?.getD undef), .pointer (some ⟨G, 0, none⟩), .int .i64 iv, (a.tmps[11]?.getD undef), .pointer (some ⟨w.heap.size, 2, none⟩), .slice gp N gc, .int .i64 (N : Int), .slice (some ⟨w.heap.size + 1 + 1, 0, none⟩) N N, .pointer (some ⟨w.heap.size, 2, none⟩), .slice gp N gc, .int .i64 (N : Int), .int .i64 (k : Int), (a.tmps[20]?.getD undef), (a.tmps[21]?.getD undef), (a.tmps[22]?.getD undef), (a.tmps[23]?.getD undef), (a.tmps[24]?.getD undef), (a.tmps[25]?.getD undef), (a.tmps[26]?.getD undef), (a.tmps[27]?.getD undef), (a.tmps[28]?.getD undef), (a.tmps[29]?.getD undef), (a.tmps[30]?.getD undef), (a.tmps[31]?.getD undef), (a.tmps[32]?.getD undef), (a.tmps[33]?.getD undef), (a.tmps[34]?.getD undef), (a.tmps[35]?.getD undef), (a.tmps[36]?.getD undef), (a.tmps[37]?.getD undef), (a.tmps[38]?.getD undef), (a.tmps[39]?.getD undef), (a.tmps[40]?.getD undef), (a.tmps[41]?.getD undef), (a.tmps[42]?.getD undef), (a.tmps[43]?.getD undef), (a.tmps[44]?.getD undef), (a.tmps[45]?.getD undef), (a.tmps[46]?.getD undef), (a.tmps[47]?.getD undef), (a.tmps[48]?.getD undef), (a.tmps[49]?.getD undef), (a.tmps[50]?.getD undef), (a.tmps[51]?.getD undef), (a.tmps[52]?.getD undef), (a.tmps[53]?.getD undef), (a.tmps[54]?.getD undef), (a.tmps[55]?.getD undef), (a.tmps[56]?.getD undef), (a.tmps[57]?.getD undef), (a.tmps[58]?.getD undef), (a.tmps[59]?.getD undef), (a.tmps[60]?.getD undef), (a.tmps[61]?.getD undef), (a.tmps[62]?.getD undef), (a.tmps[63]?.getD undef), (a.tmps[64]?.getD undef), (a.tmps[65]?.getD undef), (a.tmps[66]?.getD undef), (a.tmps[67]?.getD undef), (a.tmps[68]?.getD undef), (a.tmps[69]?.getD undef), (a.tmps[70]?.getD undef), (a.tmps[71]?.getD undef), (a.tmps[72]?.getD undef), (a.tmps[73]?.getD undef), (a.tmps[74]?.getD undef), (a.tmps[75]?.getD undef), (a.tmps[76]?.getD undef), (a.tmps[77]?.getD undef), (a.tmps[78]?.getD undef), (a.tmps[79]?.getD undef), (a.tmps[80]?.getD undef)], defers := mks ms }) (hiv : iv = (i : Int)) : HI n who N gc gp s w W0 f0 G k q l c g a W :=
  ⟨fun i => a.tmps[i]?.getD undef, ms, i, gq, gcap, Gr, f, by rw [← hiv]; exact ha, hg, hi, h, hc⟩
end Go.Proofs.Ytcibkchfdiijfaa
