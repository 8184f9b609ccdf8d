/- Two boxes that a drawn region makes, before or behind a call; no conditions. -/
import Derived.Test.YtefjliblaeadfaaOut3
namespace Go.Proofs.Ytefjliblaeadfaa
open Go.RowKit

/-- the boxes that were made: one of three cells, one of two. -/
def Out32 (W : World) (x y z t u : Value) (g n : Nat) (xs : List Int) (v1 v2 : Value) (wx : World) : Prop :=
  Below W.heap.size W wx ∧ (∃ b1 b2, v1 = .pointer (some ⟨b1, 0, none⟩) ∧ v2 = .pointer (some ⟨b2, 0, none⟩) ∧ wx.heap[b1]? = some (.cells #[x, y, z] 24 (0, 0)) ∧ wx.heap[b2]? = some (.cells #[t, u] 25 (0, 0))) ∧ IntsIn wx (some ⟨g, 0, none⟩) n xs
section
variable {W w9 : World} {x y z t u x0 y0 z0 t0 u0 : Value} {g n : Nat} {xs : List Int}
theorem ints_set {w : World} {g n b j : Nat} {xs : List Int} {v : Value} (h : IntsIn w (some ⟨g, 0, none⟩) n xs) (hg : g ≠ b) : IntsIn (w.setCell ⟨b, j, none⟩ v) (some ⟨g, 0, none⟩) n xs :=
  h.keep (by simp [World.setCell]) fun bb o e => by cases e; exact wset_ne _ _ hg
theorem o32_n1 (hI : IntsIn w9 (some ⟨g, 0, none⟩) n xs) (hB : Below W.heap.size W w9) :
    Out32 W x y z t u g n xs (.pointer (some ⟨w9.heap.size, 0, none⟩)) (.pointer (some ⟨w9.heap.size + 1, 0, none⟩)) ((w9.alloc (.cells #[x, y, z] 24)).alloc (.cells #[t, u] 25)) :=
  ⟨(hB.alloc hB.size _).alloc (by have := hB.size; simp; omega) _, ⟨_, _, rfl, rfl, (heap2 w9 _ _).1, (heap2 w9 _ _).2⟩, (hI.alloc _).alloc _⟩
theorem o32_n2 (hI : IntsIn w9 (some ⟨g, 0, none⟩) n xs) (hB : Below W.heap.size W w9) :
    Out32 W x y z t u g n xs (.pointer (some ⟨w9.heap.size + 1, 0, none⟩)) (.pointer (some ⟨w9.heap.size, 0, none⟩)) ((w9.alloc (.cells #[t, u] 25)).alloc (.cells #[x, y, z] 24)) :=
  ⟨(hB.alloc hB.size _).alloc (by have := hB.size; simp; omega) _, ⟨_, _, rfl, rfl, (heap2 w9 _ _).2, (heap2 w9 _ _).1⟩, (hI.alloc _).alloc _⟩
theorem o32_a {s : Nat} (hI : IntsIn w9 (some ⟨g, 0, none⟩) n xs) (hB : Below W.heap.size W w9) (hs : W.heap.size ≤ s) (hg : g ≠ s) (hk : w9.heap[s]? = some (.cells #[x0, y0, z0] 24 (0, 0))) :
    Out32 W x y z t u g n xs (.pointer (some ⟨s, 0, none⟩)) (.pointer (some ⟨w9.heap.size, 0, none⟩)) ((((w9.setCell ⟨s, 0, none⟩ x).setCell ⟨s, 1, none⟩ y).setCell ⟨s, 2, none⟩ z).alloc (.cells #[t, u] 25)) := by
  have h1 := wset (wset (wset hk 0 x) 1 y) 2 z
  have h2 := ((hB.setCell (p := ⟨s, 0, none⟩) hs x).setCell (p := ⟨s, 1, none⟩) hs y).setCell (p := ⟨s, 2, none⟩) hs z
  have h3 := ints_set (j := 2) (v := z) (ints_set (j := 1) (v := y) (ints_set (j := 0) (v := x) hI hg) hg) hg
  have h4 : (((w9.setCell ⟨s, 0, none⟩ x).setCell ⟨s, 1, none⟩ y).setCell ⟨s, 2, none⟩ z).heap.size = w9.heap.size := by simp [World.setCell]
  generalize ((w9.setCell ⟨s, 0, none⟩ x).setCell ⟨s, 1, none⟩ y).setCell ⟨s, 2, none⟩ z = U at *
  rw [← h4]
  exact ⟨h2.alloc h2.size _, ⟨_, _, rfl, rfl, by rw [Below.heap_alloc _ _ _ (lt_of_heap h1)]; simpa using h1, heap_alloc_new U _⟩, h3.alloc _⟩
theorem o32_b {s : Nat} (hI : IntsIn w9 (some ⟨g, 0, none⟩) n xs) (hB : Below W.heap.size W w9) (hs : W.heap.size ≤ s) (hg : g ≠ s) (hk : w9.heap[s]? = some (.cells #[t0, u0] 25 (0, 0))) :
    Out32 W x y z t u g n xs (.pointer (some ⟨w9.heap.size, 0, none⟩)) (.pointer (some ⟨s, 0, none⟩)) (((w9.setCell ⟨s, 0, none⟩ t).setCell ⟨s, 1, none⟩ u).alloc (.cells #[x, y, z] 24)) := by
  have h1 := wset (wset hk 0 t) 1 u
  have h2 := (hB.setCell (p := ⟨s, 0, none⟩) hs t).setCell (p := ⟨s, 1, none⟩) hs u
  have h3 := ints_set (j := 1) (v := u) (ints_set (j := 0) (v := t) hI hg) hg
  have h4 : ((w9.setCell ⟨s, 0, none⟩ t).setCell ⟨s, 1, none⟩ u).heap.size = w9.heap.size := by simp [World.setCell]
  generalize (w9.setCell ⟨s, 0, none⟩ t).setCell ⟨s, 1, none⟩ u = U at *
  rw [← h4]
  exact ⟨h2.alloc h2.size _, ⟨_, _, rfl, rfl, heap_alloc_new U _, by rw [Below.heap_alloc _ _ _ (lt_of_heap h1)]; simpa using h1⟩, h3.alloc _⟩
theorem o32_ab {s r : Nat} (hI : IntsIn w9 (some ⟨g, 0, none⟩) n xs) (hB : Below W.heap.size W w9) (hs : W.heap.size ≤ s) (hr : W.heap.size ≤ r) (hsr : s ≠ r) (hg : g ≠ s) (hg2 : g ≠ r) (hk : w9.heap[s]? = some (.cells #[x0, y0, z0] 24 (0, 0))) (hk2 : w9.heap[r]? = some (.cells #[t0, u0] 25 (0, 0))) :
    Out32 W x y z t u g n xs (.pointer (some ⟨s, 0, none⟩)) (.pointer (some ⟨r, 0, none⟩)) (((((w9.setCell ⟨s, 0, none⟩ x).setCell ⟨s, 1, none⟩ y).setCell ⟨s, 2, none⟩ z).setCell ⟨r, 0, none⟩ t).setCell ⟨r, 1, none⟩ u) := by
  have h1 := wset (wset (wset hk 0 x) 1 y) 2 z
  have h2 := ((((hB.setCell (p := ⟨s, 0, none⟩) hs x).setCell (p := ⟨s, 1, none⟩) hs y).setCell (p := ⟨s, 2, none⟩) hs z).setCell (p := ⟨r, 0, none⟩) hr t).setCell (p := ⟨r, 1, none⟩) hr u
  have h3 := ints_set (j := 1) (v := u) (ints_set (j := 0) (v := t) (ints_set (j := 2) (v := z) (ints_set (j := 1) (v := y) (ints_set (j := 0) (v := x) hI hg) hg) hg) hg2) hg2
  have h5 : (((w9.setCell ⟨s, 0, none⟩ x).setCell ⟨s, 1, none⟩ y).setCell ⟨s, 2, none⟩ z).heap[r]? = some (.cells #[t0, u0] 25 (0, 0)) := by rw [wset_ne _ _ (Ne.symm hsr), wset_ne _ _ (Ne.symm hsr), wset_ne _ _ (Ne.symm hsr)]; exact hk2
  have h6 := wset (wset h5 0 t) 1 u
  have h7 := (wset_ne (w := (((w9.setCell ⟨s, 0, none⟩ x).setCell ⟨s, 1, none⟩ y).setCell ⟨s, 2, none⟩ z)) (b := s) ⟨r, 0, none⟩ t hsr).trans h1
  have h8 := (wset_ne (w := (((w9.setCell ⟨s, 0, none⟩ x).setCell ⟨s, 1, none⟩ y).setCell ⟨s, 2, none⟩ z).setCell ⟨r, 0, none⟩ t) (b := s) ⟨r, 1, none⟩ u hsr).trans h7
  exact ⟨h2, ⟨_, _, rfl, rfl, by simpa using h8, by simpa using h6⟩, h3⟩
theorem Out32.drewN {v1 v2 : Value} {wx : World} (h : Out32 W x y z t u g n xs v1 v2 wx) (k : Nat) : Out32 W x y z t u g n xs v1 v2 (wx.drewN k) := ⟨below_drewN h.1 k, h.2.1, h.2.2.below (below_drewN (Below.refl _ _) k)⟩
theorem Out32.drew {v1 v2 : Value} {wx : World} (h : Out32 W x y z t u g n xs v1 v2 wx) : Out32 W x y z t u g n xs v1 v2 wx.drew := ⟨h.1.drew, h.2.1, h.2.2.below ((Below.refl _ _).drew)⟩
end
end Go.Proofs.Ytefjliblaeadfaa
