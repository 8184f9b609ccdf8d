/- Trays and rings of trays in memory: what lasts; conditions stand in each. -/
import Derived.Test.YtkakggagaplaiaaShM
namespace Go.Proofs.Ytkakggagaplaiaa
open Go.RowKit

/-- all blocks are as they were, but two. -/
structure TwS (b1 b2 : Nat) (A B : World) : Prop where
  os : B.os = A.os
  tape : B.tape = A.tape
  output : B.output = A.output
  size : A.heap.size ≤ B.heap.size
  block : ∀ k, k < A.heap.size → k ≠ b1 → k ≠ b2 → B.heap[k]? = A.heap[k]?
/-- a tray that is read: its block, its cells' block. -/
def TrR (R0 : Nat) (W : World) (a b tb : Nat) (l : List Nat) : Prop :=
  ∃ g c cur, R0 ≤ tb ∧ R0 ≤ g ∧ W.heap[tb]? = some (.cells #[.int .i64 (a : Int), .int .i64 (b : Int), .slice (some ⟨g, 0, none⟩) 6 c, .int .i64 (ixN l 0 : Nat)] 80 (0, 0)) ∧ W.heap[g]? = some (.cells cur 3 (0, 0)) ∧ l.length = 6 ∧ ∀ i, i < 6 → cur[i]? = some (.int .i64 (st l i : Nat))
theorem TrR.keep {R0 : Nat} {W W' : World} {a b tb : Nat} {l : List Nat} (h : TrR R0 W a b tb l) (hk : ∀ k cur t, R0 ≤ k → (t = 80 ∨ t = 3) → W.heap[k]? = some (.cells cur t (0, 0)) → W'.heap[k]? = some (.cells cur t (0, 0))) : TrR R0 W' a b tb l := by
  obtain ⟨g, c, cur, h1, h2, h3, h4, h5, h6⟩ := h
  exact ⟨g, c, cur, h1, h2, hk _ _ _ h1 (.inl rfl) h3, hk _ _ _ h2 (.inr rfl) h4, h5, h6⟩
theorem tray_read {B R0 : Nat} {W : World} {tb a b cq : Nat} {q : Option Addr} {l : List Nat} (h : Tray B W tb a b 6 q cq (ixN l 0) l) (hB : R0 ≤ B) : TrR R0 W a b tb l := by
  have hll := h.own.len
  rw [asI_len] at hll
  rcases h.own.2 with ⟨_, h0⟩ | ⟨g, cap, cur, hv, hb, hh, hn, _, hs, ht⟩
  · omega
  · injection hv with hq _ hc
    subst hq; subst hc
    refine ⟨g, cq, cur, Nat.le_trans hB h.low, Nat.le_trans hB hb, h.box, hh, hll, fun i hi => ?_⟩
    have h1 : (List.take (6 * 1) cur.toList)[i]? = ((asI l).map (Value.int .i64))[i]? := by rw [ht]
    rw [List.getElem?_take_of_lt (by omega), Array.getElem?_toList, List.getElem?_map] at h1
    rw [h1]
    have hi2 : i < (asI l).length := by rw [asI_len, hll]; exact hi
    have := asI_at l i
    rw [List.getElem?_eq_getElem hi2] at this ⊢
    simpa using this
theorem TrR.ints {R0 : Nat} {W : World} {a b tb : Nat} {l : List Nat} (h : TrR R0 W a b tb l) : ∃ g c, W.heap[tb]? = some (.cells #[.int .i64 (a : Int), .int .i64 (b : Int), .slice (some ⟨g, 0, none⟩) 6 c, .int .i64 (ixN l 0 : Nat)] 80 (0, 0)) ∧ IntsIn W (some ⟨g, 0, none⟩) 6 (asI l) ∧ R0 ≤ tb ∧ R0 ≤ g := by
  obtain ⟨g, c, cur, h1, h2, h3, h4, h5, h6⟩ := h
  refine ⟨g, c, h3, IntsIn.mk' (by rw [asI_len, h5]) (lt_of_heap h4) fun j hj => ?_, h1, h2⟩
  rw [Nat.zero_add, cell_of_row W g j _ 3 (0, 0) h4, h6 j hj, asI_at]
/-- a ring: a row of pointers to trays. -/
def RgM (R0 : Nat) (W : World) (a b : Nat) (q : Option Addr) (m c : Nat) (ts : List (List Nat)) : Prop :=
  ∃ vs, OwnC 77 1 R0 W q m c vs ∧ ts.length = m ∧ ∀ i, i < m → ∃ tb, vs[i]? = some (.pointer (some ⟨tb, 0, none⟩)) ∧ TrR R0 W a b tb (ts[i]?.getD [])
theorem RgM.keep {R0 : Nat} {W W' : World} {a b m c : Nat} {q : Option Addr} {ts : List (List Nat)} (h : RgM R0 W a b q m c ts) (hk : ∀ k cur t, R0 ≤ k → (t = 80 ∨ t = 3 ∨ t = 77) → W.heap[k]? = some (.cells cur t (0, 0)) → W'.heap[k]? = some (.cells cur t (0, 0))) : RgM R0 W' a b q m c ts := by
  obtain ⟨vs, h1, h2, h3⟩ := h
  refine ⟨vs, ?_, h2, fun i hi => ?_⟩
  · refine OwnC.keep h1 fun x hx => ?_
    rcases h1.2 with ⟨hv, _⟩ | ⟨g, cap, cur, hv, hb, hh, _⟩
    · injection hv with hq; rw [hq] at hx; cases hx
    · injection hv with hq
      rw [hq] at hx; cases hx
      rw [hh]; exact hk _ _ _ hb (.inr (.inr rfl)) hh
  · obtain ⟨tb, h4, h5⟩ := h3 i hi
    exact ⟨tb, h4, h5.keep fun k cur t r1 r2 r3 => hk k cur t r1 (r2.elim .inl fun e => .inr (.inl e)) r3⟩
theorem keep_below {R0 : Nat} {W W' : World} (hb : Below W.heap.size W W') : ∀ k cur t, R0 ≤ k → W.heap[k]? = some (.cells cur t (0, 0)) → W'.heap[k]? = some (.cells cur t (0, 0)) :=
  fun k _ _ _ h => (hb.block k (lt_of_heap h)).trans h
theorem keep_two {R0 x1 x2 : Nat} {W W' : World} (hb : TwS x1 x2 W W') (h1 : x1 < R0) (h2 : x2 < R0) : ∀ k cur t, R0 ≤ k → W.heap[k]? = some (.cells cur t (0, 0)) → W'.heap[k]? = some (.cells cur t (0, 0)) :=
  fun k _ _ hk h => (hb.block k (lt_of_heap h) (by omega) (by omega)).trans h
theorem RgM.below {R0 : Nat} {W W' : World} {a b m c : Nat} {q : Option Addr} {ts : List (List Nat)} (h : RgM R0 W a b q m c ts) (hb : Below W.heap.size W W') : RgM R0 W' a b q m c ts := h.keep fun k cur t r _ e => keep_below hb k cur t r e
theorem RgM.two {R0 x1 x2 : Nat} {W W' : World} {a b m c : Nat} {q : Option Addr} {ts : List (List Nat)} (h : RgM R0 W a b q m c ts) (hb : TwS x1 x2 W W') (h1 : x1 < R0) (h2 : x2 < R0) : RgM R0 W' a b q m c ts := h.keep fun k cur t r _ e => keep_two hb h1 h2 k cur t r e
theorem RgM.map {R0 mb : Nat} {W W' : World} {a b m c : Nat} {q : Option Addr} {ts : List (List Nat)} {cm : List (List Nat × Int)} (h : RgM R0 W a b q m c ts) (hm : KnM W mb cm) (hg : W.grownBy W' (some mb)) : RgM R0 W' a b q m c ts := h.keep fun k cur t r _ e => by
  have hne : some k ≠ some mb := by
    intro e2; injection e2 with e2; subst e2
    obtain ⟨D, n, ⟨es, clock, hb, _⟩, h2⟩ := hm
    rw [hb] at e; cases e
  exact (hg.block k (lt_of_heap e) hne).trans e
theorem TrR.below {R0 : Nat} {W W' : World} {a b tb : Nat} {l : List Nat} (h : TrR R0 W a b tb l) (hb : Below W.heap.size W W') : TrR R0 W' a b tb l := h.keep fun k cur t r _ e => keep_below hb k cur t r e
theorem TrR.map {R0 mb : Nat} {W W' : World} {a b tb : Nat} {l : List Nat} {cm : List (List Nat × Int)} (h : TrR R0 W a b tb l) (hm : KnM W mb cm) (hg : W.grownBy W' (some mb)) : TrR R0 W' a b tb l := h.keep fun k cur t r _ e => by
  have hne : some k ≠ some mb := by
    intro e2; injection e2 with e2; subst e2
    obtain ⟨D, n, ⟨es, clock, hb, _⟩, h2⟩ := hm
    rw [hb] at e; cases e
  exact (hg.block k (lt_of_heap e) hne).trans e
theorem el77 : ElT Try.prog 91 77 (.pointer none) 1 8 := ⟨by kernel_rfl, by kernel_rfl, rfl, by omega, by omega⟩
theorem RgM.nil (R0 : Nat) (W : World) (a b : Nat) : RgM R0 W a b none 0 0 [] := ⟨[], OwnC.nil _ _ _ _, rfl, fun i hi => absurd hi (Nat.not_lt_zero i)⟩
/-- a tray more. -/
theorem RgM.snoc {R0 : Nat} {W W' : World} {a b m c c' tb : Nat} {q q' : Option Addr} {ts : List (List Nat)} {u : List Nat} (h : RgM R0 W a b q m c ts) (ht : TrR R0 W a b tb u)
    (hO : ∀ vs, OwnC 77 1 R0 W q m c vs → OwnC 77 1 R0 W' q' (m + 1) c' (vs ++ [.pointer (some ⟨tb, 0, none⟩)])) (hg : W.grownBy W' (q.map (·.block))) : RgM R0 W' a b q' (m + 1) c' (ts ++ [u]) := by
  obtain ⟨vs, h1, h2, h3⟩ := h
  have hvl : vs.length = m := by have := h1.len; omega
  have hk : ∀ k cur t, R0 ≤ k → (t = 80 ∨ t = 3) → W.heap[k]? = some (.cells cur t (0, 0)) → W'.heap[k]? = some (.cells cur t (0, 0)) := fun k cur t _ ht e => by
    refine (hg.block k (lt_of_heap e) fun e2 => ?_).trans e
    rcases h1.2 with ⟨hv, _⟩ | ⟨g, cap, cur2, hv, hb, hh, _⟩
    · injection hv with hq; rw [hq] at e2; cases e2
    · injection hv with hq
      rw [hq] at e2; simp at e2; subst e2
      rw [hh] at e
      injection e with e; injection e with _ e
      rcases ht with rfl | rfl <;> cases e
  refine ⟨_, hO vs h1, by simp [h2], fun i hi => ?_⟩
  by_cases hlt : i < m
  · obtain ⟨tb', h4, h5⟩ := h3 i hlt
    refine ⟨tb', by rw [List.getElem?_append_left (by omega)]; exact h4, ?_⟩
    rw [List.getElem?_append_left (by omega)]
    exact h5.keep hk
  · obtain rfl : i = m := by omega
    refine ⟨tb, by rw [List.getElem?_append_right (by omega), hvl]; simp, ?_⟩
    rw [List.getElem?_append_right (by omega), h2, Nat.sub_self]
    exact ht.keep hk
end Go.Proofs.Ytkakggagaplaiaa
