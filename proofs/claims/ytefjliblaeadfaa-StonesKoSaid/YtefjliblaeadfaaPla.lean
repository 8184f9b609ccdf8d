/- What stones.Play computes; conditions: a board that may be, at most 200 moves. -/
import Derived.Test.YtefjliblaeadfaaPlM
import Derived.BigRegion
namespace Go.Proofs.Ytefjliblaeadfaa
open Go.RowKit

/-- what a play tells. -/
def PlayP (a b n : Nat) (Z : Ps × Nat × Nat) (w : World) (e : Ending) (w' : World) : Prop :=
  (∃ g' c', e = .returned (.tuple #[.agg #[.int .i64 (a : Int), .int .i64 (b : Int), .slice (some ⟨g', 0, none⟩) n c'], .agg #[.int .i64 (Z.1.t0 : Int), .int .i64 (Z.1.t1 : Int)], .int .i64 (Z.2.1 : Nat), .int .i64 (Z.2.2 : Nat)]) ∧ IntsIn w' (some ⟨g', 0, none⟩) n (asI Z.1.s) ∧ w.heap.size ≤ g') ∧ Below w.heap.size w w'

/-- the results are written. -/
def finU (W : World) (B g2 c2 a b n : Nat) (z : Ps) : World := ((((W.setCell ⟨B + 1, 0, none⟩ (.int .i64 (a : Int))).setCell ⟨B + 1, 1, none⟩ (.int .i64 (b : Int))).setCell ⟨B + 1, 2, none⟩ (.slice (some ⟨g2, 0, none⟩) n c2)).setCell ⟨B + 1 + 1, 0, none⟩ (.int .i64 (z.t0 : Int))).setCell ⟨B + 1 + 1, 1, none⟩ (.int .i64 (z.t1 : Int))
/-- where a play stands in memory, but for the map. -/
structure PlM0 (w W : World) (B g2 c2 a b n : Nat) (z : Ps) : Prop where
  bx : W.heap[B]? = some (.cells #[.int .i64 (a : Int), .int .i64 (b : Int), .slice (some ⟨g2, 0, none⟩) n c2] 24 (0, 0))
  r1 : W.heap[B + 1]? = some (.cells #[.int .i64 0, .int .i64 0, .slice none 0 0] 24 (0, 0))
  r2 : W.heap[B + 2]? = some (.cells #[.int .i64 0, .int .i64 0] 25 (0, 0))
  tk : W.heap[B + 3]? = some (.cells #[.int .i64 (z.t0 : Int), .int .i64 (z.t1 : Int)] 25 (0, 0))
  row : Own 3 (B + 4) W (some ⟨g2, 0, none⟩) n c2 (asI z.s)
  bl : Below B w W
section
variable {w W W' : World} {B g2 c2 mb a b n : Nat} {z : Ps}
theorem PlM.low (h : PlM w W B g2 c2 mb a b n z) : PlM0 w W B g2 c2 a b n z := ⟨h.bx, h.r1, h.r2, h.tk, h.row, h.bl⟩
theorem PlM.grown0 (h : PlM w W B g2 c2 mb a b n z) (hn : 0 < n) (hg : W.grownBy W' (some mb)) (hB : B ≤ W.heap.size) : PlM0 w W' B g2 c2 a b n z := by
  have hm := h.mg
  have hne := h.gne hn
  have ne : ∀ x, x < B + 4 → some x ≠ some mb := fun x hx e => by injection e with e; omega
  refine ⟨(hg.block _ (lt_of_heap h.bx) (ne _ (by omega))).trans h.bx, (hg.block _ (lt_of_heap h.r1) (ne _ (by omega))).trans h.r1, (hg.block _ (lt_of_heap h.r2) (ne _ (by omega))).trans h.r2, (hg.block _ (lt_of_heap h.tk) (ne _ (by omega))).trans h.tk, h.row.grown hg (fun x hx e => ?_), h.bl.grown hg hB fun k hk => ?_⟩
  · cases hx; injection e with e; exact hne e
  · injection hk with hk; omega
theorem PlM.pass (h : PlM w W B g2 c2 mb a b n z) (j : Nat) : PlM w W B g2 c2 mb a b n { z with ps := j } := ⟨h.bx, h.r1, h.r2, h.tk, h.row, h.mp, h.mg, h.bl⟩
theorem SeenM.setCell {ks : List (List Nat)} (h : SeenM n W mb ks) {p : Addr} (hp : mb ≠ p.block) (v : Value) : SeenM n (W.setCell p v) mb ks := by
  obtain ⟨D, h1, h2⟩ := h
  exact ⟨D, h1.setCell hp v, h2⟩
/-- a move was played: the board's box and what is taken are written. -/
theorem PlM.moved {g3 c3 r t : Nat} {s' : List Nat} (h : PlM w W B g2 c2 mb a b n z) (hr : r < 2) (hrow : Own 3 (B + 4) W (some ⟨g3, 0, none⟩) n c3 (asI s')) (z' : Ps) (hs : z'.s = s') (hks : z'.ks = z.ks) (h0 : z'.t0 = if r = 0 then t else z.t0) (h1 : z'.t1 = if r = 0 then z.t1 else t) :
    PlM w ((((W.setCell ⟨B, 0, none⟩ (.int .i64 (a : Int))).setCell ⟨B, 1, none⟩ (.int .i64 (b : Int))).setCell ⟨B, 2, none⟩ (.slice (some ⟨g3, 0, none⟩) n c3)).setCell ⟨B + 3, r, none⟩ (.int .i64 (t : Int))) B g3 c3 mb a b n z' := by
  have hm := h.mg
  have hg := (hrow.block _ rfl).1
  simp only at hg
  have e0 := wset (wset (wset h.bx 0 (.int .i64 (a : Int))) 1 (.int .i64 (b : Int))) 2 (.slice (some ⟨g3, 0, none⟩) n c3)
  have e3 : (((W.setCell ⟨B, 0, none⟩ (.int .i64 (a : Int))).setCell ⟨B, 1, none⟩ (.int .i64 (b : Int))).setCell ⟨B, 2, none⟩ (.slice (some ⟨g3, 0, none⟩) n c3)).heap[B + 3]? = some (.cells #[.int .i64 (z.t0 : Int), .int .i64 (z.t1 : Int)] 25 (0, 0)) := by
    rw [wset_ne _ _ (by simp), wset_ne _ _ (by simp), wset_ne _ _ (by simp)]; exact h.tk
  have e4 := wset e3 r (.int .i64 (t : Int))
  refine ⟨?_, ?_, ?_, ?_, ?_, ?_, hm, ?_⟩
  · rw [wset_ne _ _ (by simp)]; simpa using e0
  · rw [wset_ne _ _ (by simp), wset_ne _ _ (by simp), wset_ne _ _ (by simp), wset_ne _ _ (by simp)]; exact h.r1
  · rw [wset_ne _ _ (by simp), wset_ne _ _ (by simp), wset_ne _ _ (by simp), wset_ne _ _ (by simp)]; exact h.r2
  · rw [e4, h0, h1]
    rcases Nat.lt_or_ge r 1 with hr1 | hr1
    · have : r = 0 := by omega
      subst this; simp
    · have : r = 1 := by omega
      subst this; simp
  · rw [hs]
    refine hrow.keep fun x hx => ?_
    cases hx
    rw [wset_ne _ _ (by simp; omega), wset_ne _ _ (by simp; omega), wset_ne _ _ (by simp; omega), wset_ne _ _ (by simp; omega)]
  · rw [hks]
    exact (((h.mp.setCell (p := ⟨B, 0, none⟩) (by simp; omega) _).setCell (p := ⟨B, 1, none⟩) (by simp; omega) _).setCell (p := ⟨B, 2, none⟩) (by simp; omega) _).setCell (p := ⟨B + 3, r, none⟩) (by simp; omega) _
  · exact (((h.bl.setCell (p := ⟨B, 0, none⟩) (by simp) _).setCell (p := ⟨B, 1, none⟩) (by simp) _).setCell (p := ⟨B, 2, none⟩) (by simp) _).setCell (p := ⟨B + 3, r, none⟩) (by simp) _
end
theorem put_bd {s : List Nat} {a b who at_ : Nat} (hs : s.length = a * b) (hat : at_ < s.length) (hw : who = 1 ∨ who = 2) (h2 : ∀ j, st s j ≤ 2) (h : (putS s a who at_).2.2 = 0) :
    Bd (a * b) (putS s a who at_).1 ∧ (putS s a who at_).2.1 ≤ a * b := by
  unfold putS at *
  by_cases h0 : st s at_ ≠ 0
  · rw [if_pos h0] at h; simp at h
  · rw [if_neg h0] at h ⊢
    have ho : 3 - who ≠ 0 := by omega
    have hs1 : (s.set at_ who).length = a * b := by rw [List.length_set]; exact hs
    have I := putN_I ho hs1 (a * b) (Nat.le_refl _)
    rw [hs] at h ⊢
    have h3 : ∀ j, st (s.set at_ who) j ≤ 2 := fun j => by rw [st_set _ _ _ _ hat]; split; omega; exact h2 j
    have hle := putN_le ho hs1 h3 (a * b) (Nat.le_refl _)
    generalize putN a (3 - who) (s.set at_ who) (a * b) = z at *
    by_cases h4 : (grpS z.1 a at_).2 = []
    · rw [if_pos h4] at h; simp at h
    · rw [if_neg h4]
      have hc := I.cnt
      have hcl : (s.set at_ who).countP (· != 0) ≤ a * b := by rw [← hs1]; exact List.countP_le_length
      exact ⟨⟨I.len, hle⟩, by show z.2 ≤ _; omega⟩
theorem putS_err (s : List Nat) (a who p : Nat) : (putS s a who p).2.2 = 0 ∨ (putS s a who p).2.2 = 6 ∨ (putS s a who p).2.2 = 8 := by
  unfold putS
  split
  · simp
  · split <;> simp

theorem PlM0.finU {w W : World} {B g2 c2 a b n : Nat} {z : Ps} (h : PlM0 w W B g2 c2 a b n z) :
    (finU W B g2 c2 a b n z).heap[B + 1]? = some (.cells #[.int .i64 (a : Int), .int .i64 (b : Int), .slice (some ⟨g2, 0, none⟩) n c2] 24 (0, 0)) ∧ (finU W B g2 c2 a b n z).heap[B + 1 + 1]? = some (.cells #[.int .i64 (z.t0 : Int), .int .i64 (z.t1 : Int)] 25 (0, 0)) ∧
      (IntsIn (finU W B g2 c2 a b n z) (some ⟨g2, 0, none⟩) n (asI z.s) ∧ B ≤ g2) ∧ Below B w (finU W B g2 c2 a b n z) := by
  have hg := (h.row.block _ rfl).1
  simp only at hg
  have h1 := wset (wset (wset h.r1 0 (.int .i64 (a : Int))) 1 (.int .i64 (b : Int))) 2 (.slice (some ⟨g2, 0, none⟩) n c2)
  have h2 : (((W.setCell ⟨B + 1, 0, none⟩ (.int .i64 (a : Int))).setCell ⟨B + 1, 1, none⟩ (.int .i64 (b : Int))).setCell ⟨B + 1, 2, none⟩ (.slice (some ⟨g2, 0, none⟩) n c2)).heap[B + 1 + 1]? = some (.cells #[.int .i64 0, .int .i64 0] 25 (0, 0)) := by
    rw [wset_ne _ _ (by simp), wset_ne _ _ (by simp), wset_ne _ _ (by simp)]; exact h.r2
  have h3 := wset (wset h2 0 (.int .i64 (z.t0 : Int))) 1 (.int .i64 (z.t1 : Int))
  unfold Ytefjliblaeadfaa.finU
  refine ⟨?_, by simpa using h3, ?_, ?_⟩
  · rw [wset_ne _ _ (by simp), wset_ne _ _ (by simp)]; simpa using h1
  · refine ⟨(h.row.keep fun x hx => ?_).in, by omega⟩
    cases hx
    rw [wset_ne _ _ (by simp; omega), wset_ne _ _ (by simp; omega), wset_ne _ _ (by simp; omega), wset_ne _ _ (by simp; omega), wset_ne _ _ (by simp; omega)]
  · exact ((((h.bl.setCell (p := ⟨B + 1, 0, none⟩) (by simp) _).setCell (p := ⟨B + 1, 1, none⟩) (by simp) _).setCell (p := ⟨B + 1, 2, none⟩) (by simp) _).setCell (p := ⟨B + 1 + 1, 0, none⟩) (by simp; omega) _).setCell (p := ⟨B + 1 + 1, 1, none⟩) (by simp; omega) _
theorem PlM0.fin {w W : World} {B g2 c2 a b n : Nat} {z : Ps} (h : PlM0 w W B g2 c2 a b n z) :
    ((((((W.setCell ⟨B + 1, 0, none⟩ (.int .i64 (a : Int))).setCell ⟨B + 1, 1, none⟩ (.int .i64 (b : Int))).setCell ⟨B + 1, 2, none⟩ (.slice (some ⟨g2, 0, none⟩) n c2)).setCell ⟨B + 1 + 1, 0, none⟩ (.int .i64 (z.t0 : Int))).setCell ⟨B + 1 + 1, 1, none⟩ (.int .i64 (z.t1 : Int))).drew).heap[B + 1]? = some (.cells #[.int .i64 (a : Int), .int .i64 (b : Int), .slice (some ⟨g2, 0, none⟩) n c2] 24 (0, 0)) ∧
    ((((((W.setCell ⟨B + 1, 0, none⟩ (.int .i64 (a : Int))).setCell ⟨B + 1, 1, none⟩ (.int .i64 (b : Int))).setCell ⟨B + 1, 2, none⟩ (.slice (some ⟨g2, 0, none⟩) n c2)).setCell ⟨B + 1 + 1, 0, none⟩ (.int .i64 (z.t0 : Int))).setCell ⟨B + 1 + 1, 1, none⟩ (.int .i64 (z.t1 : Int))).drew).heap[B + 1 + 1]? = some (.cells #[.int .i64 (z.t0 : Int), .int .i64 (z.t1 : Int)] 25 (0, 0)) ∧
    (IntsIn (((((W.setCell ⟨B + 1, 0, none⟩ (.int .i64 (a : Int))).setCell ⟨B + 1, 1, none⟩ (.int .i64 (b : Int))).setCell ⟨B + 1, 2, none⟩ (.slice (some ⟨g2, 0, none⟩) n c2)).setCell ⟨B + 1 + 1, 0, none⟩ (.int .i64 (z.t0 : Int))).setCell ⟨B + 1 + 1, 1, none⟩ (.int .i64 (z.t1 : Int))).drew (some ⟨g2, 0, none⟩) n (asI z.s) ∧ B ≤ g2) ∧
    Below B w (((((W.setCell ⟨B + 1, 0, none⟩ (.int .i64 (a : Int))).setCell ⟨B + 1, 1, none⟩ (.int .i64 (b : Int))).setCell ⟨B + 1, 2, none⟩ (.slice (some ⟨g2, 0, none⟩) n c2)).setCell ⟨B + 1 + 1, 0, none⟩ (.int .i64 (z.t0 : Int))).setCell ⟨B + 1 + 1, 1, none⟩ (.int .i64 (z.t1 : Int))).drew := by
  have h0 := h.finU
  unfold Ytefjliblaeadfaa.finU at h0
  generalize ((((W.setCell ⟨B + 1, 0, none⟩ (.int .i64 (a : Int))).setCell ⟨B + 1, 1, none⟩ (.int .i64 (b : Int))).setCell ⟨B + 1, 2, none⟩ (.slice (some ⟨g2, 0, none⟩) n c2)).setCell ⟨B + 1 + 1, 0, none⟩ (.int .i64 (z.t0 : Int))).setCell ⟨B + 1 + 1, 1, none⟩ (.int .i64 (z.t1 : Int)) = U at *
  exact ⟨h0.1, h0.2.1, ⟨h0.2.2.1.1.below (Below.drew (Below.refl _ _)), h0.2.2.1.2⟩, Below.drew h0.2.2.2⟩

set_option maxHeartbeats 8000000 in
set_option maxRecDepth 100000 in
theorem play_any (a b n c len lcap : Nat) (q lp : Option Addr) (s : List Nat) (l : List Int) (w : World) (ha1 : 1 ≤ a) (ha : a ≤ 10) (hb1 : 1 ≤ b) (hb : b ≤ 10) (hnab : Hid (n = a * b)) (hn : n ≤ 100) (hn1 : 0 < n) (hlen : len ≤ 200) (hx : IntsIn w q n (asI s)) (hl : IntsIn w lp len l) (hs : ∀ j, st s j ≤ 2) :
    Calls Try.prog 6 #[.agg #[.int .i64 (a : Int), .int .i64 (b : Int), .slice q n c], .slice lp len lcap] w (PlayP a b n (playS a s l) w) := by
  have hsl : s.length = n := by have := hx.len; rwa [asI_len] at this
  have hll := hl.len
  have hmay := mayOk ha1 ha hb1 hb hnab.out hsl hs
  obtain ⟨W0, hW0⟩ : ∃ W0, W0 = (((w.alloc (.cells #[.int .i64 (a : Int), .int .i64 (b : Int), .slice q n c] 24)).alloc (.cells #[.int .i64 0, .int .i64 0, .slice none 0 0] 24)).alloc (.cells #[.int .i64 0, .int .i64 0] 25)).alloc (.cells #[.int .i64 0, .int .i64 0] 25) := ⟨_, rfl⟩
  obtain ⟨e0, e1, e2, e3⟩ := heap4 w (.cells #[.int .i64 (a : Int), .int .i64 (b : Int), .slice q n c] 24) (.cells #[.int .i64 0, .int .i64 0, .slice none 0 0] 24) (.cells #[.int .i64 0, .int .i64 0] 25) (.cells #[.int .i64 0, .int .i64 0] 25)
  have hB0 := below4 w (.cells #[.int .i64 (a : Int), .int .i64 (b : Int), .slice q n c] 24) (.cells #[.int .i64 0, .int .i64 0, .slice none 0 0] 24) (.cells #[.int .i64 0, .int .i64 0] 25) (.cells #[.int .i64 0, .int .i64 0] 25)
  rw [← hW0] at e0 e1 e2 e3 hB0
  have HM := Lib.hid (may_any q n c a b (asI s) W0 (by omega) (by omega) (by omega) (by omega) (by omega) (hx.below hB0))
  rw [hmay] at HM
  have HC : Hid (∀ W', Below w.heap.size w W' → Calls Try.prog 16 #[.slice q n c] W' fun e w' => ∃ p' c', e = .returned (.slice p' n c') ∧ Own 3 W'.heap.size w' p' n c' (asI s) ∧ Below W'.heap.size W' w') := fun W' h => clone_any q n c (asI s) W' (by omega) (hx.below h)
  have HA := fun W' => add_any (n := n) (w := W')
  replace HA := Lib.hid HA
  have hZ : Hid (playS a s l = playF a (l.drop 0) 0 ⟨s, 0, 0, [s], 0⟩) := rfl
  generalize playS a s l = Z at *
  replace hB0 := Lib.hid hB0; replace hsl := Lib.hid hsl; replace hll := Lib.hid hll; replace hmay := Lib.hid hmay; replace hx := Lib.hid hx; replace hl := Lib.hid hl; replace hs := Lib.hid hs; replace e0 := Lib.hid e0; replace e1 := Lib.hid e1; replace e2 := Lib.hid e2; replace e3 := Lib.hid e3
  have hsz0 : Hid (W0.heap.size = w.heap.size + 4) := by show _ = _; rw [hW0]; simp
  have hW0' := Lib.hid hW0
  subst hW0
  go_enter Try.func6, Try.ntmps6
  go_wp2_with fail
  refine HM.out.mono ?_
  rintro e w1 ⟨rfl, hB1⟩
  have hbl1 : Hid (Below w.heap.size w w1) := hB0.out.trans (hB1.mono hB0.out.size)
  have f0 := (hB1.block _ (lt_of_heap e0.out)).trans e0.out
  have f1 := (hB1.block _ (lt_of_heap e1.out)).trans e1.out
  have f2 := (hB1.block _ (lt_of_heap e2.out)).trans e2.out
  have f3 := (hB1.block _ (lt_of_heap e3.out)).trans e3.out
  have hsz1 : w.heap.size + 4 ≤ w1.heap.size := by have := hB1.size; rw [hsz0.out] at this; exact this
  have HC1 := Lib.hid (HC.out w1 hbl1.out)
  have d2 : w1.cell? ⟨w.heap.size, 2, none⟩ = some (.slice q n c) := wcell (cs := [_, _, _]) f0 2
  have hl200 : ¬ (len : Int) > 200 := by omega
  replace f0 := Lib.hid f0; replace f1 := Lib.hid f1; replace f2 := Lib.hid f2; replace f3 := Lib.hid f3
  clear HM hB1 HC e0 e1 e2 e3 hsz0 hB0
  go_wp2_with fail
  refine HC1.out.mono ?_
  rintro e w2 ⟨q2, c2, rfl, hO2, hB2⟩
  obtain ⟨g2, rfl, hg2, hg2l, _⟩ := hO2.where (by omega)
  have k0 := (hB2.block _ (lt_of_heap f0.out)).trans f0.out
  have k1 := (hB2.block _ (lt_of_heap f1.out)).trans f1.out
  have k2 := (hB2.block _ (lt_of_heap f2.out)).trans f2.out
  have k3 := (hB2.block _ (lt_of_heap f3.out)).trans f3.out
  have hbl2 : Hid (Below w.heap.size w w2) := hbl1.out.trans (hB2.mono hbl1.out.size)
  have h2free := wfree k0 2
  have h2cell : w2.cell? ⟨w.heap.size, 2, none⟩ = some (.slice q n c) := wcell (cs := [_, _, _]) k0 2
  have m0 := wset k0 2 (.slice (some ⟨g2, 0, none⟩) n c2)
  have hsz2 : w1.heap.size ≤ w2.heap.size := hB2.size
  have hmm := @run_makeMap Try.prog
  have p0 := (Below.heap_alloc (w2.setCell ⟨w.heap.size, 2, none⟩ (.slice (some ⟨g2, 0, none⟩) n c2)) (.map #[] 0) w.heap.size (lt_of_heap m0)).trans m0
  have q1 := (wset_ne (w := w2) (b := w.heap.size + 1) ⟨w.heap.size, 2, none⟩ (.slice (some ⟨g2, 0, none⟩) n c2) (by simp)).trans k1
  have q2 := (wset_ne (w := w2) (b := w.heap.size + 2) ⟨w.heap.size, 2, none⟩ (.slice (some ⟨g2, 0, none⟩) n c2) (by simp)).trans k2
  have q3 := (wset_ne (w := w2) (b := w.heap.size + 3) ⟨w.heap.size, 2, none⟩ (.slice (some ⟨g2, 0, none⟩) n c2) (by simp)).trans k3
  have p1 := (Below.heap_alloc (w2.setCell ⟨w.heap.size, 2, none⟩ (.slice (some ⟨g2, 0, none⟩) n c2)) (.map #[] 0) _ (lt_of_heap q1)).trans q1
  have p2 := (Below.heap_alloc (w2.setCell ⟨w.heap.size, 2, none⟩ (.slice (some ⟨g2, 0, none⟩) n c2)) (.map #[] 0) _ (lt_of_heap q2)).trans q2
  have p3 := (Below.heap_alloc (w2.setCell ⟨w.heap.size, 2, none⟩ (.slice (some ⟨g2, 0, none⟩) n c2)) (.map #[] 0) _ (lt_of_heap q3)).trans q3
  have hO3 : Own 3 (w.heap.size + 4) ((w2.setCell ⟨w.heap.size, 2, none⟩ (.slice (some ⟨g2, 0, none⟩) n c2)).alloc (.map #[] 0)) (some ⟨g2, 0, none⟩) n c2 (asI s) := ((hO2.keep (w' := w2.setCell ⟨w.heap.size, 2, none⟩ (.slice (some ⟨g2, 0, none⟩) n c2)) fun x hx => Below.heap_setCell w2 _ _ _ (by cases hx; simp; omega)).alloc _).mono hsz1
  have hSn : SeenM n ((w2.setCell ⟨w.heap.size, 2, none⟩ (.slice (some ⟨g2, 0, none⟩) n c2)).alloc (.map #[] 0)) w2.heap.size [] := by
    have := seen_made n (w2.setCell ⟨w.heap.size, 2, none⟩ (.slice (some ⟨g2, 0, none⟩) n c2))
    simpa [World.setCell] using this
  have hbl3 : Below w.heap.size w ((w2.setCell ⟨w.heap.size, 2, none⟩ (.slice (some ⟨g2, 0, none⟩) n c2)).alloc (.map #[] 0)) := (hbl2.out.setCell (p := ⟨w.heap.size, 2, none⟩) (Nat.le_refl _) _).alloc (by simpa [World.setCell] using hbl2.out.size) _
  have hM3 : Hid (PlM w ((w2.setCell ⟨w.heap.size, 2, none⟩ (.slice (some ⟨g2, 0, none⟩) n c2)).alloc (.map #[] 0)) w.heap.size g2 c2 w2.heap.size a b n ⟨s, 0, 0, [], 0⟩) := ⟨p0, p1, p2, p3, hO3, hSn, by omega, hbl3⟩
  have hsz3 : w.heap.size ≤ ((w2.setCell ⟨w.heap.size, 2, none⟩ (.slice (some ⟨g2, 0, none⟩) n c2)).alloc (.map #[] 0)).heap.size := hbl3.size
  have HA1 := Lib.hid (HA.out ((w2.setCell ⟨w.heap.size, 2, none⟩ (.slice (some ⟨g2, 0, none⟩) n c2)).alloc (.map #[] 0)) a b c2 w2.heap.size (some ⟨g2, 0, none⟩) s [] hn hO3.in hs.out hSn (by simp))
  have x0 : ((w2.setCell ⟨w.heap.size, 2, none⟩ (.slice (some ⟨g2, 0, none⟩) n c2)).alloc (.map #[] 0)).cell? ⟨w.heap.size, 0, none⟩ = some (.int .i64 (a : Int)) := wcell (cs := [_, _, _]) p0 0
  have x1 : ((w2.setCell ⟨w.heap.size, 2, none⟩ (.slice (some ⟨g2, 0, none⟩) n c2)).alloc (.map #[] 0)).cell? ⟨w.heap.size, 1, none⟩ = some (.int .i64 (b : Int)) := wcell (cs := [_, _, _]) p0 1
  have x2 : ((w2.setCell ⟨w.heap.size, 2, none⟩ (.slice (some ⟨g2, 0, none⟩) n c2)).alloc (.map #[] 0)).cell? ⟨w.heap.size, 2, none⟩ = some (.slice (some ⟨g2, 0, none⟩) n c2) := wcell (cs := [_, _, _]) p0 2
  clear p0 q1 q2 q3 p1 p2 p3 hO3 hSn hbl3
  replace k1 := Lib.hid k1; replace k2 := Lib.hid k2; replace k3 := Lib.hid k3; replace hO2 := Lib.hid hO2; replace k0 := Lib.hid k0; replace m0 := Lib.hid m0
  clear HC1 hB2 d2 f0 f1 f2 f3
  go_wp2_with fail
  refine HA1.out.mono ?_
  rintro e w5 ⟨rfl, hS5, hg5⟩
  have hM5 : Hid (PlM w w5 w.heap.size g2 c2 w2.heap.size a b n ⟨s, 0, 0, [s], 0⟩) := hM3.out.grown hn1 hg5 hsz3 (hS5 (by simp))
  obtain ⟨mb, hmb⟩ : ∃ mb, mb = w2.heap.size := ⟨_, rfl⟩
  rw [← hmb] at hM5
  rw [← hmb]
  replace hmb := Lib.hid hmb
  clear x0 x1 x2 HA1 hM3 hS5 hg5 hsz3 k0 k1 k2 k3 m0 hmm h2cell h2free hO2
  go_wp2_with fail
  go_loopg [10, 38] len (fun gk pv kv W' => ∃ (k : Nat) (z : Ps) (g2 c2 : Nat), k ≤ len ∧ gk = len - k ∧ kv = .int .i64 k ∧ pv = .int .i64 (z.ps : Int) ∧ PlM w W' w.heap.size g2 c2 mb a b n z ∧ Bd n z.s ∧ z.ps ≤ 2 ∧ z.ks.length ≤ k + 1 ∧ z.t0 ≤ 100 * k ∧ z.t1 ≤ 100 * k ∧ Z = playF a (l.drop k) k z)
  case atStart => exact ⟨0, ⟨s, 0, 0, [s], 0⟩, g2, c2, Nat.zero_le _, rfl, rfl, rfl, hM5.out, ⟨hsl.out, hs.out⟩, Nat.zero_le _, by simp, Nat.zero_le _, Nat.zero_le _, hZ.out⟩
  case round =>
    obtain ⟨k, z, g2, c2, hk, hgk, rfl, rfl, hMk, hBd, hps, hks, ht0, ht1, hZk⟩ := hrel
    obtain ⟨W1, rfl⟩ : ∃ W1 : World, W1 = wr := ⟨_, rfl⟩
    replace hgk := Lib.hid hgk
    clear hM5 hZ
    have hBW := hMk.bl.size
    have hgb := hMk.gne hn1
    have x0 : W1.cell? ⟨w.heap.size, 0, none⟩ = some (.int .i64 (a : Int)) := wcell (cs := [_, _, _]) hMk.bx 0
    have x1 : W1.cell? ⟨w.heap.size, 1, none⟩ = some (.int .i64 (b : Int)) := wcell (cs := [_, _, _]) hMk.bx 1
    have x2 : W1.cell? ⟨w.heap.size, 2, none⟩ = some (.slice (some ⟨g2, 0, none⟩) n c2) := wcell (cs := [_, _, _]) hMk.bx 2
    have y0 : W1.cell? ⟨w.heap.size + 3, 0, none⟩ = some (.int .i64 (z.t0 : Int)) := wcell (cs := [_, _]) hMk.tk 0
    have y1 : W1.cell? ⟨w.heap.size + 3, 1, none⟩ = some (.int .i64 (z.t1 : Int)) := wcell (cs := [_, _]) hMk.tk 1
    have r0 : W1.cell? ⟨w.heap.size + 1, 0, none⟩ = some (.int .i64 0) := wcell (cs := [_, _, _]) hMk.r1 0
    have r1 : W1.cell? ⟨w.heap.size + 1, 1, none⟩ = some (.int .i64 0) := wcell (cs := [_, _, _]) hMk.r1 1
    have r2 : W1.cell? ⟨w.heap.size + 1, 2, none⟩ = some (.slice none 0 0) := wcell (cs := [_, _, _]) hMk.r1 2
    have r3 : W1.cell? ⟨w.heap.size + 2, 0, none⟩ = some (.int .i64 0) := wcell (cs := [_, _]) hMk.r2 0
    have r4 : W1.cell? ⟨w.heap.size + 2, 1, none⟩ = some (.int .i64 0) := wcell (cs := [_, _]) hMk.r2 1
    have v0 := wfree hMk.r1 0
    have v1 := wfree hMk.r1 1
    have v2 := wfree hMk.r1 2
    have v3 := wfree hMk.r2 0
    have v4 := wfree hMk.r2 1
    by_cases hlt : k < len
    · obtain ⟨lb, lo, rfl, _, hc⟩ := (hl.out.below hMk.bl).at (by omega)
      have d3 := hc k hlt
      have hZs := hZk
      rw [playF_step a (by rw [hll.out]; exact hlt) z] at hZs
      generalize l[k]?.getD 0 = x at *
      have f1 : (0 : Int) ≤ (k : Int) := by omega
      have f2 : (k : Int) < (len : Int) := by omega
      clear hc
      by_cases hp2 : z.ps = 2
      · have hst : Hid (plStep a z k x = (z, 9)) := by show _ = _; unfold plStep; rw [if_pos hp2]
        rw [hst.out, if_neg (by simp)] at hZs
        replace hMk := Lib.hid hMk; replace hZs := Lib.hid hZs; replace hZk := Lib.hid hZk; replace hBd := Lib.hid hBd
        rw [hp2]
        go_wp2_with fail
        go_region
        obtain ⟨t1, t2, t3, t4⟩ := hMk.out.low.fin
        have u0 := Lib.hid (wcell (cs := [_, _, _]) t1 0)
        have u1 := Lib.hid (wcell (cs := [_, _, _]) t1 1)
        have u2 := Lib.hid (wcell (cs := [_, _, _]) t1 2)
        have u3 := Lib.hid (wcell (cs := [_, _]) t2 0)
        have u4 := Lib.hid (wcell (cs := [_, _]) t2 1)
        replace t1 := Lib.hid t1; replace t2 := Lib.hid t2; replace t3 := Lib.hid t3; replace t4 := Lib.hid t4
        go_wp2_with fail
        refine bodyPost_ret (v := .tuple #[.agg #[.int .i64 (a : Int), .int .i64 (b : Int), .slice (some ⟨g2, 0, none⟩) n c2], .agg #[.int .i64 (z.t0 : Int), .int .i64 (z.t1 : Int)], .int .i64 (k : Nat), .int .i64 9]) (by simp [results, Try.results6, go_sem, u0.out, u1.out, u2.out, u3.out, u4.out]) rfl ⟨⟨g2, c2, by rw [hZs.out]; rfl, by rw [hZs.out]; exact t3.out⟩, t4.out⟩
      · by_cases hm1 : x = -1
        · subst hm1
          have hst : Hid (plStep a z k (-1) = ({ z with ps := z.ps + 1 }, 0)) := by show _ = _; unfold plStep; rw [if_neg hp2, if_pos rfl]
          rw [hst.out, if_pos rfl] at hZs
          have hpi : ¬ ((z.ps : Nat) : Int) = 2 := by omega
          have hpw : IntKind.i64.wrap (((z.ps : Nat) : Int) + 1) = ((z.ps + 1 : Nat) : Int) := by rw [IntWalk.i64_in _ (by omega)]; push_cast; rfl
          replace hMk := Lib.hid hMk; replace hZs := Lib.hid hZs; replace hBd := Lib.hid hBd; replace hst := Lib.hid hst
          clear x0 x1 x2 y0 y1 r0 r1 r2 r3 r4 v0 v1 v2 v3 v4
          go_wp2_with fail
          have hgk := hgk.out
          go_roundg (len - (k + 1))
          case measure => omega
          case rel => exact ⟨k + 1, { z with ps := z.ps + 1 }, g2, c2, by omega, rfl, by go_num, by go_num, hMk.out.pass _, hBd.out, by show z.ps + 1 ≤ 2; omega, by show z.ks.length ≤ _; omega, by show z.t0 ≤ _; omega, by show z.t1 ≤ _; omega, hZs.out⟩
        · have hpi : ¬ ((z.ps : Nat) : Int) = 2 := by omega
          obtain ⟨r, hr⟩ : ∃ r, r = k % 2 := ⟨_, rfl⟩
          have hr2 : r < 2 := by omega
          have kb : bits BinOp.and IntKind.i64 (k : Int) 1 = (r : Int) := by rw [and_one (by omega), hr]
          obtain ⟨who, hwho⟩ : ∃ who, who = 1 + r := ⟨_, rfl⟩
          have k4 : IntKind.i64.wrap (1 + (r : Int)) = (who : Int) := by rw [IntWalk.i64_in _ (by omega)]; omega
          have k5 : (1 : Int) + (r : Int) = (who : Int) := by omega
          have k6 : IntKind.i64.wrap (who : Int) = (who : Int) := IntWalk.i64_in _ (by omega)
          have k3 : IntKind.i64.wrap (r : Int) = (r : Int) := IntWalk.i64_in _ (by omega)
          have hw : Hid (who = 1 ∨ who = 2) := by show _ ∨ _; omega
          have hr' := Lib.hid hr; have hwho' := Lib.hid hwho
          clear hr hwho
          by_cases hout : x < 0 ∨ (n : Int) ≤ x
          · have hst : Hid (plStep a z k x = (z, 3)) := by show _ = _; unfold plStep; rw [if_neg hp2, if_neg hm1, if_pos (by rw [hBd.1]; exact hout)]
            rw [hst.out, if_neg (by simp)] at hZs
            have HP := Lib.hid (put_out a b n c2 (some ⟨g2, 0, none⟩) who x W1 hout)
            replace hMk := Lib.hid hMk; replace hZs := Lib.hid hZs; replace hZk := Lib.hid hZk; replace hBd := Lib.hid hBd; replace hout := Lib.hid hout
            go_wp2_with fail
            refine HP.out.mono ?_
            rintro e w3 ⟨rfl, hB3⟩
            have hM3 := hMk.out.below (hB3.alloc hB3.size (.cells #[.int .i64 0, .int .i64 0, .slice none 0 0] 24)) hBW
            clear x0 x1 x2 y0 y1 r0 r1 r2 r3 r4 v0 v1 v2 v3 v4
            have x0 : (w3.alloc (.cells #[.int .i64 0, .int .i64 0, .slice none 0 0] 24)).cell? ⟨w.heap.size, 0, none⟩ = some (.int .i64 (a : Int)) := wcell (cs := [_, _, _]) hM3.bx 0
            have x1 : (w3.alloc (.cells #[.int .i64 0, .int .i64 0, .slice none 0 0] 24)).cell? ⟨w.heap.size, 1, none⟩ = some (.int .i64 (b : Int)) := wcell (cs := [_, _, _]) hM3.bx 1
            have x2 : (w3.alloc (.cells #[.int .i64 0, .int .i64 0, .slice none 0 0] 24)).cell? ⟨w.heap.size, 2, none⟩ = some (.slice (some ⟨g2, 0, none⟩) n c2) := wcell (cs := [_, _, _]) hM3.bx 2
            have y0 : (w3.alloc (.cells #[.int .i64 0, .int .i64 0, .slice none 0 0] 24)).cell? ⟨w.heap.size + 3, 0, none⟩ = some (.int .i64 (z.t0 : Int)) := wcell (cs := [_, _]) hM3.tk 0
            have y1 : (w3.alloc (.cells #[.int .i64 0, .int .i64 0, .slice none 0 0] 24)).cell? ⟨w.heap.size + 3, 1, none⟩ = some (.int .i64 (z.t1 : Int)) := wcell (cs := [_, _]) hM3.tk 1
            have r0 : (w3.alloc (.cells #[.int .i64 0, .int .i64 0, .slice none 0 0] 24)).cell? ⟨w.heap.size + 1, 0, none⟩ = some (.int .i64 0) := wcell (cs := [_, _, _]) hM3.r1 0
            have r1 : (w3.alloc (.cells #[.int .i64 0, .int .i64 0, .slice none 0 0] 24)).cell? ⟨w.heap.size + 1, 1, none⟩ = some (.int .i64 0) := wcell (cs := [_, _, _]) hM3.r1 1
            have r2 : (w3.alloc (.cells #[.int .i64 0, .int .i64 0, .slice none 0 0] 24)).cell? ⟨w.heap.size + 1, 2, none⟩ = some (.slice none 0 0) := wcell (cs := [_, _, _]) hM3.r1 2
            have r3 : (w3.alloc (.cells #[.int .i64 0, .int .i64 0, .slice none 0 0] 24)).cell? ⟨w.heap.size + 2, 0, none⟩ = some (.int .i64 0) := wcell (cs := [_, _]) hM3.r2 0
            have r4 : (w3.alloc (.cells #[.int .i64 0, .int .i64 0, .slice none 0 0] 24)).cell? ⟨w.heap.size + 2, 1, none⟩ = some (.int .i64 0) := wcell (cs := [_, _]) hM3.r2 1
            have v0 := wfree hM3.r1 0
            have v1 := wfree hM3.r1 1
            have v2 := wfree hM3.r1 2
            have v3 := wfree hM3.r2 0
            have v4 := wfree hM3.r2 1
            replace hM3 := Lib.hid hM3
            clear HP hB3
            go_wp2_with fail
            go_region
            obtain ⟨t1, t2, t3, t4⟩ := hM3.out.low.fin
            have u0 := Lib.hid (wcell (cs := [_, _, _]) t1 0)
            have u1 := Lib.hid (wcell (cs := [_, _, _]) t1 1)
            have u2 := Lib.hid (wcell (cs := [_, _, _]) t1 2)
            have u3 := Lib.hid (wcell (cs := [_, _]) t2 0)
            have u4 := Lib.hid (wcell (cs := [_, _]) t2 1)
            replace t1 := Lib.hid t1; replace t2 := Lib.hid t2; replace t3 := Lib.hid t3; replace t4 := Lib.hid t4
            go_wp2_with fail
            refine bodyPost_ret (v := .tuple #[.agg #[.int .i64 (a : Int), .int .i64 (b : Int), .slice (some ⟨g2, 0, none⟩) n c2], .agg #[.int .i64 (z.t0 : Int), .int .i64 (z.t1 : Int)], .int .i64 (k : Nat), .int .i64 3]) (by simp [results, Try.results6, go_sem, u0.out, u1.out, u2.out, u3.out, u4.out]) rfl ⟨⟨g2, c2, by rw [hZs.out]; rfl, by rw [hZs.out]; exact t3.out⟩, t4.out⟩
          · obtain ⟨p, rfl⟩ : ∃ p : Nat, x = p := ⟨x.toNat, by omega⟩
            have hp : p < n := by omega
            have HP := Lib.hid (put_any a b n c2 p (some ⟨g2, 0, none⟩) z.s who W1 ha1 ha hnab hn hp hMk.row.in hBd.2 hw.out)
            have hRb := putS_err z.s a who p
            have hRd : Hid ((putS z.s a who p).2.2 = 0 → Bd n (putS z.s a who p).1 ∧ (putS z.s a who p).2.1 ≤ n) := fun h => by rw [hnab.out]; exact put_bd (by rw [hBd.1, hnab.out]) (by rw [hBd.1]; exact hp) hw.out hBd.2 h
            have hst : Hid (plStep a z k (p : Int) = if (putS z.s a who p).2.2 ≠ 0 then (z, (putS z.s a who p).2.2) else if (putS z.s a who p).1 ∈ z.ks then (z, 8) else (z.next k (putS z.s a who p), 0)) := by
              show _ = _; unfold plStep; rw [if_neg hp2, if_neg hm1, if_neg (by rw [hBd.1]; omega), hwho'.out, hr'.out]; rfl
            generalize putS z.s a who p = R at *
            replace hMk := Lib.hid hMk; replace hZk := Lib.hid hZk; replace hBd := Lib.hid hBd; replace hout := Lib.hid hout; replace hZs := Lib.hid hZs; replace hst := Lib.hid hst.out
            by_cases hR0 : R.2.2 = 0
            · obtain ⟨hRB, hRt⟩ := hRd.out hR0
              replace hRB := Lib.hid hRB
              go_wp2_with fail
              refine HP.out.mono ?_
              rintro e w3 ⟨hP3, hB3⟩
              rcases hP3 with ⟨h5, _⟩ | ⟨_, g3, c3, rfl, hO3⟩
              · exfalso; omega
              have hsz3 := hB3.size
              have hM4 := hMk.out.below (hB3.alloc hB3.size (.cells #[.int .i64 (a : Int), .int .i64 (b : Int), .slice (some ⟨g3, 0, none⟩) n c3] 24)) hBW
              have hO4 := (hO3.alloc (.cells #[.int .i64 (a : Int), .int .i64 (b : Int), .slice (some ⟨g3, 0, none⟩) n c3] 24)).mono (show w.heap.size + 4 ≤ W1.heap.size by have := lt_of_heap hMk.out.tk; omega)
              have e13 := heap_alloc_new w3 (.cells #[.int .i64 (a : Int), .int .i64 (b : Int), .slice (some ⟨g3, 0, none⟩) n c3] 24)
              have b0 : (w3.alloc (.cells #[.int .i64 (a : Int), .int .i64 (b : Int), .slice (some ⟨g3, 0, none⟩) n c3] 24)).cell? ⟨w3.heap.size, 0, none⟩ = some (.int .i64 (a : Int)) := wcell (cs := [_, _, _]) e13 0
              have b1 : (w3.alloc (.cells #[.int .i64 (a : Int), .int .i64 (b : Int), .slice (some ⟨g3, 0, none⟩) n c3] 24)).cell? ⟨w3.heap.size, 1, none⟩ = some (.int .i64 (b : Int)) := wcell (cs := [_, _, _]) e13 1
              have b2 : (w3.alloc (.cells #[.int .i64 (a : Int), .int .i64 (b : Int), .slice (some ⟨g3, 0, none⟩) n c3] 24)).cell? ⟨w3.heap.size, 2, none⟩ = some (.slice (some ⟨g3, 0, none⟩) n c3) := wcell (cs := [_, _, _]) e13 2
              have HA2 := Lib.hid (HA.out (w3.alloc (.cells #[.int .i64 (a : Int), .int .i64 (b : Int), .slice (some ⟨g3, 0, none⟩) n c3] 24)) a b c3 mb (some ⟨g3, 0, none⟩) R.1 z.ks hn hO4.in hRB.out.2 hM4.mp (by omega))
              have hmb3 : Hid (mb < w3.heap.size) := Nat.lt_of_lt_of_le hMk.out.mp.lt hB3.size
              replace hM4 := Lib.hid hM4; replace hO4 := Lib.hid hO4; replace e13 := Lib.hid e13
              clear HP hB3 hO3 x0 x1 x2 y0 y1 r0 r1 r2 r3 r4 v0 v1 v2 v3 v4
              by_cases hin : R.1 ∈ z.ks
              · rw [if_pos hin] at HA2
                rw [if_neg (by simp [hR0]), if_pos hin] at hst
                have hZs := hZs.out
                rw [hst.out, if_neg (by simp)] at hZs
                replace hZs := Lib.hid hZs
                go_wp2_with fail
                refine HA2.out.mono ?_
                rintro e w5 ⟨rfl, _, hg5⟩
                have hM5 := hM4.out.grown0 hn1 hg5 (by simp; omega)
                have x0 : w5.cell? ⟨w.heap.size, 0, none⟩ = some (.int .i64 (a : Int)) := wcell (cs := [_, _, _]) hM5.bx 0
                have x1 : w5.cell? ⟨w.heap.size, 1, none⟩ = some (.int .i64 (b : Int)) := wcell (cs := [_, _, _]) hM5.bx 1
                have x2 : w5.cell? ⟨w.heap.size, 2, none⟩ = some (.slice (some ⟨g2, 0, none⟩) n c2) := wcell (cs := [_, _, _]) hM5.bx 2
                have y0 : w5.cell? ⟨w.heap.size + 3, 0, none⟩ = some (.int .i64 (z.t0 : Int)) := wcell (cs := [_, _]) hM5.tk 0
                have y1 : w5.cell? ⟨w.heap.size + 3, 1, none⟩ = some (.int .i64 (z.t1 : Int)) := wcell (cs := [_, _]) hM5.tk 1
                have r0 : w5.cell? ⟨w.heap.size + 1, 0, none⟩ = some (.int .i64 0) := wcell (cs := [_, _, _]) hM5.r1 0
                have r1 : w5.cell? ⟨w.heap.size + 1, 1, none⟩ = some (.int .i64 0) := wcell (cs := [_, _, _]) hM5.r1 1
                have r2 : w5.cell? ⟨w.heap.size + 1, 2, none⟩ = some (.slice none 0 0) := wcell (cs := [_, _, _]) hM5.r1 2
                have r3 : w5.cell? ⟨w.heap.size + 2, 0, none⟩ = some (.int .i64 0) := wcell (cs := [_, _]) hM5.r2 0
                have r4 : w5.cell? ⟨w.heap.size + 2, 1, none⟩ = some (.int .i64 0) := wcell (cs := [_, _]) hM5.r2 1
                have v0 := wfree hM5.r1 0
                have v1 := wfree hM5.r1 1
                have v2 := wfree hM5.r1 2
                have v3 := wfree hM5.r2 0
                have v4 := wfree hM5.r2 1
                replace hM5 := Lib.hid hM5
                clear HA2 hg5 b0 b1 b2
                go_wp2_with fail
                go_region
                obtain ⟨t1, t2, t3, t4⟩ := hM5.out.fin
                have u0 := Lib.hid (wcell (cs := [_, _, _]) t1 0)
                have u1 := Lib.hid (wcell (cs := [_, _, _]) t1 1)
                have u2 := Lib.hid (wcell (cs := [_, _, _]) t1 2)
                have u3 := Lib.hid (wcell (cs := [_, _]) t2 0)
                have u4 := Lib.hid (wcell (cs := [_, _]) t2 1)
                replace t1 := Lib.hid t1; replace t2 := Lib.hid t2; replace t3 := Lib.hid t3; replace t4 := Lib.hid t4
                go_wp2_with fail
                refine bodyPost_ret (v := .tuple #[.agg #[.int .i64 (a : Int), .int .i64 (b : Int), .slice (some ⟨g2, 0, none⟩) n c2], .agg #[.int .i64 (z.t0 : Int), .int .i64 (z.t1 : Int)], .int .i64 (k : Nat), .int .i64 8]) (by simp [results, Try.results6, go_sem, u0.out, u1.out, u2.out, u3.out, u4.out]) rfl ⟨⟨g2, c2, by rw [hZs.out]; rfl, by rw [hZs.out]; exact t3.out⟩, t4.out⟩
              · rw [if_neg hin] at HA2
                rw [if_neg (by simp [hR0]), if_neg hin] at hst
                have hZs := hZs.out
                rw [hst.out, if_pos rfl] at hZs
                replace hZs := Lib.hid hZs
                obtain ⟨tr, htr⟩ : ∃ tr, tr = if r = 0 then z.t0 else z.t1 := ⟨_, rfl⟩
                have htr1 : tr ≤ 100 * k := by rw [htr]; split <;> assumption
                have htw : IntKind.i64.wrap ((tr : Int) + (R.2.1 : Nat)) = ((tr + R.2.1 : Nat) : Int) := by rw [IntWalk.i64_in _ (by omega)]; push_cast; rfl
                go_wp2_with fail
                refine HA2.out.mono ?_
                rintro e w5 ⟨rfl, hS5, hg5⟩
                have hM5 := hM4.out.grown hn1 hg5 (by simp; omega) (hS5 hin)
                have hO5 := hO4.out.grown hg5 (fun x hx e => by cases hx; injection e with e; have := (hO4.out.block _ rfl); subst e; exact hM4.out.mp.notRow (Own.cell hO4.out (i := 0) hn1))
                have e135 := (hg5.block _ (lt_of_heap e13.out) (fun e => by injection e with e; have := hmb3.out; omega)).trans e13.out
                have b0 : w5.cell? ⟨w3.heap.size, 0, none⟩ = some (.int .i64 (a : Int)) := wcell (cs := [_, _, _]) e135 0
                have b1 : w5.cell? ⟨w3.heap.size, 1, none⟩ = some (.int .i64 (b : Int)) := wcell (cs := [_, _, _]) e135 1
                have b2 : w5.cell? ⟨w3.heap.size, 2, none⟩ = some (.slice (some ⟨g3, 0, none⟩) n c3) := wcell (cs := [_, _, _]) e135 2
                have x0 : w5.cell? ⟨w.heap.size, 0, none⟩ = some (.int .i64 (a : Int)) := wcell (cs := [_, _, _]) hM5.bx 0
                have x1 : w5.cell? ⟨w.heap.size, 1, none⟩ = some (.int .i64 (b : Int)) := wcell (cs := [_, _, _]) hM5.bx 1
                have x2 : w5.cell? ⟨w.heap.size, 2, none⟩ = some (.slice (some ⟨g2, 0, none⟩) n c2) := wcell (cs := [_, _, _]) hM5.bx 2
                have yr : w5.cell? ⟨w.heap.size + 3, r, none⟩ = some (.int .i64 (tr : Int)) := by
                  rcases Nat.lt_or_ge r 1 with h | h
                  · have e : r = 0 := by omega
                    rw [e, htr, if_pos e]; exact wcell (cs := [_, _]) hM5.tk 0
                  · have e : r = 1 := by omega
                    rw [e, htr, if_neg (by omega)]; exact wcell (cs := [_, _]) hM5.tk 1
                have v0 := wfree hM5.bx 0
                have v1 := wfree hM5.bx 1
                have v2 := wfree hM5.bx 2
                have v3 := wfree hM5.tk r
                have hM6 := Lib.hid (hM5.moved hr2 hO5 (t := tr + R.2.1) (z.next k R) rfl rfl (by rw [htr, hr'.out]; unfold Ps.next; simp only; split <;> rfl) (by rw [htr, hr'.out]; unfold Ps.next; simp only; split <;> rfl))
                have f3 : (0 : Int) ≤ (r : Int) := by omega
                have f4 : (r : Int) < 2 := by omega
                have hnx : Hid ((z.next k R).t0 ≤ 100 * (k + 1) ∧ (z.next k R).t1 ≤ 100 * (k + 1) ∧ (z.next k R).ks.length ≤ k + 1 + 1) := by
                  show _ ∧ _ ∧ _
                  unfold Ps.next
                  refine ⟨?_, ?_, by simp; omega⟩ <;> simp only <;> split <;> omega
                replace hM5 := Lib.hid hM5; replace hO5 := Lib.hid hO5; replace e135 := Lib.hid e135; replace htr := Lib.hid htr; replace hS5 := Lib.hid hS5
                clear HA2 hg5
                go_wp2_with fail
                have hgk := hgk.out
                go_roundg (len - (k + 1))
                case measure => omega
                case rel => exact ⟨k + 1, z.next k R, g3, c3, by omega, rfl, by go_num, rfl, hM6.out, hRB.out, by simp [Ps.next], hnx.out.2.2, hnx.out.1, hnx.out.2.1, hZs.out⟩
            · rw [if_pos hR0] at hst
              have hZs := hZs.out
              rw [hst.out, if_neg hR0] at hZs
              replace hZs := Lib.hid hZs
              have hRn : ¬ ((R.2.2 : Nat) : Int) = 0 := by omega
              go_wp2_with fail
              refine HP.out.mono ?_
              rintro e w3 ⟨hP3, hB3⟩
              rcases hP3 with ⟨_, rfl⟩ | ⟨h5, _⟩
              rotate_left
              · exact absurd h5 hR0
              have hM3 := hMk.out.below (hB3.alloc hB3.size (.cells #[.int .i64 0, .int .i64 0, .slice none 0 0] 24)) hBW
              clear x0 x1 x2 y0 y1 r0 r1 r2 r3 r4 v0 v1 v2 v3 v4
              have x0 : (w3.alloc (.cells #[.int .i64 0, .int .i64 0, .slice none 0 0] 24)).cell? ⟨w.heap.size, 0, none⟩ = some (.int .i64 (a : Int)) := wcell (cs := [_, _, _]) hM3.bx 0
              have x1 : (w3.alloc (.cells #[.int .i64 0, .int .i64 0, .slice none 0 0] 24)).cell? ⟨w.heap.size, 1, none⟩ = some (.int .i64 (b : Int)) := wcell (cs := [_, _, _]) hM3.bx 1
              have x2 : (w3.alloc (.cells #[.int .i64 0, .int .i64 0, .slice none 0 0] 24)).cell? ⟨w.heap.size, 2, none⟩ = some (.slice (some ⟨g2, 0, none⟩) n c2) := wcell (cs := [_, _, _]) hM3.bx 2
              have y0 : (w3.alloc (.cells #[.int .i64 0, .int .i64 0, .slice none 0 0] 24)).cell? ⟨w.heap.size + 3, 0, none⟩ = some (.int .i64 (z.t0 : Int)) := wcell (cs := [_, _]) hM3.tk 0
              have y1 : (w3.alloc (.cells #[.int .i64 0, .int .i64 0, .slice none 0 0] 24)).cell? ⟨w.heap.size + 3, 1, none⟩ = some (.int .i64 (z.t1 : Int)) := wcell (cs := [_, _]) hM3.tk 1
              have r0 : (w3.alloc (.cells #[.int .i64 0, .int .i64 0, .slice none 0 0] 24)).cell? ⟨w.heap.size + 1, 0, none⟩ = some (.int .i64 0) := wcell (cs := [_, _, _]) hM3.r1 0
              have r1 : (w3.alloc (.cells #[.int .i64 0, .int .i64 0, .slice none 0 0] 24)).cell? ⟨w.heap.size + 1, 1, none⟩ = some (.int .i64 0) := wcell (cs := [_, _, _]) hM3.r1 1
              have r2 : (w3.alloc (.cells #[.int .i64 0, .int .i64 0, .slice none 0 0] 24)).cell? ⟨w.heap.size + 1, 2, none⟩ = some (.slice none 0 0) := wcell (cs := [_, _, _]) hM3.r1 2
              have r3 : (w3.alloc (.cells #[.int .i64 0, .int .i64 0, .slice none 0 0] 24)).cell? ⟨w.heap.size + 2, 0, none⟩ = some (.int .i64 0) := wcell (cs := [_, _]) hM3.r2 0
              have r4 : (w3.alloc (.cells #[.int .i64 0, .int .i64 0, .slice none 0 0] 24)).cell? ⟨w.heap.size + 2, 1, none⟩ = some (.int .i64 0) := wcell (cs := [_, _]) hM3.r2 1
              have v0 := wfree hM3.r1 0
              have v1 := wfree hM3.r1 1
              have v2 := wfree hM3.r1 2
              have v3 := wfree hM3.r2 0
              have v4 := wfree hM3.r2 1
              replace hM3 := Lib.hid hM3
              clear HP hB3 hRd
              go_wp2_with fail
              go_region
              obtain ⟨t1, t2, t3, t4⟩ := hM3.out.low.fin
              have u0 := Lib.hid (wcell (cs := [_, _, _]) t1 0)
              have u1 := Lib.hid (wcell (cs := [_, _, _]) t1 1)
              have u2 := Lib.hid (wcell (cs := [_, _, _]) t1 2)
              have u3 := Lib.hid (wcell (cs := [_, _]) t2 0)
              have u4 := Lib.hid (wcell (cs := [_, _]) t2 1)
              replace t1 := Lib.hid t1; replace t2 := Lib.hid t2; replace t3 := Lib.hid t3; replace t4 := Lib.hid t4
              go_wp2_with fail
              refine bodyPost_ret (v := .tuple #[.agg #[.int .i64 (a : Int), .int .i64 (b : Int), .slice (some ⟨g2, 0, none⟩) n c2], .agg #[.int .i64 (z.t0 : Int), .int .i64 (z.t1 : Int)], .int .i64 (k : Nat), .int .i64 (R.2.2 : Nat)]) (by simp [results, Try.results6, go_sem, u0.out, u1.out, u2.out, u3.out, u4.out]) rfl ⟨⟨g2, c2, by rw [hZs.out], by rw [hZs.out]; exact t3.out⟩, t4.out⟩
    · have hke : k = len := by omega
      subst hke
      have hZe : Hid (Z = (z, k, 0)) := by
        show _ = _
        rw [hZk]
        have := playF_end a l z
        rw [hll.out] at this
        exact this
      replace hMk := Lib.hid hMk; replace hZk := Lib.hid hZk; replace hBd := Lib.hid hBd
      have f2 : ¬ (k : Int) < (k : Int) := by omega
      go_wp2_with fail
      go_region
      obtain ⟨t1, t2, t3, t4⟩ := hMk.out.low.fin
      have u0 := Lib.hid (wcell (cs := [_, _, _]) t1 0)
      have u1 := Lib.hid (wcell (cs := [_, _, _]) t1 1)
      have u2 := Lib.hid (wcell (cs := [_, _, _]) t1 2)
      have u3 := Lib.hid (wcell (cs := [_, _]) t2 0)
      have u4 := Lib.hid (wcell (cs := [_, _]) t2 1)
      replace t1 := Lib.hid t1; replace t2 := Lib.hid t2; replace t3 := Lib.hid t3; replace t4 := Lib.hid t4
      go_wp2_with fail
      refine bodyPost_ret (v := .tuple #[.agg #[.int .i64 (a : Int), .int .i64 (b : Int), .slice (some ⟨g2, 0, none⟩) n c2], .agg #[.int .i64 (z.t0 : Int), .int .i64 (z.t1 : Int)], .int .i64 (k : Nat), .int .i64 0]) (by simp [results, Try.results6, go_sem, u0.out, u1.out, u2.out, u3.out, u4.out]) rfl ⟨⟨g2, c2, by rw [hZe.out]; rfl, by rw [hZe.out]; exact t3.out⟩, t4.out⟩
end Go.Proofs.Ytefjliblaeadfaa
