/- Where stones.Alive stands in memory, and a scope in which the run jumps back to one label, with a ghost that falls; conditions: those typed. -/
import Derived.Test.YtefjliblaeadfaaVit
import Derived.Test.YtefjliblaeadfaaPa25
import Derived.Test.YtefjliblaeadfaaPa26
import Derived.WalkMore
import Derived.ScopeJumps
namespace Go.Proofs.Ytefjliblaeadfaa
open Go.RowKit

theorem wp_more {P : Program} {c : Code} {Q Q' : Exit → Act → World → Prop} {a : Act} {w : World} (h : c.wp P Q a w) (hq : ∀ e a w, Q e a w → Q' e a w) : c.wp P Q' a w := by
  intro b k cs
  obtain ⟨e, a1, w1, h1, h2⟩ := h b k cs
  exact ⟨e, a1, w1, hq _ _ _ h1, h2⟩
/-- a scope in which the run jumps back to one label: what holds at each jump, and a number that falls from jump to jump. -/
theorem wp_scope_ghost {P : Program} {a : Act} {w : World} {Q : Exit → Act → World → Prop} {c rest : Code} (l : Nat) (J : Nat → Act → World → Prop) (hf : findLabel c l = some (Code.skip.seq rest))
    (pass : ∀ g a w, J g a w → rest.wp P (Exit.jump l (fun a' w' => ∃ g', g' < g ∧ J g' a' w') Q) a w)
    (first : (∀ g a w, J g a w → rest.wp P (Exit.jump l (fun a' w' => ∃ g', J g' a' w') Q) a w) → c.wp P (Exit.jump l (fun a' w' => ∃ g', J g' a' w') Q) a w) : (Code.scope c).wp P Q a w := by
  have hlab : ∀ g a w, J g a w → rest.wp P (Exit.jump l (fun a' w' => ∃ g', J g' a' w') Q) a w := fun g a w hJ => wp_more (pass g a w hJ) fun e a w h => by
    cases e with
    | goto l' => obtain ⟨h1, g', _, h2⟩ := h; exact ⟨h1, g', h2⟩
    | normal => exact h
    | exit id => exact h
    | ret => exact h
    | panic ch => exact h
    | outgrown => exact h
  have pass2 : ∀ g a w, J g a w → (Code.skip.seq rest).wp P (Exit.jump l (fun a' w' => ∃ g', g' < g ∧ J g' a' w') Q) a w := fun g a w h => wp_seq (wp_skip (pass g a w h))
  intro b k cs
  have hg : gotoIn l (.inScope c :: k) = some (.code (Code.skip.seq rest) :: .inScope c :: k) := by simp [gotoIn, hf]
  have key : ∀ n a w, J n a w → ∃ e a' w', Q e a' w' ∧ Arrives P (lone (b.at a (.code (Code.skip.seq rest) :: .inScope c :: k)) cs w) b k cs e a' w' := by
    intro n
    induction n using Nat.strongRecOn with
    | _ n ih =>
      intro a w hJ
      obtain ⟨e, a1, w1, hq, harr⟩ := pass2 n a w hJ b (.inScope c :: k) cs
      cases e with
      | normal => exact ⟨.normal, a1, w1, hq, Steps.trans harr (.one step_inScope)⟩
      | exit id => exact ⟨.exit id, a1, w1, hq, fun k' hk => harr k' (by simp [exitTo, hk])⟩
      | goto l' =>
        obtain ⟨rfl, g', hlt, hJ'⟩ := hq
        obtain ⟨e2, a2, w2, hq2, harr2⟩ := ih g' hlt a1 w1 hJ'
        exact ⟨e2, a2, w2, hq2, .of_steps (harr _ hg) harr2⟩
      | ret => exact ⟨_, a1, w1, hq, harr⟩
      | panic ch => exact ⟨_, a1, w1, hq, harr⟩
      | outgrown => exact ⟨_, a1, w1, hq, harr⟩
  obtain ⟨e, a1, w1, hq, harr⟩ := first hlab b (.inScope c :: k) cs
  cases e with
  | normal => exact ⟨.normal, a1, w1, hq, .head step_scope (Steps.trans harr (.one step_inScope))⟩
  | exit id => exact ⟨.exit id, a1, w1, hq, fun k' hk => .head step_scope (harr k' (by simp [exitTo, hk]))⟩
  | goto l' =>
    obtain ⟨rfl, g', hJ'⟩ := hq
    obtain ⟨e2, a2, w2, hq2, harr2⟩ := key g' a1 w1 hJ'
    exact ⟨e2, a2, w2, hq2, .of_steps (.head step_scope (harr _ hg)) harr2⟩
  | ret => exact ⟨_, a1, w1, hq, .of_steps (.one step_scope) harr⟩
  | panic ch => exact ⟨_, a1, w1, hq, .of_steps (.one step_scope) harr⟩
  | outgrown => exact ⟨_, a1, w1, hq, .of_steps (.one step_scope) harr⟩
section
variable {B U : Nat} {W W' : World} {p : Option Addr} {m c : Nat} {ps : List Pt} {bs : List Nat} {u u' : List Bool}
theorem PtsM.flags (h : PtsM B U W p m c ps bs u) (hu : ∀ i, i < m → bAt u i = bAt u' i) : PtsM B U W p m c ps bs u' :=
  ⟨h.pl, h.bl, h.row, h.pu, fun i hi => by rw [← hu i hi]; exact h.blk i hi, h.nd⟩
/-- a part is struck out. -/
theorem PtsM.strike (h : PtsM B U W p m c ps bs u) {i : Nat} (hi : i < m) (hul : u.length = m) : PtsM B U (W.setCell ⟨st bs i, 2, none⟩ (.bool true)) p m c ps bs (u.set i true) := by
  obtain ⟨_, _, _, _, _, _, hbx, hbi, _⟩ := h.blk i hi
  refine ⟨h.pl, h.bl, h.row.keep fun y hy => wset_ne _ _ ?_, h.pu, fun k hk => ?_, h.nd⟩
  · intro e; apply hbx; rw [hy]; simp; exact e.symm
  · obtain ⟨q1, c1, q2, c2, k1, k2, k3, k4, k5, k6, k7, k8⟩ := h.blk k hk
    have i5 := ints_keep0 (w' := W.setCell ⟨st bs i, 2, none⟩ (.bool true)) k5 fun y hy hn => wset_ne _ _ (ints_apart k5 hbi rfl rfl y hy hn)
    have i6 := ints_keep0 (w' := W.setCell ⟨st bs i, 2, none⟩ (.bool true)) k6 fun y hy hn => wset_ne _ _ (ints_apart k6 hbi rfl rfl y hy hn)
    refine ⟨q1, c1, q2, c2, k1, k2, k3, ?_, i5, i6, k7, k8⟩
    rw [bAt_set _ _ _ (by rw [hul]; exact hi)]
    by_cases e : k = i
    · subst e
      have := wset k4 2 (.bool true)
      simpa using this
    · have hne : st bs k ≠ st bs i := by
        rcases Nat.lt_or_ge k i with h1 | h1
        · exact h.nd k i h1 hi
        · exact fun e2 => h.nd i k (by omega) hk e2.symm
      rw [wset_ne _ _ hne, k4]
      simp [e]
/-- the struck part's block. -/
theorem PtsM.blkIn (h : PtsM B U W p m c ps bs u) {i : Nat} (hi : i < m) : B ≤ st bs i ∧ st bs i < U := by
  obtain ⟨_, _, _, _, h1, h2, _⟩ := h.blk i hi
  exact ⟨h1, h2⟩
end
/-- where stones.Alive stands. -/
structure AlM (w W : World) (U1 U2 a b n c who : Nat) (q gp : Option Addr) (m gc : Nat) (gs : List Pt) (gbs : List Nat) (u : List Bool) (rp : Option Addr) (rn rc : Nat) (rs : List Pt) (rbs : List Nat) (v : List Bool) : Prop where
  bx : W.heap[w.heap.size]? = some (.cells #[.int .i64 (a : Int), .int .i64 (b : Int), .slice q n c] 24 (0, 0))
  bw : W.heap[w.heap.size + 1]? = some (.cells #[.int .i64 (who : Int)] 3 (0, 0))
  gm : PtsM (w.heap.size + 2) U1 W gp m gc gs gbs u
  rm : PtsM U1 U2 W rp rn rc rs rbs v
  u0 : w.heap.size + 2 ≤ U1
  u1 : U1 ≤ U2
  u2 : U2 ≤ W.heap.size
  bl : Below w.heap.size w W
section
variable {w W W' : World} {U1 U2 a b n c who : Nat} {q gp : Option Addr} {m gc : Nat} {gs : List Pt} {gbs : List Nat} {u : List Bool} {rp : Option Addr} {rn rc : Nat} {rs : List Pt} {rbs : List Nat} {v : List Bool}
theorem AlM.below (h : AlM w W U1 U2 a b n c who q gp m gc gs gbs u rp rn rc rs rbs v) (hb : Below W.heap.size W W') : AlM w W' U1 U2 a b n c who q gp m gc gs gbs u rp rn rc rs rbs v :=
  ⟨(hb.block _ (lt_of_heap h.bx)).trans h.bx, (hb.block _ (lt_of_heap h.bw)).trans h.bw, h.gm.keep fun k _ hk => hb.block k (by have := h.u1; have := h.u2; omega), h.rm.keep fun k _ hk => hb.block k (by have := h.u2; omega), h.u0, h.u1, Nat.le_trans h.u2 hb.size, h.bl.trans (hb.mono (by have := h.bl.size; exact this))⟩
theorem AlM.grown {row : Option Nat} (h : AlM w W U1 U2 a b n c who q gp m gc gs gbs u rp rn rc rs rbs v) (hg : W.grownBy W' row) (hr : ∀ k, row = some k → U2 ≤ k) : AlM w W' U1 U2 a b n c who q gp m gc gs gbs u rp rn rc rs rbs v := by
  have hk : ∀ k, k < U2 → W'.heap[k]? = W.heap[k]? := fun k hk => hg.block k (by have := h.u2; omega) (fun e => by have := hr k e.symm; omega)
  have h0 := h.u0
  have h1 := h.u1
  exact ⟨(hk _ (by omega)).trans h.bx, (hk _ (by omega)).trans h.bw, h.gm.keep fun k _ h2 => hk k (by omega), h.rm.keep fun k _ h2 => hk k h2, h.u0, h.u1, Nat.le_trans h.u2 hg.size, h.bl.grown hg h.bl.size (fun k e => by have := hr k e; omega)⟩
theorem AlM.strikeG (h : AlM w W U1 U2 a b n c who q gp m gc gs gbs u rp rn rc rs rbs v) {i : Nat} (hi : i < m) (hul : u.length = m) : AlM w (W.setCell ⟨st gbs i, 2, none⟩ (.bool true)) U1 U2 a b n c who q gp m gc gs gbs (u.set i true) rp rn rc rs rbs v := by
  obtain ⟨h1, h2⟩ := h.gm.blkIn hi
  exact ⟨(wset_ne _ _ (by simp; omega)).trans h.bx, (wset_ne _ _ (by simp; omega)).trans h.bw, h.gm.strike hi hul, h.rm.keep fun k hk _ => wset_ne _ _ (by simp; omega), h.u0, h.u1, by simpa [World.setCell] using h.u2, h.bl.setCell (p := ⟨st gbs i, 2, none⟩) (by simp; omega) _⟩
theorem AlM.strikeR (h : AlM w W U1 U2 a b n c who q gp m gc gs gbs u rp rn rc rs rbs v) {j : Nat} (hj : j < rn) (hvl : v.length = rn) : AlM w (W.setCell ⟨st rbs j, 2, none⟩ (.bool true)) U1 U2 a b n c who q gp m gc gs gbs u rp rn rc rs rbs (v.set j true) := by
  obtain ⟨h1, h2⟩ := h.rm.blkIn hj
  have h0 := h.u0
  exact ⟨(wset_ne _ _ (by simp; omega)).trans h.bx, (wset_ne _ _ (by simp; omega)).trans h.bw, h.gm.keep fun k _ hk => wset_ne _ _ (by simp; omega), h.rm.strike hj hvl, h.u0, h.u1, by simpa [World.setCell] using h.u2, h.bl.setCell (p := ⟨st rbs j, 2, none⟩) (by simp; omega) _⟩
end
/-- bounds of the parts' lists. -/
theorem PtsOf.bnd {so : Nat → Bool} {s : List Nat} {a b k : Nat} {ps : List Pt} (hab : s.length = a * b) (hk : k ≤ s.length) (h : PtsOf so s a (rootsN so s a k) ps) : ∀ i, i < ps.length → 0 < (pAt ps i).1.length ∧ (pAt ps i).1.length ≤ s.length ∧ (pAt ps i).2.length ≤ s.length ∧ (∀ t ∈ (pAt ps i).1, t < s.length) ∧ (pAt ps i).1.Nodup := by
  have I := rootsN_I (so := so) hab k hk
  obtain ⟨hl, h⟩ := h
  intro i hi
  obtain ⟨h1, h2⟩ := h i (by omega)
  have S := spread_ok (so := so) hab (Nat.lt_of_lt_of_le (I.lt i (by omega)).1 hk)
  have hlen := S.len
  refine ⟨?_, by rw [h1.length_eq]; omega, by rw [h2.length_eq]; omega, fun t ht => S.lt t (.inl (h1.mem_iff.1 ht)), h1.nodup_iff.2 (List.nodup_append.1 S.nd).1⟩
  rw [h1.length_eq]
  exact List.length_pos_of_mem S.f0
theorem roots_len (so : Nat → Bool) (s : List Nat) (a : Nat) : ∀ k, (rootsN so s a k).length ≤ k := by
  intro k
  induction k with
  | zero => simp [rootsN]
  | succ k ih =>
    rw [rootsN_succ]
    unfold rootStep
    split
    · rw [List.length_append, List.length_singleton]; omega
    · omega
end Go.Proofs.Ytefjliblaeadfaa
