/- The moves that gather discs on a peg (mv), told plainly: as many as G says, each may be made, and they lead to all discs on that peg; and an append of one move to a row of the call's own; no conditions. -/
import Derived.Test.YtfjlhghiadoodaaDoW
import Derived.Test.YtfjlhghiadoodaaRows
namespace Go.Proofs.Ytfjlhghiadoodaa
open Go.RowKit

def mv : Nat → (Nat → Nat) → Nat → List (Nat × Nat)
  | 0, _, _ => []
  | k + 1, f, p => if f k = p then mv k f p else mv k f (3 - f k - p) ++ (f k, p) :: mv k (fun _ => 3 - f k - p) p
theorem mv_congr {f g : Nat → Nat} : ∀ k, (∀ i, i < k → f i = g i) → ∀ p, mv k f p = mv k g p := by
  intro k
  induction k with
  | zero => intro _ _; rfl
  | succ k ih =>
    intro h p
    rw [mv, mv, h k (by omega), ih (fun i hi => h i (by omega)), ih (fun i hi => h i (by omega))]
theorem mv_len {f : Nat → Nat} (hf : ∀ i, f i < 3) : ∀ k p, p < 3 → (mv k f p).length = G f k p := by
  have key : ∀ k (f : Nat → Nat), (∀ i, f i < 3) → ∀ p, p < 3 → (mv k f p).length = G f k p := by
    intro k
    induction k with
    | zero => intro f _ p _; rfl
    | succ k ih =>
      intro f hf p hp
      have hfk := hf k
      rw [mv, G]
      by_cases e : f k = p
      · rw [if_pos e, if_pos e]; exact ih f hf p hp
      · rw [if_neg e, if_neg e, List.length_append, List.length_cons, ih f hf _ (by omega), ih (fun _ => 3 - f k - p) (fun _ => by omega) p hp, G_perf (r := 3 - f k - p) (by omega) k (fun _ _ => rfl) p hp (by omega)]
        have := two_pos k
        omega
  exact fun k p hp => key k f hf p hp

/-- the k smallest discs laid on peg p. -/
def put : Nat → List Nat → Nat → List Nat
  | 0, s, _ => s
  | k + 1, s, p => (put k s p).set k p
theorem put_len (s : List Nat) (p : Nat) : ∀ k, (put k s p).length = s.length := by
  intro k; induction k with
  | zero => rfl
  | succ k ih => simp [put, ih]
theorem put_st (s : List Nat) (p : Nat) : ∀ k, k ≤ s.length → ∀ j, st (put k s p) j = if j < k then p else st s j := by
  intro k; induction k with
  | zero => intro _ j; simp [put]
  | succ k ih =>
    intro hk j
    rw [put, st_set _ _ _ _ (by rw [put_len]; omega), ih (by omega)]
    by_cases e : j = k
    · subst e; simp
    · rw [if_neg e]
      by_cases h : j < k
      · rw [if_pos h, if_pos (by omega)]
      · rw [if_neg h, if_neg (by omega)]
theorem st_ext {s t : List Nat} (hl : s.length = t.length) (h : ∀ i, i < s.length → st s i = st t i) : s = t := by
  apply List.ext_getElem? ; intro i
  by_cases hi : i < s.length
  · have := h i hi
    unfold st at this
    simp [hi, show i < t.length by omega] at this ⊢
    exact this
  · simp [show s.length ≤ i by omega, show t.length ≤ i by omega]
theorem put_put (s : List Nat) (k p t : Nat) (hk : k < s.length) : put k ((put k s t).set k p) p = put (k + 1) s p := by
  refine st_ext (by simp [put_len]) fun i hi => ?_
  simp [put_len] at hi
  rw [put_st _ _ _ (by simp [put_len]; omega), st_set _ _ _ _ (by rw [put_len]; omega), put_st _ _ _ (by omega), put_st _ _ _ (by omega)]
  by_cases h1 : i < k
  · rw [if_pos h1, if_pos (by omega)]
  · rw [if_neg h1]
    by_cases h2 : i = k
    · rw [if_pos h2, if_pos (by omega)]
    · rw [if_neg h2, if_neg h1, if_neg (by omega)]
theorem put_same (s : List Nat) (k p : Nat) (hk : k < s.length) (h : st s k = p) : put k s p = put (k + 1) s p := by
  refine st_ext (by simp [put_len]) fun i hi => ?_
  rw [put_st _ _ _ (by omega), put_st _ _ _ (by omega)]
  by_cases h1 : i < k
  · rw [if_pos h1, if_pos (by omega)]
  · rw [if_neg h1]
    by_cases h2 : i = k
    · subst h2; rw [if_pos (by omega), h]
    · rw [if_neg (by omega)]

/-- these moves may be made one behind the other, and lead from s to u. -/
def Run (n : Nat) : List Nat → List (Nat × Nat) → List Nat → Prop
  | s, [], u => s = u
  | s, (a, b) :: ms, u => a < 3 ∧ b < 3 ∧ a ≠ b ∧ ∃ i, i < n ∧ st s i = a ∧ (∀ j, j < i → st s j ≠ a ∧ st s j ≠ b) ∧ Run n (s.set i b) ms u
theorem Run.app {n : Nat} : ∀ {l1 : List (Nat × Nat)} {s u v : List Nat} {l2 : List (Nat × Nat)}, Run n s l1 u → Run n u l2 v → Run n s (l1 ++ l2) v := by
  intro l1
  induction l1 with
  | nil => intro s u v l2 h1 h2; cases h1; exact h2
  | cons m l1 ih =>
    intro s u v l2 h1 h2
    obtain ⟨ha, hb, hab, i, hi, e, hj, hr⟩ := h1
    exact ⟨ha, hb, hab, i, hi, e, hj, ih hr h2⟩
theorem mv_run (n : Nat) : ∀ k p s, s.length = n → k ≤ n → (∀ i, st s i < 3) → p < 3 → Run n s (mv k (st s) p) (put k s p) := by
  intro k
  induction k with
  | zero => intro p s _ _ _ _; rfl
  | succ k ih =>
    intro p s hl hk hs hp
    have hfk := hs k
    rw [mv]
    by_cases e : st s k = p
    · rw [if_pos e, ← put_same s k p (by omega) e]; exact ih p s hl (by omega) hs hp
    · rw [if_neg e]
      refine (ih (3 - st s k - p) s hl (by omega) hs (by omega)).app ⟨hfk, hp, e, k, by omega, ?_, ?_, ?_⟩
      · rw [put_st _ _ _ (by omega), if_neg (by omega)]
      · intro j hj
        rw [put_st _ _ _ (by omega), if_pos hj]
        omega
      · have hx : ∀ i, st ((put k s (3 - st s k - p)).set k p) i < 3 := fun i => by
          have := hs i
          rw [st_set _ _ _ _ (by rw [put_len]; omega), put_st _ _ _ (by omega)]
          split
          · exact hp
          · split <;> omega
        have := ih p ((put k s (3 - st s k - p)).set k p) (by simp [put_len]; omega) (by omega) hx hp
        rw [put_put s k p _ (by omega)] at this
        rwa [mv_congr (f := fun _ => 3 - st s k - p) (g := st ((put k s (3 - st s k - p)).set k p)) k (fun i hi => by
          rw [st_set _ _ _ _ (by rw [put_len]; omega), if_neg (by omega), put_st _ _ _ (by omega), if_pos hi])]
theorem run_do {s : List Nat} {n a b : Nat} {ms : List (Nat × Nat)} {u v : List Nat} {er : Int} (h : Run n s ((a, b) :: ms) v) (hd : DoEnd s n a b er u) : er = 0 ∧ Run n u ms v := by
  obtain ⟨ha, hb, hab, i, hi, e, hj, hr⟩ := h
  rcases hd with ⟨_, h⟩ | ⟨_, h⟩ | ⟨_, j, hjn, h1, h2⟩ | ⟨h0, i', hi', hu, hm⟩
  · exact absurd h hab
  · exact absurd e (h i hi)
  · rcases Nat.lt_or_ge j i with hlt | hge
    · exact absurd h1 (hj j hlt).2
    · exact absurd e (h2 i hge)
  · have h1 := hm.fi
    have h2 := hm.low
    have : i' = i := by
      rcases Nat.lt_trichotomy i' i with hlt | he | hgt
      · exact absurd h1 (hj i' hlt).1
      · exact he
      · have := h2 i hgt; omega
    subst this
    subst hu
    exact ⟨h0, hr⟩

/-- one move's cells, and those of a row of moves. -/
def flat (l : List (Nat × Nat)) : List Value := l.flatMap fun m => [.int .i64 (m.1 : Int), .int .i64 (m.2 : Int), .int .i64 0]
theorem flat_app (l m : List (Nat × Nat)) : flat (l ++ m) = flat l ++ flat m := by simp [flat]
theorem flat_len (l : List (Nat × Nat)) : (flat l).length = l.length * 3 := by
  induction l with
  | nil => rfl
  | cons m l ih => simp [flat] at ih ⊢; omega
theorem flat_at (l : List (Nat × Nat)) : ∀ i a b, l[i]? = some (a, b) → (flat l)[i * 3]? = some (.int .i64 (a : Int)) ∧ (flat l)[i * 3 + 1]? = some (.int .i64 (b : Int)) ∧ (flat l)[i * 3 + 2]? = some (.int .i64 0) := by
  induction l with
  | nil => intro i a b h; simp at h
  | cons m l ih =>
    intro i a b h
    cases i with
    | zero => simp at h; subst h; simp [flat]
    | succ i =>
      obtain ⟨h1, h2, h3⟩ := ih i a b (by simpa using h)
      have e : flat (m :: l) = .int .i64 (m.1 : Int) :: .int .i64 (m.2 : Int) :: .int .i64 0 :: flat l := by simp [flat]
      rw [e, show (i + 1) * 3 = i * 3 + 1 + 1 + 1 from by omega]
      exact ⟨by simpa using h1, by simpa using h2, by simpa using h3⟩
abbrev OwnM (B : Nat) (w : World) (p : Option Addr) (n c : Nat) (l : List (Nat × Nat)) : Prop := w.ownsRow B 32 3 (.slice p n c) n (flat l)

theorem mtype : Try.prog.underlying 38 = some (.slice 32) := by kernel_rfl
theorem minfo : (Try.prog.info? 32).map (fun i => (i.zero, i.size, i.bytes)) = some (some (.agg #[.int .i64 0, .int .i64 0, .int .i64 0]), 3, 24) := by kernel_rfl
theorem wp_append3 {ops : Array Oper} {rest : List Oper} {o : Oper} {a : Act} {Q : Exit → Act → World → Prop} (w0 : World)
    (hg : o.guard = none) (s x : Operand) (hop : o.op = Op.call { callee := Callee.builtin Builtin.append, args := #[s, x], argTypes := #[38, 38] })
    (B : Nat) (p : Option Addr) (n c : Nat) (l : List (Nat × Nat)) (hs : a.eval s = .slice p n c) (own : OwnM B w0 p n c l) (u v : Nat) (hx : a.eval x = .slice (some ⟨w0.heap.size, 0, none⟩) 1 1)
    (hn : n < 1000000) (hB : B ≤ w0.heap.size)
    (hK : ∀ p' c' w', OwnM B w' p' (n + 1) c' (l ++ [(u, v)]) → w0.grownBy w' (p.map (·.block)) → w0.heap.size ≤ w'.heap.size →
      wpList Try.prog ops Q rest (a.put o.dst (.slice p' (n + 1) c')) w') :
    wpList Try.prog ops Q (o :: rest) a (w0.alloc (.cells #[.int .i64 u, .int .i64 v, .int .i64 0] 32)) := by
  obtain ⟨i0, hi, hz0, hz1, hz2⟩ := info_parts minfo
  refine wpList_plain hg fun K hK' => ?_
  obtain ⟨v', w', hrun, h2, h3, _, h5⟩ := run_append_own_at (P := Try.prog) (w0.alloc (.cells #[.int .i64 u, .int .i64 v, .int .i64 0] 32)) B 38 o.type 32 i0 _ 3 24 mtype hi hz0 hz1 hz2 rfl (by omega) (.slice p n c) n _ (own.alloc _) ⟨w0.heap.size, 0, none⟩ 1 1 [.int .i64 u, .int .i64 v, .int .i64 0] rfl
    (fun j y hj => by
      have hj3 : j < 3 := by
        have := (List.getElem?_eq_some_iff.1 hj).1
        simpa using this
      rw [Addr.add_lit, World.cell?_alloc_new]
      rcases (show j = 0 ∨ j = 1 ∨ j = 2 from by omega) with rfl | rfl | rfl <;> (simp at hj; subst hj; rfl))
    (by intro y hy; simp at hy; rcases hy with rfl | rfl | rfl <;> rfl) (by unfold maxLen; omega) (by omega) (by simp; omega)
  unfold Oper.wp
  simp [execOp, hop, resolve, invoke, builtin, hs, hx, hrun, Result.andThen]
  have hshape : ∃ p' c', v' = .slice p' (n + 1) c' := by
    rcases h2.2 with ⟨hv, h0⟩ | ⟨g, cap, cur, hv, _⟩
    · omega
    · exact ⟨_, _, hv⟩
  obtain ⟨p', c', rfl⟩ := hshape
  refine hK' _ _ (hK p' c' w' (by rw [OwnM, flat_app]; exact h2) ?_ ?_)
  · refine ⟨h3.os, h3.tape, h3.output, Nat.le_trans (by simp) h3.size, fun k hk hne => (h3.block k (by simp; omega) ?_).trans (Below.heap_alloc w0 _ k hk)⟩
    intro e; apply hne; rw [e]; cases p <;> rfl
  · exact Nat.le_trans (by simp) h3.size
end Go.Proofs.Ytfjlhghiadoodaa
