import Derived.Test.YtcibkchfdiijfaaGrd
import Derived.OwnWalkIn
/- 'out = append(out, y)' in a round of a range over an iterator; conditions: out is a row of the call's own. -/
namespace Go.Proofs.Ytcibkchfdiijfaa
open Go.RowKit

/-- 'out = append(out, y)', y in a new block, inside a fence. -/
theorem wpIn_append1 {F : Fence} {nn : Nat} {P : Program} {T E : TypeId} (hT : IntT P T E) {ops : Array Oper} {rest : List Oper} {o : Oper} {a : Act} {Q : Exit → Act → World → Prop} (w0 : World)
    (hg : o.guard = none) (s x : Operand) (hop : o.op = Op.call { callee := Callee.builtin Builtin.append, args := #[s, x], argTypes := #[T, T] })
    (B : Nat) (p : Option Addr) (n c : Nat) (xs : List Int) (hs : a.eval s = .slice p n c) (own : Own E B w0 p n c xs) (y : Int) (sz : Nat) (hsz : sz = w0.heap.size) (hx : a.eval x = .slice (some ⟨sz, 0, none⟩) 1 1)
    (hn : n < 1099511627776) (hB : B ≤ w0.heap.size)
    (hK : ∀ p' c' w', Own E B w' p' (n + 1) c' (xs ++ [y]) → w0.grownBy w' (p.map (·.block)) → (p'.map (·.block) = p.map (·.block) ∨ ∀ a', p' = some a' → w0.heap.size ≤ a'.block) → w0.heap.size ≤ w'.heap.size →
      wpListIn F nn P ops Q rest (a.put o.dst (.slice p' (n + 1) c')) w') :
    wpListIn F nn P ops Q (o :: rest) a (w0.alloc (.cells #[.int .i64 y] E)) := by
  subst hsz
  obtain ⟨i0, hi, hz0, hz1, hz2⟩ := info_parts hT.info
  refine wpListIn_plain hg fun K hK' => ?_
  obtain ⟨v', w', hrun, h2, h3, _, h5⟩ := run_append_own_at (P := P) (w0.alloc (.cells #[.int .i64 y] E)) B T o.type E i0 (.int .i64 0) 1 8 hT.under hi hz0 hz1 hz2 rfl (by decide) (.slice p n c) n _ (own.alloc _) ⟨w0.heap.size, 0, none⟩ 1 1 [.int .i64 y] (by simp)
    (fun j u hj => by
      rw [Addr.add_lit, World.cell?_alloc_new]
      simpa using hj)
    (fun u hu => by simp at hu; subst hu; rfl) (by unfold maxLen; omega) (by omega) (by simp; omega)
  have hM : ∃ p' c', v' = .slice p' (n + 1) c' := by
    rcases h2.2 with ⟨hv, h0⟩ | ⟨g, cap, cur, hv, _⟩
    · omega
    · exact ⟨_, _, hv⟩
  obtain ⟨p', c', rfl⟩ := hM
  have hO : Own E B w' p' (n + 1) c' (xs ++ [y]) := by
    have e : xs.map (Value.int .i64) ++ [.int .i64 y] = (xs ++ [y]).map (Value.int .i64) := by simp
    rw [e] at h2; exact h2
  unfold Oper.wpIn
  refine ⟨?_, ?_⟩
  · simp [Oper.about, hop, resolve, Target.leads, Sem.run_pure]
  · rw [Oper.semAt_plain F _ _ (by rw [hop]; intro c hc'; cases hc')]
    simp [execOp, hop, resolve, invoke, builtin, hs, hx, hrun, Result.andThen]
    refine hK' _ _ (hK p' c' w' hO ?_ ?_ (Nat.le_trans (by simp) h3.size))
    · refine ⟨h3.os, h3.tape, h3.output, Nat.le_trans (by simp) h3.size, fun k hk hne => (h3.block k (by simp; omega) ?_).trans (Below.heap_alloc w0 _ k hk)⟩
      intro e; apply hne; rw [e]; cases p <;> rfl
    · rcases h5 with h5 | h5
      · left; cases p <;> cases p' <;> simp_all [Value.ownBlock]
      · right; intro a' ha; subst ha; simp [Value.ownBlock] at h5; omega
end Go.Proofs.Ytcibkchfdiijfaa
