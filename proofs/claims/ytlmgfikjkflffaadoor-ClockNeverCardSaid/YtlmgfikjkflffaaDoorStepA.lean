/- An append of one int to a row of the call's own, inside a region that draws its order; no conditions. -/
import Derived.Test.YtlmgfikjkflffaaDoorGen
import Derived.Deep.RegionHeld3
import Derived.Deep.AppendLies
namespace Go.Proofs.YtlmgfikjkflffaaDoor
open Go.RowKit

theorem step_append1 {P : Program} {T E : TypeId} (hT : IntT P T E) {ops : Array Oper} {o : Oper} {a : Act} {K : Act → World → Prop} {Q : Exit → Act → World → Prop} {EE : Prop} (w : World) (hgd : o.guard = none) (s x : Operand)
    (hop : o.op = .call { callee := .builtin .append, args := #[s, x], argTypes := #[T, T] })
    (B : Nat) (p : Option Addr) (n c : Nat) (xs : List Int) (hs : a.eval s = .slice p n c) (own : Own E B w p n c xs) (y : Int) (sz : Nat) (hx : a.eval x = .slice (some ⟨sz, 0, none⟩) 1 1) (hc : w.cell? ⟨sz, 0, none⟩ = some (.int .i64 y))
    (hn : n < 1099511627776) (hB : B ≤ w.heap.size)
    (hK : ∀ p' c' w', Own E B w' p' (n + 1) c' (xs ++ [y]) → w.grownBy w' (p.map (·.block)) → K (a.put o.dst (.slice p' (n + 1) c')) w') :
    if Region.wanted o (yielded ops a.tmps) = true then Oper.wp P o a w K Q else EE := by
  obtain ⟨i0, hi, hz0, hz1, hz2⟩ := info_parts hT.info
  refine step_append_lies w hgd s x T hop B E i0 (.int .i64 0) 1 8 hT.under hi hz0 hz1 hz2 rfl (by omega) (.slice p n c) n _ hs own ⟨sz, 0, none⟩ 1 1 [.int .i64 y] hx rfl
    (fun j u hj => by
      match j, hj with
      | 0, hj => simp at hj; subst hj; rw [Addr.add_lit]; exact hc)
    (by intro u hu; simp at hu; subst hu; rfl) (by omega) (by unfold maxLen; omega) (by omega) hB w.heap.size rfl ?_
  intro g cap w' h1 h2 h3 h4
  refine hK _ _ _ (by simpa [Own] using h1) ?_
  refine ⟨h2.os, h2.tape, h2.output, h2.size, fun k hk hne => h2.block k hk ?_⟩
  intro e; apply hne; rw [e]; cases p <;> rfl
end Go.Proofs.YtlmgfikjkflffaaDoor
