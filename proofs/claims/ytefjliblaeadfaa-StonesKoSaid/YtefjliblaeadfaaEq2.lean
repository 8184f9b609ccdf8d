/- Two pairs of ints that are alike are equal to the program; no conditions. -/
import Derived.Test.YtefjliblaeadfaaPla
import Derived.ChangeKeysEq
namespace Go.Proofs.Ytefjliblaeadfaa

theorem under25 : Try.prog.underlying 25 = some (.array 2 3) := by kernel_rfl
theorem eq25 (t u : Int) (w : World) : (Op.equalIn 10000 25 (.agg #[.int .i64 t, .int .i64 u]) (.agg #[.int .i64 t, .int .i64 u])).run Try.prog w = .ok true w := by
  obtain ⟨i, hi⟩ := info_of_underlying under3
  rw [run_equalIn_array w 9999 _ _ under25 hi]
  have hc : Try.prog.cellsOf 3 = 1 := by kernel_rfl
  have p0 : (part 3 #[.int .i64 t, .int .i64 u] 0).run Try.prog w = .ok (.int .i64 t) w := by kernel_rfl
  have p1 : (part 3 #[.int .i64 t, .int .i64 u] 1).run Try.prog w = .ok (.int .i64 u) w := by kernel_rfl
  have e0 : ∀ a : Int, (Op.equalIn 9999 3 (.int .i64 a) (.int .i64 a)).run Try.prog w = .ok (a == a) w := fun a => run_equalIn_int (P := Try.prog) w 9998 3 .i64 .i64 a a under3
  rw [hc]
  simp only [List.range, List.range.loop, Op.eqItems, Sem.run_bind, Nat.zero_mul, Nat.one_mul, p0, Result.andThen_ok, e0]
  simp [p1, e0]
end Go.Proofs.Ytefjliblaeadfaa
