/- Equality of four ints to the program; no conditions. -/
import Derived.Test.YtapoimadiiheaaaCls
import Derived.ChangeKeysEq
namespace Go.Proofs.Ytapoimadiiheaaa

theorem under38 : Try.prog.underlying 38 = some (.array 4 3) := by kernel_rfl
theorem under3 : Try.prog.underlying 3 = some (.int .i64) := by kernel_rfl
theorem eq38 (a b c d e f g h : Int) (w : World) : (Op.equalIn 10000 38 (.agg #[.int .i64 a, .int .i64 b, .int .i64 c, .int .i64 d]) (.agg #[.int .i64 e, .int .i64 f, .int .i64 g, .int .i64 h])).run Try.prog w = .ok (decide (a = e ∧ b = f ∧ c = g ∧ d = h)) w := by
  obtain ⟨i, hi⟩ := info_of_underlying under3
  rw [run_equalIn_array w 9999 _ _ under38 hi]
  have hc : Try.prog.cellsOf 3 = 1 := by kernel_rfl
  have p0 : ∀ a b c d : Int, (part 3 #[.int .i64 a, .int .i64 b, .int .i64 c, .int .i64 d] 0).run Try.prog w = .ok (.int .i64 a) w := fun a b c d => by kernel_rfl
  have p1 : ∀ a b c d : Int, (part 3 #[.int .i64 a, .int .i64 b, .int .i64 c, .int .i64 d] 1).run Try.prog w = .ok (.int .i64 b) w := fun a b c d => by kernel_rfl
  have p2 : ∀ a b c d : Int, (part 3 #[.int .i64 a, .int .i64 b, .int .i64 c, .int .i64 d] 2).run Try.prog w = .ok (.int .i64 c) w := fun a b c d => by kernel_rfl
  have p3 : ∀ a b c d : Int, (part 3 #[.int .i64 a, .int .i64 b, .int .i64 c, .int .i64 d] 3).run Try.prog w = .ok (.int .i64 d) w := fun a b c d => by kernel_rfl
  have e0 : ∀ a b : Int, (Op.equalIn 9999 3 (.int .i64 a) (.int .i64 b)).run Try.prog w = .ok (a == b) w := fun a b => run_equalIn_int (P := Try.prog) w 9998 3 .i64 .i64 a b under3
  rw [hc]
  by_cases h1 : a = e
  · by_cases h2 : b = f
    · by_cases h3 : c = g
      · by_cases h4 : d = h
        · subst h1 h2 h3 h4
          simp [List.range, List.range.loop, Op.eqItems, p0, p1, p2, p3, e0]
        · subst h1 h2 h3
          simp [List.range, List.range.loop, Op.eqItems, p0, p1, p2, p3, e0, h4]
      · subst h1 h2
        simp [List.range, List.range.loop, Op.eqItems, p0, p1, p2, e0, h3]
    · subst h1
      simp [List.range, List.range.loop, Op.eqItems, p0, p1, e0, h2]
  · simp [List.range, List.range.loop, Op.eqItems, p0, e0, h1]
/-- two classes are equal to the program just if they are. -/
theorem eqCls (a : Nat) (s t : List Nat) (w : World) : (Op.equalIn 10000 38 (clsV a s) (clsV a t)).run Try.prog w = .ok (decide (clsS a s = clsS a t)) w := by
  unfold clsV
  rw [eq38]
  congr 1
  apply decide_eq_decide.2
  rw [clsS_k, clsS_k]
  simp only [List.cons.injEq, and_true]
  omega
end Go.Proofs.Ytapoimadiiheaaa
