/- What slices.Clone, Grow and Concat (of two) compute for mancala; conditions: the lengths are small. -/
import Derived.Test.YtehcelajmhclmaaMCore
import Derived.Lib.AppendZeros
import Derived.IntWalk
namespace Go.Proofs.Ytehcelajmhclmaa
open Go.RowKit

set_option maxHeartbeats 400000 in
theorem clone_any (p : Option Addr) (n c : Nat) (xs : List Int) (w : World) (hn : n < 1099511627776) (hx : IntsIn w p n xs) :
    Calls Try.prog 21 #[.slice p n c] w fun e w' => ∃ p' c', e = .returned (.slice p' n c') ∧ Own 3 w.heap.size w' p' n c' xs ∧ Below w.heap.size w w' := by
  have hl := hx.len
  have he := fun W : World => run_eql_slice_nil (P := Try.prog) W 22 3 p n c Try.underlying22
  cases p with
  | none =>
    have h0 : n = 0 := by
      rcases Nat.eq_zero_or_pos n with h | h
      · exact h
      · obtain ⟨b, o, e, _⟩ := hx.at h; cases e
    subst h0
    have hxs : Hid (xs = []) := List.eq_nil_of_length_eq_zero hl
    clear hx hl
    go_enter Try.func21, Try.ntmps21
    go_wp2
    go_ret
    exact ⟨none, 0, rfl, by rw [hxs.out]; exact Own.nil _ _ _, Below.refl _ _⟩
  | some ad =>
    have hin := Lib.hid (hx.alloc (.cells #[] 3))
    clear hx
    replace hl := Lib.hid hl
    go_enter Try.func21, Try.ntmps21
    go_wp2_with (at_builtin; refine wp_appendL int22 _ rfl _ _ rfl w.heap.size _ 0 0 [] rfl (Own.empty 3 w) ad n c xs rfl hin.out (by omega) (by simp) ?_; intro p' c' w2 hO hg _ hz)
    have hB : Below w.heap.size w w2 := ((Below.refl _ w).alloc (Nat.le_refl _) _).grown hg (by simp) (fun x hx => by cases hx; exact Nat.le_refl _)
    replace hO := Lib.hid hO; replace hB := Lib.hid hB
    clear hg hz
    go_wp2
    go_ret
    exact ⟨p', c', by simp, by simpa using hO.out, hB.out⟩

/-- an append whose run is known. -/
theorem wp_appendRun {P : Program} {ops : Array Oper} {rest : List Oper} {o : Oper} {a : Act} {Q : Exit → Act → World → Prop} (w w' : World)
    (hg : o.guard = none) (s x : Operand) (t tn : TypeId) (hop : o.op = Op.call { callee := Callee.builtin Builtin.append, args := #[s, x], argTypes := #[t, tn] })
    (vs vx : Value) (hs : a.eval s = vs) (hx : a.eval x = vx) (v' : Value) (hr : (Builtin.append_ #[t, tn] o.type #[vs, vx]).run P w = .ok v' w')
    (h : wpList P ops Q rest (a.put o.dst v') w') : wpList P ops Q (o :: rest) a w := by
  refine wpList_plain hg fun K hK' => ?_
  unfold Oper.wp
  simp [execOp, hop, resolve, invoke, builtin, hs, hx, hr, Result.andThen]
  exact hK' _ _ h

set_option maxHeartbeats 400000 in
theorem grow_any (m : Nat) (w : World) (h0 : 0 < m) (h : m ≤ 1000) : Calls Try.prog 23 #[.slice none 0 0, .int .i64 m] w fun e w' => ∃ c, e = .returned (.slice (some ⟨w.heap.size, 0, none⟩) 0 c) ∧ Own 3 w.heap.size w' (some ⟨w.heap.size, 0, none⟩) 0 c [] ∧ Below w.heap.size w w' := by
  obtain ⟨i0, hi, hz0, hz1, hz2⟩ := info_parts int22.info
  have hap : Hid (∀ ty, (Builtin.append_ #[22, 3] ty #[.slice none 0 0, .int .i64 m]).run Try.prog w = _) := fun ty => Lib.run_append_nil_zeros w 22 3 ty 3 i0 (.int .i64 0) .i64 .i64 Try.underlying22 (by kernel_rfl) hi hz0 m h0 (by omega) (by omega) (by rw [hz2]; omega)
  have hge := grownCap_ge w m 0 3
  have hle := grownCap_le_maxLen w m 0 3 (by unfold maxLen; omega)
  have hcs : (Builtin.zeroCells (Value.int .i64 0).cells m ++ Builtin.zeroCells (Value.int .i64 0).cells (grownCap w m 0 3 - m)).size = grownCap w m 0 3 * 1 := by
    simp [Builtin.zeroCells, Value.cells]; omega
  generalize Builtin.zeroCells (Value.int .i64 0).cells m ++ Builtin.zeroCells (Value.int .i64 0).cells (grownCap w m 0 3 - m) = cs at *
  generalize grownCap w m 0 3 = cap at *
  have hO := Lib.hid (World.ownsRow_made (w := w.drew) (base := w.heap.size) (e := 3) (size := 1) cs cap (Nat.le_refl _) hle hcs)
  have hB := Lib.hid ((below_drewN (Below.refl w.heap.size w) 1).alloc (Nat.le_refl _) (.cells cs 3))
  replace hcs := Lib.hid hcs
  replace hi := Lib.hid hi; replace hz0 := Lib.hid hz0; replace hz1 := Lib.hid hz1; replace hz2 := Lib.hid hz2
  have hcap : (cap : Int) ≤ 9223372036854775807 := by unfold maxLen at hle; omega
  replace hle := Lib.hid hle
  go_enter Try.func23, Try.ntmps23
  go_wp2_with (at_builtin; refine wp_appendRun _ _ rfl _ _ _ _ rfl _ _ rfl rfl _ (hap.out _) ?_)
  go_ret
  exact ⟨cap, rfl, hO.out, hB.out⟩

set_option maxHeartbeats 1000000 in
theorem concat_any (b n1 c1 n2 c2 : Nat) (p1 p2 : Option Addr) (xs ys : List Int) (w : World) (h1 : 0 < n1) (h2 : n1 ≤ 100) (h3 : 0 < n2) (h4 : n2 ≤ 100) (hb : b < w.heap.size) (d0 : w.cell? ⟨b, 0, none⟩ = some (.slice p1 n1 c1)) (d1 : w.cell? ⟨b, 1, none⟩ = some (.slice p2 n2 c2)) (hx : IntsIn w p1 n1 xs) (hy : IntsIn w p2 n2 ys) :
    Calls Try.prog 17 #[.slice (some ⟨b, 0, none⟩) 2 2] w fun e w' => ∃ p c, e = .returned (.slice p (n1 + n2) c) ∧ Own 3 w.heap.size w' p (n1 + n2) c (xs ++ ys) ∧ Below w.heap.size w w' := by
  obtain ⟨b1, o1, rfl, _, _⟩ := hx.at h1
  obtain ⟨b2, o2, rfl, _, _⟩ := hy.at h3
  have HG : Hid (Calls Try.prog 23 #[.slice none 0 0, .int .i64 ((n1 : Int) + (n2 : Int))] w fun e w' => ∃ c, e = .returned (.slice (some ⟨w.heap.size, 0, none⟩) 0 c) ∧ Own 3 w.heap.size w' (some ⟨w.heap.size, 0, none⟩) 0 c [] ∧ Below w.heap.size w w') := by
    have := grow_any (n1 + n2) w (by omega) (by omega)
    rw [Int.natCast_add] at this
    exact this
  have eS : IntKind.i64.wrap ((n1 : Int) + (n2 : Int)) = ((n1 + n2 : Nat) : Int) := by rw [IntWalk.i64_in _ (by omega)]; push_cast; rfl
  replace hx := Lib.hid hx; replace hy := Lib.hid hy; replace eS := Lib.hid eS
  go_enter Try.func17, Try.ntmps17
  go_wp2_with fail
  refine wp_loop_rounds 3 ?_
  rw [rounds_succ]
  go_wp2_with fail
  rw [rounds_succ]
  go_wp2_with fail
  rw [rounds_succ]
  go_wp2_with fail
  refine HG.out.mono ?_
  rintro e w1 ⟨c, rfl, hO, hB⟩
  have hx1 := Lib.hid (hx.out.below hB)
  have hsz1 : w.heap.size ≤ w1.heap.size := hB.size
  have d01 : w1.cell? ⟨b, 0, none⟩ = some (.slice (some ⟨b1, o1, none⟩) n1 c1) := (hB.cell (p := ⟨b, 0, none⟩) hb).trans d0
  clear d0
  have d11 : w1.cell? ⟨b, 1, none⟩ = some (.slice (some ⟨b2, o2, none⟩) n2 c2) := (hB.cell (p := ⟨b, 1, none⟩) hb).trans d1
  clear d1
  replace hO := Lib.hid hO; replace hB := Lib.hid hB
  go_wp2_with fail
  refine wp_loop_rounds 3 ?_
  rw [rounds_succ]
  go_wp2_with (at_builtin; refine wp_appendL int22 w1 rfl _ _ rfl w.heap.size (some ⟨w.heap.size, 0, none⟩) 0 c [] rfl hO.out ⟨b1, o1, none⟩ n1 c1 xs rfl hx1.out (by omega) hsz1 ?_; intro p3 c3 w2 hO2 hg2 _ hz2)
  have hB2 : Below w.heap.size w w2 := hB.out.grown hg2 (by omega) (fun x hx => by cases hx; exact Nat.le_refl _)
  have d12 : w2.cell? ⟨b, 1, none⟩ = some (.slice (some ⟨b2, o2, none⟩) n2 c2) := (World.cell?_of_block (a := ⟨b, 1, none⟩) (hg2.block b (by omega) (by intro e; simp at e; omega))).trans d11
  have hy2 := Lib.hid (hy.out.below hB2)
  have hsz2 := hB2.size
  clear d11 d01 hg2 hz2
  have hO2 : Hid (Own 3 w.heap.size w2 p3 n1 c3 xs) := by show Own _ _ _ _ _ _ _; simpa using hO2
  replace hB2 := Lib.hid hB2
  rw [rounds_succ]
  go_wp2_with (at_builtin; refine wp_appendL int22 w2 rfl _ _ rfl w.heap.size p3 n1 c3 xs rfl hO2.out ⟨b2, o2, none⟩ n2 c2 ys rfl hy2.out (by omega) hsz2 ?_; intro p4 c4 w3 hO3 hg3 _ hz3)
  have hB3 := Lib.hid (hB2.out.grown hg3 hsz2 (fun x hx => by
    cases p3 with
    | none => cases hx
    | some a => simp at hx; subst hx; exact (hO2.out.block a rfl).1))
  replace hO3 := Lib.hid hO3
  clear hg3 hz3 d12 hsz2 hsz1
  rw [rounds_succ]
  go_wp2_with fail
  go_ret
  exact ⟨p4, c4, rfl, hO3.out, hB3.out⟩
end Go.Proofs.Ytehcelajmhclmaa
