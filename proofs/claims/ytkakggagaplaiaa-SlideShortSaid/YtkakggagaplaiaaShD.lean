/- What slide.Count answers; conditions: two by three places or three by two, 0 to 21 steps. -/
import Derived.Test.YtkakggagaplaiaaShC
import Derived.Test.YtkakggagaplaiaaSlM
namespace Go.Proofs.Ytkakggagaplaiaa
open Go.RowKit

set_option maxRecDepth 20000 in
set_option maxHeartbeats 2000000 in
theorem count_any (a b s : Nat) (w : World) (hab : a = 2 ∧ b = 3 ∨ a = 3 ∧ b = 2) (hs : s ≤ 21) :
    Calls Try.prog 28 #[.int .i64 a, .int .i64 b, .int .i64 s] w fun e w' => e = .returned (.tuple #[.int .i64 ((stg a b s).2.length : Nat), .int .i64 0]) ∧ Below w.heap.size w w' := by
  have e6 : 6 = a * b := by rcases hab with ⟨rfl, rfl⟩ | ⟨rfl, rfl⟩ <;> rfl
  have e6i : (a : Int) * (b : Int) = 6 := by exact_mod_cast e6.symm
  have d1 : 2 ≤ a ∧ a ≤ 3 ∧ 2 ≤ b ∧ b ≤ 3 := by rcases hab with ⟨rfl, rfl⟩ | ⟨rfl, rfl⟩ <;> decide
  obtain ⟨d1, d2, d3, d4⟩ := d1
  replace e6 := Lib.hid e6; replace hab := Lib.hid hab
  obtain ⟨R, hR⟩ : ∃ R, R = w.heap.size := ⟨_, rfl⟩
  have i1 : decide ((s : Int) < 0) = false := decide_eq_false (by omega)
  have i2 : decide ((40 : Int) < (s : Int)) = false := decide_eq_false (by omega)
  go_enter Try.func28, Try.ntmps28
  go_upto_region 1 with fail
  have fa := Lib.hid fun W => far_any a W d1 (by omega)
  have fb := Lib.hid fun W => far_any b W d3 (by omega)
  generalize hW : w.alloc (Obj.cells _ 3) = W0
  have q0 : W0.heap[R]? = some (.cells #[.int .i64 (s : Int)] 3 (0, 0)) := by rw [hR, ← hW]; exact heap_alloc_new w _
  have hB0 : Below R w W0 := by rw [hR, ← hW]; exact (Below.refl _ w).alloc (Nat.le_refl _) _
  have hs0 : W0.heap.size = R + 1 := by rw [hR, ← hW]; simp
  clear hW
  rw [← hR]
  have k0 : W0.cell? ⟨R, 0, none⟩ = some (.int .i64 (s : Int)) := wcell (cs := [_]) q0 0
  replace q0 := Lib.hid q0; replace hB0 := Lib.hid hB0; replace hs0 := Lib.hid hs0; replace hR := Lib.hid hR
  go_wp2_with fail
  refine (fa.out _).mono ?_
  rintro e w' ⟨rfl, rfl⟩
  go_wp2_with fail
  refine (fb.out _).mono ?_
  rintro e w' ⟨rfl, rfl⟩
  have q1 : (W0.alloc (.cells #[.int .i64 0] 3)).heap[W0.heap.size]? = some (.cells #[.int .i64 0] 3 (0, 0)) := heap_alloc_new W0 _
  have p2 : (W0.alloc (.cells #[.int .i64 0] 3)).heap[R]? = some (.cells #[.int .i64 (s : Int)] 3 (0, 0)) := (Below.heap_alloc _ _ _ (by have := hs0.out; omega)).trans q0.out
  have hB2 : Below R w (W0.alloc (.cells #[.int .i64 0] 3)) := hB0.out.alloc (by have := hs0.out; omega) _
  have hz2 : (W0.alloc (.cells #[.int .i64 0] 3)).heap.size = R + 2 := by have := hs0.out; simp; omega
  have q2 := q1
  replace q2 := Lib.hid q2; replace p2 := Lib.hid p2; replace hB2 := Lib.hid hB2; replace hz2 := Lib.hid hz2
  clear q1
  go_upto_region 6 with fail
  generalize W0.alloc (.cells #[.int .i64 0] 3) = W2 at *
  obtain ⟨x2, hx2⟩ : ∃ x2, W0.heap.size = x2 := ⟨_, rfl⟩
  rw [hx2] at hs0 q2
  simp only [hx2]
  have hx2R := hs0.out
  clear k0 q0 hB0 hs0 hx2
  subst hx2R
  have HH := Lib.hid (home_any a b W2 e6)
  go_wp2_with fail
  refine HH.out.mono ?_
  rintro e W3 ⟨qh, ch, rfl, hO3, hB3⟩
  have hx3 : IntsIn W3 qh 6 (asI hmB) := hO3.in
  have hz3 : R + 2 ≤ W3.heap.size := by have := hz2.out; have := hB3.size; omega
  have hJ0 : JC R (R + 1) s 0 W3 := ⟨Nat.zero_le _, by rw [hB3.block R (by have := hz2.out; omega), p2.out]; simp, by rw [hB3.block (R + 1) (by have := hz2.out; omega)]; exact q2.out⟩
  have HR := Lib.hid (rings55_any a b R (R + 1) ch qh (JC R (R + 1) s) (FC a b (R + 1) s) W3 hab.out (by omega) (by omega) hx3
    (fun d A B h _ hb => ⟨h.1, by rw [hb.block R (by omega)]; exact h.2.1, by rw [hb.block (R + 1) (by omega)]; exact h.2.2⟩) hJ0
    (fun d W q m c mb _ hj hr _ => cnt1_any a b R (R + 1) s d m c mb q W hs (by omega) hj hr.len))
  have hB3' : Below R w W3 := hB2.out.trans (hB3.mono (by have := hz2.out; omega))
  replace hB3' := Lib.hid hB3'; replace hz3 := Lib.hid hz3
  clear hx3 hJ0 hO3 hB3 HH q2 p2 hB2 hz2
  go_wp2_with fail
  refine HR.out.mono ?_
  rintro e W4 ⟨rfl, ⟨d, _, rfl, hF⟩, hT⟩
  have c4 : W4.cell? ⟨(R + 1), 0, none⟩ = some (.int .i64 ((stg a b d).2.length : Nat)) := wcell (cs := [_]) hF 0
  have hfin : Hid (Below w.heap.size w W4) := by
    rw [← hR.out]
    exact hB3'.out.trans ⟨hT.os, hT.tape, hT.output, hT.size, fun k hk => hT.block k (by have := hz3.out; omega) (by omega) (by omega)⟩
  clear HR hT hF
  go_wp2_with fail
  go_ret2
  exact ⟨rfl, hfin.out⟩
end Go.Proofs.Ytkakggagaplaiaa
