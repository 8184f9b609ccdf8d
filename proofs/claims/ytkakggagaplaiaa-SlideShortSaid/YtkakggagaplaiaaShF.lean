/- What slide.Home answers; conditions: a board of six places that can be brought home. -/
import Derived.Test.YtkakggagaplaiaaShE
import Derived.Test.YtkakggagaplaiaaShH
import Derived.Test.YtkakggagaplaiaaSlM
import Derived.Test.YtkakggagaplaiaaSlQ
namespace Go.Proofs.Ytkakggagaplaiaa
open Go.RowKit

set_option maxRecDepth 20000 in
set_option maxHeartbeats 4000000 in
theorem homeB_any (a b cp : Nat) (p : Option Addr) (L : List Nat) (w : World) (hab : a = 2 ∧ b = 3 ∨ a = 3 ∧ b = 2) (hc6 : 6 ≤ cp) (hx : IntsIn w p 6 (asI L)) (hL : IsOrd 6 L) (hcan : canS a b L = true) (hf : (lkC (stg a b 21).1 L).isSome = true) :
    Calls Try.prog 30 #[.agg #[.int .i64 a, .int .i64 b, .slice p 6 cp]] w fun e w' => ∃ d q c, d ≤ 21 ∧ L ∈ (stg a b d).2 ∧ e = .returned (.tuple #[.slice q d c, .int .i64 0]) ∧ Below w.heap.size w w' := by
  have e6 : 6 = a * b := by rcases hab with ⟨rfl, rfl⟩ | ⟨rfl, rfl⟩ <;> rfl
  have d1 : 2 ≤ a ∧ a ≤ 3 ∧ 2 ≤ b ∧ b ≤ 3 := by rcases hab with ⟨rfl, rfl⟩ | ⟨rfl, rfl⟩ <;> decide
  obtain ⟨d1, d2, d3, d4⟩ := d1
  replace e6 := Lib.hid e6; replace hab := Lib.hid hab
  obtain ⟨R, hR⟩ : ∃ R, R = w.heap.size := ⟨_, rfl⟩
  have hpb : ∀ ad, p = some ad → ad.block < R := by
    obtain ⟨b', o', rfl, hb', _⟩ := hx.at (by omega)
    intro ad had; cases had; rw [hR]; exact hb'
  have hp0 : parN a b L % 2 = 0 := by unfold canS at hcan; simpa using hcan
  go_enter Try.func30, Try.ntmps30
  go_upto_region 1 with fail
  generalize hW : w.alloc (Obj.cells _ 39) = W0
  have q0 : W0.heap[R]? = some (.cells #[.int .i64 (a : Int), .int .i64 (b : Int), .slice p 6 cp] 39 (0, 0)) := by rw [hR, ← hW]; exact heap_alloc_new w _
  have hB0 : Below R w W0 := by rw [hR, ← hW]; exact (Below.refl _ w).alloc (Nat.le_refl _) _
  have hs0 : W0.heap.size = R + 1 := by rw [hR, ← hW]; simp
  clear hW
  rw [← hR]
  have HQ := Lib.hid (fun W (h : Below (R + 1) W0 W) => (wcell (cs := [_, _, _]) ((h.block R (by omega)).trans q0) 0 : W.cell? ⟨R, 0, none⟩ = some (.int .i64 (a : Int))))
  have HQ1 := Lib.hid (fun W (h : Below (R + 1) W0 W) => (wcell (cs := [_, _, _]) ((h.block R (by omega)).trans q0) 1 : W.cell? ⟨R, 1, none⟩ = some (.int .i64 (b : Int))))
  have HQ2 := Lib.hid (fun W (h : Below (R + 1) W0 W) => (wcell (cs := [_, _, _]) ((h.block R (by omega)).trans q0) 2 : W.cell? ⟨R, 2, none⟩ = some (.slice p 6 cp)))
  have HX := Lib.hid (fun W (h : Below (R + 1) W0 W) => (hx.below (by rw [← hR]; exact hB0.trans (h.mono (by omega))) : IntsIn W p 6 (asI L)))
  have k0 := HQ.out W0 (Below.refl _ _)
  have k1 := HQ1.out W0 (Below.refl _ _)
  have k2 := HQ2.out W0 (Below.refl _ _)
  have HM := Lib.hid (may_any a b 6 cp p L W0 d1 d2 d3 d4 e6 (HX.out W0 (Below.refl _ _)) hL)
  replace q0 := Lib.hid q0; replace hB0 := Lib.hid hB0; replace hs0 := Lib.hid hs0; replace hR := Lib.hid hR; replace hp0 := Lib.hid hp0
  clear hx hcan
  go_wp2_with fail
  refine HM.out.mono ?_
  rintro e W1 ⟨rfl, hb1⟩
  rw [hs0.out] at hb1
  have m0 := HQ.out W1 hb1
  have m1 := HQ1.out W1 hb1
  have m2 := HQ2.out W1 hb1
  have hz1 : R + 1 ≤ W1.heap.size := by have := hb1.size; have := hs0.out; omega
  have HP := Lib.hid (parity_any a b 6 cp p L W1 d1 d2 d3 d4 e6 hc6 (HX.out W1 hb1) hL)
  rw [hp0.out] at HP
  replace hb1 := Lib.hid hb1
  clear HM k0 k1 k2
  go_wp2_with fail
  refine HP.out.mono ?_
  rintro e W2 ⟨rfl, hb2⟩
  have hb02 : Below (R + 1) W0 W2 := hb1.out.trans (hb2.mono hz1)
  have hz2 : R + 1 ≤ W2.heap.size := by have := hb2.size; omega
  have q2 : (W2.alloc (.cells #[.slice none 0 0] 22)).heap[W2.heap.size]? = some (.cells #[.slice none 0 0] 22 (0, 0)) := heap_alloc_new W2 _
  have hb03 : Below (R + 1) W0 (W2.alloc (.cells #[.slice none 0 0] 22)) := hb02.alloc hz2 _
  have hs3 : (W2.alloc (.cells #[.slice none 0 0] 22)).heap.size = W2.heap.size + 1 := by simp
  replace q2 := Lib.hid q2; replace hb03 := Lib.hid hb03; replace hs3 := Lib.hid hs3
  clear HP hb2 hb02 m0 m1 m2 hb1
  go_upto_region 8 with fail
  generalize W2.alloc (.cells #[.slice none 0 0] 22) = W3 at *
  have k0 := HQ.out W3 hb03.out
  have k1 := HQ1.out W3 hb03.out
  have k2 := HQ2.out W3 hb03.out
  have HH := Lib.hid (home_any a b W3 e6)
  go_wp2_with fail
  refine HH.out.mono ?_
  rintro e W4 ⟨qh, ch, rfl, hO4, hB4⟩
  have hb04 : Below (R + 1) W0 W4 := hb03.out.trans (hB4.mono (by have := hs3.out; omega))
  have hz4 : W2.heap.size + 1 ≤ W4.heap.size := by have := hs3.out; have := hB4.size; omega
  have hJ0 : JH a b R W2.heap.size cp p L 0 W4 := ⟨(hb04.block R (by omega)).trans q0.out, (hB4.block W2.heap.size (by have := hs3.out; omega)).trans q2.out, HX.out W4 hb04, fun e he => absurd he (Nat.not_lt_zero e)⟩
  have HR := Lib.hid (rings56_any a b R W2.heap.size ch qh (JH a b R W2.heap.size cp p L) (FH a b W2.heap.size L) W4 hab.out (by omega) (by omega) hO4.in
    (fun d A B h hs hb => ⟨by rw [hb.block R (by omega)]; exact h.1, by rw [hb.block W2.heap.size (by omega)]; exact h.2.1, h.2.2.1.keep hb.size (fun bb oo had => hb.block bb (by have : bb < R := hpb _ had; omega)), h.2.2.2⟩) hJ0
    (fun d W q m c mb hd hj _ hk => homeC_any a b R W2.heap.size d m c mb cp q p L W hab.out hd hL hf hj hk))
  have hB3' : Below R w W4 := hB0.out.trans (hb04.mono (by omega))
  replace hB3' := Lib.hid hB3'; replace hz4 := Lib.hid hz4
  clear hJ0 hO4 hB4 HH q2 hb04 hb03 hs3 k0 k1 k2
  go_wp2_with fail
  refine HR.out.mono ?_
  rintro e W5 ⟨rfl, ⟨d, hd21, hin, q, c, hF⟩, hT⟩
  have c5 : W5.cell? ⟨W2.heap.size, 0, none⟩ = some (.slice q d c) := wcell (cs := [_]) hF 0
  have hfin : Hid (Below w.heap.size w W5) := by
    rw [← hR.out]
    exact hB3'.out.trans ⟨hT.os, hT.tape, hT.output, hT.size, fun k hk => hT.block k (by have := hz4.out; omega) (by omega) (by omega)⟩
  clear HR hT hF
  go_wp2_with fail
  go_ret2
  exact ⟨d, q, c, hd21, hin, rfl, hfin.out⟩
end Go.Proofs.Ytkakggagaplaiaa
