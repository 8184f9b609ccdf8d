/- What slide.Home answers at a board that cannot be brought home; conditions: six places. -/
import Derived.Test.YtkakggagaplaiaaShF
namespace Go.Proofs.Ytkakggagaplaiaa
open Go.RowKit

set_option maxRecDepth 20000 in
set_option maxHeartbeats 4000000 in
theorem homeN_any (a b cp : Nat) (p : Option Addr) (L : List Nat) (w : World) (hab : a = 2 ∧ b = 3 ∨ a = 3 ∧ b = 2) (hc6 : 6 ≤ cp) (hx : IntsIn w p 6 (asI L)) (hL : IsOrd 6 L) (hcan : canS a b L = false) :
    Calls Try.prog 30 #[.agg #[.int .i64 a, .int .i64 b, .slice p 6 cp]] w fun e w' => e = .returned (.tuple #[.slice none 0 0, .int .i64 10]) ∧ Below w.heap.size w w' := by
  have e6 : 6 = a * b := by rcases hab with ⟨rfl, rfl⟩ | ⟨rfl, rfl⟩ <;> rfl
  have d1 : 2 ≤ a ∧ a ≤ 3 ∧ 2 ≤ b ∧ b ≤ 3 := by rcases hab with ⟨rfl, rfl⟩ | ⟨rfl, rfl⟩ <;> decide
  obtain ⟨d1, d2, d3, d4⟩ := d1
  replace e6 := Lib.hid e6; replace hab := Lib.hid hab
  obtain ⟨R, hR⟩ : ∃ R, R = w.heap.size := ⟨_, rfl⟩
  have hpb : ∀ ad, p = some ad → ad.block < R := by
    obtain ⟨b', o', rfl, hb', _⟩ := hx.at (by omega)
    intro ad had; cases had; rw [hR]; exact hb'
  have hp0 : parN a b L % 2 = 1 := by unfold canS at hcan; have := of_decide_eq_false hcan; omega
  go_enter Try.func30, Try.ntmps30
  go_upto_region 1 with fail
  generalize hW : w.alloc (Obj.cells _ 39) = W0
  have q0 : W0.heap[R]? = some (.cells #[.int .i64 (a : Int), .int .i64 (b : Int), .slice p 6 cp] 39 (0, 0)) := by rw [hR, ← hW]; exact heap_alloc_new w _
  have hB0 : Below R w W0 := by rw [hR, ← hW]; exact (Below.refl _ w).alloc (Nat.le_refl _) _
  have hs0 : W0.heap.size = R + 1 := by rw [hR, ← hW]; simp
  clear hW
  rw [← hR]
  have HQ := Lib.hid (fun W (h : Below (R + 1) W0 W) => (wcell (cs := [_, _, _]) ((h.block R (by omega)).trans q0) 0 : W.cell? ⟨R, 0, none⟩ = some (.int .i64 (a : Int))))
  have HQ1 := Lib.hid (fun W (h : Below (R + 1) W0 W) => (wcell (cs := [_, _, _]) ((h.block R (by omega)).trans q0) 1 : W.cell? ⟨R, 1, none⟩ = some (.int .i64 (b : Int))))
  have HQ2 := Lib.hid (fun W (h : Below (R + 1) W0 W) => (wcell (cs := [_, _, _]) ((h.block R (by omega)).trans q0) 2 : W.cell? ⟨R, 2, none⟩ = some (.slice p 6 cp)))
  have HX := Lib.hid (fun W (h : Below (R + 1) W0 W) => (hx.below (by rw [← hR]; exact hB0.trans (h.mono (by omega))) : IntsIn W p 6 (asI L)))
  have k0 := HQ.out W0 (Below.refl _ _)
  have k1 := HQ1.out W0 (Below.refl _ _)
  have k2 := HQ2.out W0 (Below.refl _ _)
  have HM := Lib.hid (may_any a b 6 cp p L W0 d1 d2 d3 d4 e6 (HX.out W0 (Below.refl _ _)) hL)
  replace q0 := Lib.hid q0; replace hB0 := Lib.hid hB0; replace hs0 := Lib.hid hs0; replace hR := Lib.hid hR; replace hp0 := Lib.hid hp0
  clear hx hcan
  go_wp2_with fail
  refine HM.out.mono ?_
  rintro e W1 ⟨rfl, hb1⟩
  rw [hs0.out] at hb1
  have m0 := HQ.out W1 hb1
  have m1 := HQ1.out W1 hb1
  have m2 := HQ2.out W1 hb1
  have hz1 : R + 1 ≤ W1.heap.size := by have := hb1.size; have := hs0.out; omega
  have HP := Lib.hid (parity_any a b 6 cp p L W1 d1 d2 d3 d4 e6 hc6 (HX.out W1 hb1) hL)
  rw [hp0.out] at HP
  replace hb1 := Lib.hid hb1
  clear HM k0 k1 k2
  go_wp2_with fail
  refine HP.out.mono ?_
  rintro e W2 ⟨rfl, hb2⟩
  have hb02 : Below (R + 1) W0 W2 := hb1.out.trans (hb2.mono hz1)
  have hfin : Hid (Below w.heap.size w W2) := by
    rw [← hR.out]
    exact hB0.out.trans (hb02.mono (by omega))
  clear HP hb2 hb02 m0 m1 m2 hb1
  go_wp2_with fail
  go_ret2
  exact ⟨rfl, hfin.out⟩
end Go.Proofs.Ytkakggagaplaiaa
