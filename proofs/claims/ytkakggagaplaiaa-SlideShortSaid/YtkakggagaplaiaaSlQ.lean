/- What slide.parity and slide.Can compute of an order laid on a board; conditions: 2 or 3 by 2 or 3 places. -/
import Derived.Test.YtkakggagaplaiaaSlM
import Derived.Test.YtkakggagaplaiaaNumW
namespace Go.Proofs.Ytkakggagaplaiaa
open Go.RowKit

theorem and1 : ∀ n : Nat, n < 100 → bits BinOp.and IntKind.i64 (n : Int) 1 = ((n % 2 : Nat) : Int) := by decide
theorem indexP (p : Option Addr) (c m : Nat) (L : List Nat) (x : Nat) (w : World) (hm : m ≤ 1000000) (hx : IntsIn w p m (asI L)) (h : x ∈ L) :
    Calls Try.prog 42 #[.slice p m c, .int .i64 (x : Nat)] w fun e w' => e = .returned (.int .i64 (ixN L x : Nat)) ∧ w = w' := by
  have hl := hx.len
  rw [asI_len] at hl
  have hi := ix_lt h
  obtain ⟨b, o, rfl, _, hc⟩ := hx.cells (by omega)
  refine (Sh.slices_Index_int b o m c (asI L) x w (by rw [asI_len]; omega) (by omega) hc).mono fun e w' ⟨h1, h2⟩ => ⟨?_, h2.symm⟩
  rw [h1, Lib.idxOf_hit (asI L) m (ixN L x) x (by omega) (by rw [asI_len]; omega) (by rw [List.getD_eq_getElem?_getD, asI_at, ix_st h]) fun j hj => by
    rw [List.getD_eq_getElem?_getD, asI_at]
    have := ix_no hj
    omega]
theorem IntsIn.drewN {w : World} {p : Option Addr} {n : Nat} {xs : List Int} (h : IntsIn w p n xs) (k : Nat) : IntsIn (w.drewN k) p n xs := h
set_option maxRecDepth 20000 in
set_option maxHeartbeats 4000000 in
theorem parity_any (a b n c : Nat) (p : Option Addr) (l : List Nat) (w : World) (ha : 2 ≤ a) (ha3 : a ≤ 3) (hb : 2 ≤ b) (hb3 : b ≤ 3) (hn : Hid (n = a * b)) (hnc : n ≤ c) (hx : IntsIn w p n (asI l)) (hl : IsOrd n l) :
    Calls Try.prog 43 #[.agg #[.int .i64 a, .int .i64 b, .slice p n c]] w fun e w' => e = .returned (.int .i64 (parN a b l % 2 : Nat)) ∧ Below w.heap.size w w' := by
  have hn9 : n ≤ 9 := by rw [hn.out]; have := Nat.mul_le_mul ha3 hb3; omega
  have hn0 : 0 < n := by rw [hn.out]; exact Nat.mul_pos (by omega) (by omega)
  go_enter Try.func43, Try.ntmps43
  go_upto_region 1 with fail
  have f0 := heap_alloc_new w (.cells #[.int .i64 a, .int .i64 b, .slice p n c] 39)
  have hB0 := (Below.refl w.heap.size w).alloc (Nat.le_refl _) (.cells #[.int .i64 a, .int .i64 b, .slice p n c] 39)
  have hx0 := hx.alloc (.cells #[.int .i64 a, .int .i64 b, .slice p n c] 39)
  generalize w.alloc (.cells #[.int .i64 a, .int .i64 b, .slice p n c] 39) = W0 at *
  have d0 : W0.cell? ⟨w.heap.size, 0, none⟩ = some (.int .i64 (a : Int)) := wcell (cs := [_, _, _]) f0 0
  have d1 : W0.cell? ⟨w.heap.size, 1, none⟩ = some (.int .i64 (b : Int)) := wcell (cs := [_, _, _]) f0 1
  have d2 : W0.cell? ⟨w.heap.size, 2, none⟩ = some (.slice p n c) := wcell (cs := [_, _, _]) f0 2
  obtain ⟨bb, oo, hpe, _, hcc⟩ := hx0.at hn0
  have hcell : Hid (∀ j, j < n → W0.cell? ⟨bb, oo + j, none⟩ = some (.int .i64 (st l j : Nat))) := fun j hj => by rw [hcc j hj, asI_at]
  replace hB0 := Lib.hid hB0; replace hx0 := Lib.hid hx0
  subst hpe
  clear f0 hx hcc
  go_wp2_with fail
  go_loopg [3, 11] n (fun gk nv iv W' => ∃ i : Nat, i ≤ n ∧ gk = n - i ∧ iv = .int .i64 i ∧ nv = .int .i64 (cnz l i : Nat) ∧ W0 = W')
  case atStart => exact ⟨0, by omega, by omega, rfl, rfl, rfl⟩
  case round =>
    obtain ⟨i, hi, hgk, rfl, rfl, rfl⟩ := hrel
    replace hgk := Lib.hid hgk
    by_cases hlt : i < n
    · have c0 := hcell.out i hlt
      obtain ⟨x, hxe⟩ : ∃ x, st l i = x := ⟨_, rfl⟩
      rw [hxe] at c0
      have hcn : Hid (cnz l (i + 1) = cnz l i + mor l x i) := by show _ = _; rw [cnz, hxe]
      have hcb := cnz_le l i
      have hcb2 : i * i ≤ 8 * 8 := Nat.mul_le_mul (by omega) (by omega)
      have hz : Hid (∀ j, j < i → mor l x (j + 1) = mor l x j + if 0 < x ∧ x < st l j then 1 else 0) := fun j _ => rfl
      generalize cnz l i = C at *
      replace hxe := Lib.hid hxe
      have i1 : (i : Int) ≤ (c : Int) := by omega
      have i2 : (0 : Int) ≤ (i : Int) := by omega
      go_wp2_with fail
      go_loopg [3, 21] i (fun gk2 nv jv W' => ∃ j M : Nat, j ≤ i ∧ gk2 = i - j ∧ jv = .int .i64 j ∧ nv = .int .i64 ((C + M : Nat) : Int) ∧ Hid (M = mor l x j) ∧ W0 = W')
      case atStart => exact ⟨0, 0, by omega, by omega, rfl, rfl, Lib.hid rfl, rfl⟩
      case round =>
        obtain ⟨j, M, hj, hgk2, rfl, rfl, hM, rfl⟩ := hrel
        replace hgk2 := Lib.hid hgk2
        have hMb : M ≤ 9 := by have := mor_le l x j; rw [← hM.out] at this; omega
        by_cases hlt2 : j < i
        · have c1 := hcell.out j (by omega)
          have hzj := hz.out j hlt2
          rw [← hM.out] at hzj
          generalize st l j = y at *
          by_cases hx0' : 0 < x
          · have z1 : decide (0 < x) = true := decide_eq_true hx0'
            by_cases hxy : x < y
            · have z2 : decide (x < y) = true := decide_eq_true hxy
              rw [if_pos ⟨hx0', hxy⟩] at hzj
              have hM2 : Hid (M + 1 = mor l x (j + 1)) := hzj.symm
              clear hzj
              go_wp2_with fail
              have hgk2 := hgk2.out
              go_roundg (i - (j + 1))
              case measure => omega
              case rel => exact ⟨j + 1, M + 1, by omega, rfl, by go_num, by go_num, hM2, rfl⟩
            · have z2 : decide (x < y) = false := decide_eq_false hxy
              rw [if_neg (fun h => hxy h.2)] at hzj
              have hM2 : Hid (M = mor l x (j + 1)) := hzj.symm
              clear hzj
              go_wp2_with fail
              have hgk2 := hgk2.out
              go_roundg (i - (j + 1))
              case measure => omega
              case rel => exact ⟨j + 1, M, by omega, rfl, by go_num, by go_num, hM2, rfl⟩
          · have z1 : decide (0 < x) = false := decide_eq_false hx0'
            rw [if_neg (fun h => hx0' h.1)] at hzj
            have hM2 : Hid (M = mor l x (j + 1)) := hzj.symm
            clear hzj
            go_wp2_with fail
            have hgk2 := hgk2.out
            go_roundg (i - (j + 1))
            case measure => omega
            case rel => exact ⟨j + 1, M, by omega, rfl, by go_num, by go_num, hM2, rfl⟩
        · obtain rfl : j = i := by omega
          have hfin : Hid (C + M = cnz l (j + 1)) := by show _ = _; rw [hcn.out, hM.out]
          go_wp2_with fail
          have hgk := hgk.out
          go_roundg (n - (j + 1))
          case measure => omega
          case rel => exact ⟨j + 1, by omega, rfl, by go_num, by rw [← hfin.out], rfl⟩
    · obtain rfl : i = n := by omega
      have hcb := cnz_le l i
      have hcb2 : i * i ≤ 9 * 9 := Nat.mul_le_mul (by omega) (by omega)
      obtain ⟨hgl, hg0⟩ := st_ix hl hn0
      have hrl : ixN l 0 / a < b := Nat.div_lt_of_lt_mul (by rw [← hn.out]; exact hgl)
      have hpar : Hid (parN a b l = cnz l i + rowT a b (ixN l 0)) := by show _ = _; unfold parN; rw [hn.out]
      have HX : Hid (∀ r, Calls Try.prog 42 #[.slice (some ⟨bb, oo, none⟩) i c, .int .i64 0] (W0.drewN r) fun e w' => e = .returned (.int .i64 (ixN l 0 : Nat)) ∧ W0.drewN r = w') := fun r =>
        indexP (some ⟨bb, oo, none⟩) c i l 0 (W0.drewN r) (by omega) (hx0.out.drewN r) (hl.mem hn0)
      generalize ixN l 0 = g at *
      generalize cnz l i = C at *
      have ea := and1 a (by omega)
      rcases Nat.mod_two_eq_zero_or_one a with hm | hm
      · rw [hm] at ea
        have hrow : Hid (parN a b l = C + (b - 1 - g / a)) := by show _ = _; rw [hpar.out]; unfold rowT; rw [if_pos hm]
        have t1' : (g : Int) / (a : Int) = ((g / a : Nat) : Int) := by push_cast; rfl
        have t1 : (g : Int).tdiv (a : Int) = ((g / a : Nat) : Int) := by rw [Int.tdiv_eq_ediv_of_nonneg (by omega)]; exact t1'
        generalize g / a = r at *
        have za : a ≠ 0 := by omega
        replace hm := Lib.hid hm
        obtain ⟨T, hT⟩ : ∃ T, T = C + (b - 1 - r) := ⟨_, rfl⟩
        rw [← hT] at hrow
        have eT := and1 T (by omega)
        have hTI : (C : Int) + ((b : Int) - 1 - (r : Int)) = (T : Int) := by omega
        have w1 : IntKind.i64.wrap ((b : Int) - 1) = (b : Int) - 1 := IntWalk.i64_in _ (by omega)
        have w2 : IntKind.i64.wrap ((b : Int) - 1 - (r : Int)) = (b : Int) - 1 - (r : Int) := IntWalk.i64_in _ (by omega)
        have w3 : IntKind.i64.wrap (T : Int) = (T : Int) := IntWalk.i64_in _ (by omega)
        replace hT := Lib.hid hT
        clear hgl hg0 hl hcell
        go_wp2_with fail
        go_quiet ((go_at_call 42; ((with_reducible refine (HX.out _).mono ?_); exact fun _ _ h => ⟨h.1, _, h.2.symm⟩)))
        go_wp2_with fail
        go_ret
        rw [hrow.out]
        exact ⟨rfl, below_drewN hB0.out nq⟩
      · rw [hm] at ea
        have hrow : Hid (parN a b l = C) := by show _ = _; rw [hpar.out]; unfold rowT; rw [if_neg (by omega), Nat.add_zero]
        have eT := and1 C (by omega)
        replace hm := Lib.hid hm
        clear hgl hg0 hl hcell HX
        go_wp2_with fail
        go_ret
        rw [hrow.out]
        exact ⟨rfl, hB0.out⟩
end Go.Proofs.Ytkakggagaplaiaa
