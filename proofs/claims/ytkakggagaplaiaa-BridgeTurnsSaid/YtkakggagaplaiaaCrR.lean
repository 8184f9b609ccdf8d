/- What crib.runs computes; conditions: five cards below 52. -/
import Derived.Test.YtkakggagaplaiaaCrB
namespace Go.Proofs.Ytkakggagaplaiaa
open Go.RowKit

def cnj (l : List Nat) (j p : Nat) : Nat := (l.take j).countP fun c => pipN c == p
theorem cnj_succ {l : List Nat} {j : Nat} (h : j < l.length) (p : Nat) : cnj l (j + 1) p = cnj l j p + if pipN (st l j) = p then 1 else 0 := by
  unfold cnj
  rw [take_snoc l j h, List.countP_append]
  congr 1
  by_cases e : pipN (st l j) = p
  · rw [if_pos e]; simp [e]
  · rw [if_neg e]; simp [e]
theorem cnj_le (l : List Nat) (j p : Nat) : cnj l j p ≤ j := Nat.le_trans List.countP_le_length (by simp; omega)
theorem cnj_14 (l : List Nat) (j : Nat) : cnj l j 14 = 0 := by
  unfold cnj
  rw [List.countP_eq_zero]
  intro x _
  have := pipN_bd x
  simp; omega
theorem Nums.cellN {w : World} {g : Nat} {t : TypeId} {s : List Nat} (h : Nums w g t (asI s)) {i : Nat} (hi : i < s.length) : w.cell? ⟨g, i, none⟩ = some (.int .i64 (st s i : Nat)) := by
  rw [h.cell (by rw [asI_len]; exact hi), asI_at]
theorem rk_pos {f : Nat → Nat} {p n k w : Nat} (h : 0 < f (min (p + k) 14)) : rk f p (n + 1) k w = rk f p n (k + 1) (w * f (p + k)) := by rw [rk, if_pos h]
theorem rk_zero {f : Nat → Nat} {p n k w : Nat} (h : f (min (p + k) 14) = 0) : rk f p (n + 1) k w = (k, w) := by rw [rk, if_neg (by omega)]
set_option maxRecDepth 100000 in
set_option maxHeartbeats 8000000 in
theorem runs_any (p : Option Addr) (c : Nat) (cr : Bool) (l : List Nat) (w : World) (hx : IntsIn w p 5 (asI l)) (hl : ∀ i, i < 5 → st l i < 52) :
    Calls Try.prog 86 #[.slice p 5 c, .bool cr] w fun e w' => e = .returned (.int .i64 ((rnS (mny l) 14).2 : Nat)) ∧ Below w.heap.size w w' := by
  obtain ⟨R, hR⟩ : ∃ R, R = (rnS (mny l) 14).2 := ⟨_, rfl⟩
  rw [← hR]
  have hll : Hid (l.length = 5) := by have := hx.len; rwa [asI_len] at this
  have hmn : Hid (∀ q, mny l q = cnj l 5 q) := fun q => by unfold mny cnj; rw [List.take_of_length_le (by rw [hll.out]; exact Nat.le_refl _)]
  replace hR := Lib.hid hR
  obtain ⟨bb, oo, rfl, hbb, hcc⟩ := hx.at (by omega)
  have hcell : Hid (∀ j, j < 5 → w.cell? ⟨bb, oo + j, none⟩ = some (.int .i64 (st l j : Nat))) := fun j hj => by rw [hcc j hj, asI_at]
  replace hl := Lib.hid hl
  clear hx hcc
  go_enter Try.func86, Try.ntmps86
  go_upto_region 2 with fail
  have hN : Hid (Nums (w.alloc (.cells #[.int .i64 0, .int .i64 0, .int .i64 0, .int .i64 0, .int .i64 0, .int .i64 0, .int .i64 0, .int .i64 0, .int .i64 0, .int .i64 0, .int .i64 0, .int .i64 0, .int .i64 0, .int .i64 0, .int .i64 0] 135)) w.heap.size 135 (asI [0, 0, 0, 0, 0, 0, 0, 0, 0, 0, 0, 0, 0, 0, 0])) := heap_alloc_new w _
  have hB := Lib.hid ((Below.refl w.heap.size w).alloc (Nat.le_refl _) (.cells #[.int .i64 0, .int .i64 0, .int .i64 0, .int .i64 0, .int .i64 0, .int .i64 0, .int .i64 0, .int .i64 0, .int .i64 0, .int .i64 0, .int .i64 0, .int .i64 0, .int .i64 0, .int .i64 0, .int .i64 0] 135))
  generalize w.alloc (.cells #[.int .i64 0, .int .i64 0, .int .i64 0, .int .i64 0, .int .i64 0, .int .i64 0, .int .i64 0, .int .i64 0, .int .i64 0, .int .i64 0, .int .i64 0, .int .i64 0, .int .i64 0, .int .i64 0, .int .i64 0] 135) = W0 at *
  go_wp2_with fail
  go_loopg [15] 5 (fun gk iv W' => ∃ (j : Nat) (ms : List Nat), j ≤ 5 ∧ gk = 5 - j ∧ iv = .int .i64 j ∧ Nums W' w.heap.size 135 (asI ms) ∧ ms.length = 15 ∧ (∀ q, q < 15 → st ms q = cnj l j q) ∧ Below w.heap.size w W')
  case atStart => exact ⟨0, _, by omega, by omega, rfl, hN.out, rfl, fun q hq => by
    have : ∀ q, q < 15 → st [0, 0, 0, 0, 0, 0, 0, 0, 0, 0, 0, 0, 0, 0, 0] q = 0 := by decide
    rw [this q hq]; unfold cnj; simp, hB.out⟩
  case round =>
    obtain ⟨j, ms, hj, hgk, rfl, hM, hml, hms, hB1⟩ := hrel
    obtain ⟨W1, rfl⟩ : ∃ W1 : World, W1 = wr := ⟨_, rfl⟩
    replace hgk := Lib.hid hgk
    clear hN hB
    by_cases hlt : j < 5
    · have c0 : W1.cell? ⟨bb, oo + j, none⟩ = some (.int .i64 (st l j : Nat)) := (hB1.cell (p := ⟨bb, oo + j, none⟩) hbb).trans (hcell.out j hlt)
      have hx52 := hl.out j hlt
      have hst : Hid (∀ q, cnj l (j + 1) q = cnj l j q + if pipN (st l j) = q then 1 else 0) := fun q => cnj_succ (by rw [hll.out]; exact hlt) q
      generalize st l j = x at *
      have HP := Lib.hid (pip_any x W1 (by omega))
      have hpb := pipN_bd x
      generalize pipN x = P at *
      have c1 := hM.cellN (i := P) (by omega)
      have f1 := hM.free P
      have hmP := hms P (by omega)
      have hle := cnj_le l j P
      rw [← hmP] at hle
      have hM2 : Hid (Nums (W1.setCell ⟨w.heap.size, P, none⟩ (.int .i64 ((st ms P + 1 : Nat) : Int))) w.heap.size 135 (asI (ms.set P (st ms P + 1)))) := by
        show Nums _ _ _ _
        rw [asI_set]; exact hM.set P _
      have hms2 : Hid (∀ q, q < 15 → st (ms.set P (st ms P + 1)) q = cnj l (j + 1) q) := fun q hq => by
        rw [st_setN _ _ _ _ (by omega), hst.out q]
        by_cases e : q = P
        · rw [if_pos e, if_pos e.symm, e, hmP]
        · rw [if_neg e, if_neg (fun e2 => e e2.symm), hms q hq, Nat.add_zero]
      have hml2 : Hid ((ms.set P (st ms P + 1)).length = 15) := by show _ = _; simp [hml]
      have hB2 := Lib.hid (hB1.setCell (p := ⟨w.heap.size, P, none⟩) (Nat.le_refl _) (.int .i64 ((st ms P + 1 : Nat) : Int)))
      generalize st ms P = C at *
      have i1 : (P : Int) < 15 := by omega
      have i2 : (0 : Int) ≤ (P : Int) := by omega
      clear hM hms hB1 hmP hst
      replace hml := Lib.hid hml
      go_wp2_with fail
      refine HP.out.mono ?_
      rintro e w' ⟨rfl, rfl⟩
      go_wp2_with fail
      have hgk := hgk.out
      go_roundg (5 - (j + 1))
      case measure => omega
      case rel => exact ⟨j + 1, _, by omega, rfl, by go_num, hM2.out, hml2.out, hms2.out, hB2.out⟩
    · obtain rfl : j = 5 := by omega
      have hf : Hid (∀ q, q < 15 → mny l q = st ms q) := fun q hq => by rw [hmn.out, hms q hq]
      have hcl : Hid (∀ q, q < 15 → W1.cell? ⟨w.heap.size, q, none⟩ = some (.int .i64 (st ms q : Nat))) := fun q hq => hM.cellN (by omega)
      have h14 : mny l 14 = 0 := by rw [hmn.out, cnj_14]
      have h5 : Hid (∀ q, mny l q ≤ 5) := fun q => by rw [hmn.out]; exact cnj_le l 5 q
      replace hB1 := Lib.hid hB1
      clear hM hms hml
      have hcm : Hid (∀ q, q < 15 → W1.cell? ⟨w.heap.size, q, none⟩ = some (.int .i64 (mny l q : Nat))) := fun q hq => by rw [hf.out q hq]; exact hcl.out q hq
      clear hf hcl hmn hcell hl hll
      generalize mny l = f at *
      replace h14 := Lib.hid h14
      go_wp2_with fail
      go_loopg [8, 9, 10] 14 (fun gk bv lv pv W' => ∃ (p L B : Nat), p ≤ 14 ∧ gk = 14 - p ∧ pv = .int .i64 ((p + 1 : Nat) : Int) ∧ lv = .int .i64 L ∧ bv = .int .i64 B ∧ Hid (rnS f p = (L, B)) ∧ L ≤ 14 ∧ W1 = W')
      case atStart => exact ⟨0, 0, 0, by omega, by omega, rfl, rfl, rfl, Lib.hid rfl, by omega, rfl⟩
      case round =>
        obtain ⟨p, L, B, hp, hgk, rfl, rfl, rfl, hrn, hL, rfl⟩ := hrel
        replace hgk := Lib.hid hgk
        by_cases hlt : p < 14
        · go_wp2_with fail
          go_loopg [11, 12] (14 - p) (fun gk2 kv wv W' => ∃ (k ww : Nat), p + 1 + k ≤ 14 ∧ gk2 = 14 - p - k ∧ kv = .int .i64 k ∧ wv = .int .i64 ww ∧ Hid (rk f (p + 1) 15 0 1 = rk f (p + 1) (15 - k) k ww) ∧ ww ≤ 5 ^ k ∧ W1 = W')
          case atStart => exact ⟨0, 1, by omega, by omega, rfl, rfl, Lib.hid rfl, by simp, rfl⟩
          case round =>
            obtain ⟨k, ww, hk, hgk2, rfl, rfl, hrk, hw, rfl⟩ := hrel
            replace hgk2 := Lib.hid hgk2
            have hmi : min (p + 1 + k) 14 = p + 1 + k := by omega
            have c0 := hcm.out (p + 1 + k) (by omega)
            have hfb := h5.out (p + 1 + k)
            have hk13 : (5 : Nat) ^ k ≤ 5 ^ 13 := Nat.pow_le_pow_right (by omega) (by omega)
            have hm1 : min ((p : Int) + 1 + (k : Int)) 14 = ((p + 1 + k : Nat) : Int) := by omega
            by_cases hpos : 0 < f (p + 1 + k)
            · have hne14 : p + 1 + k ≠ 14 := fun e => by rw [e, h14.out] at hpos; omega
              have hrk2 : Hid (rk f (p + 1) 15 0 1 = rk f (p + 1) (15 - (k + 1)) (k + 1) (ww * f (p + 1 + k))) := by
                show _ = _
                rw [hrk.out, show 15 - k = (15 - (k + 1)) + 1 by omega, rk_pos (by rw [hmi]; exact hpos)]
              have hw2 : ww * f (p + 1 + k) ≤ 5 ^ (k + 1) := by rw [Nat.pow_succ]; exact Nat.mul_le_mul hw hfb
              have hk14 : (5 : Nat) ^ (k + 1) ≤ 5 ^ 14 := Nat.pow_le_pow_right (by omega) (by omega)
              generalize hC : f (p + 1 + k) = C at *
              replace hC := Lib.hid hC
              obtain ⟨WC, hWC⟩ : ∃ WC, ww * C = WC := ⟨_, rfl⟩
              rw [hWC] at hrk2 hw2
              have hWb : WC ≤ 6103515625 := by omega
              have hmI : (ww : Int) * (C : Int) = (WC : Int) := by rw [← hWC]; push_cast; rfl
              have w1 : IntKind.i64.wrap (WC : Int) = WC := IntWalk.i64_in _ (by omega)
              obtain ⟨q, hq⟩ : ∃ q, q = p + 1 + k := ⟨_, rfl⟩
              have hqI : (p : Int) + 1 + (k : Int) = (q : Int) := by omega
              rw [← hq] at c0 hm1
              have hmq : min (q : Int) 14 = (q : Int) := by omega
              have i1 : (q : Int) < 15 := by omega
              have i2 : (0 : Int) ≤ (q : Int) := by omega
              have hmn : min q 14 = q := by omega
              have hpos2 : ((0 : Int) < (C : Int)) := by omega
              replace hWC := Lib.hid hWC; replace hq := Lib.hid hq; replace hw := Lib.hid hw; replace hk13 := Lib.hid hk13; replace hk14 := Lib.hid hk14; replace hw2 := Lib.hid hw2
              clear hm1 hmi hrk
              go_wp2_with fail
              have hgk2 := hgk2.out
              go_roundg (14 - p - (k + 1))
              case measure => omega
              case rel => exact ⟨k + 1, WC, by have := hq.out; omega, rfl, by go_num, rfl, hrk2, hw2.out, rfl⟩
            · have hz : f (p + 1 + k) = 0 := by omega
              have hrk2 : Hid (rk f (p + 1) 15 0 1 = (k, ww)) := by
                show _ = _
                rw [hrk.out, show 15 - k = (14 - k) + 1 by omega, rk_zero (by rw [hmi]; exact hz)]
              have hst : Hid (rnS f (p + 1) = if 3 ≤ k ∧ L < k then (k, k * ww) else (L, B)) := by
                show _ = _
                rw [rnS, hrn.out, stepR, hrk2.out]
              rw [hz] at c0
              obtain ⟨q, hq⟩ : ∃ q, q = p + 1 + k := ⟨_, rfl⟩
              have hqI : (p : Int) + 1 + (k : Int) = (q : Int) := by omega
              rw [← hq] at c0 hm1
              have hmq : min (q : Int) 14 = (q : Int) := by omega
              have hmn : min q 14 = q := by omega
              have i1 : (q : Int) < 15 := by omega
              have i2 : (0 : Int) ≤ (q : Int) := by omega
              have hwb : ww ≤ 1220703125 := by omega
              obtain ⟨KW, hKW⟩ : ∃ KW, k * ww = KW := ⟨_, rfl⟩
              have hKWb : KW ≤ 14 * 1220703125 := by rw [← hKW]; exact Nat.mul_le_mul (by omega) hwb
              have hkI : (k : Int) * (ww : Int) = (KW : Int) := by rw [← hKW]; push_cast; rfl
              have w1 : IntKind.i64.wrap (KW : Int) = KW := IntWalk.i64_in _ (by omega)
              rw [hKW] at hst
              replace hKW := Lib.hid hKW; replace hq := Lib.hid hq; replace hw := Lib.hid hw; replace hk13 := Lib.hid hk13; replace hz := Lib.hid hz
              clear hm1 hmi hrk hpos
              by_cases h3 : 3 ≤ k
              · by_cases hLk : L < k
                · have hst2 : Hid (rnS f (p + 1) = (k, KW)) := by show _ = _; rw [hst.out, if_pos ⟨h3, hLk⟩]
                  have e3 : decide ((3 : Int) ≤ (k : Int)) = true := decide_eq_true (by omega)
                  have eL : decide (L < k) = true := decide_eq_true hLk
                  clear hst
                  go_wp2_with fail
                  have hgk := hgk.out
                  go_roundg (14 - (p + 1))
                  case measure => omega
                  case rel => exact ⟨p + 1, k, KW, by omega, rfl, by go_num, rfl, rfl, hst2, by omega, rfl⟩
                · have hst2 : Hid (rnS f (p + 1) = (L, B)) := by show _ = _; rw [hst.out, if_neg (fun h => hLk h.2)]
                  have e3 : decide ((3 : Int) ≤ (k : Int)) = true := decide_eq_true (by omega)
                  have eL : decide (L < k) = false := decide_eq_false hLk
                  clear hst
                  go_wp2_with fail
                  have hgk := hgk.out
                  go_roundg (14 - (p + 1))
                  case measure => omega
                  case rel => exact ⟨p + 1, L, B, by omega, rfl, by go_num, rfl, rfl, hst2, hL, rfl⟩
              · have hst2 : Hid (rnS f (p + 1) = (L, B)) := by show _ = _; rw [hst.out, if_neg (fun h => h3 h.1)]
                have e3 : decide ((3 : Int) ≤ (k : Int)) = false := decide_eq_false (by omega)
                clear hst
                go_wp2_with fail
                have hgk := hgk.out
                go_roundg (14 - (p + 1))
                case measure => omega
                case rel => exact ⟨p + 1, L, B, by omega, rfl, by go_num, rfl, rfl, hst2, hL, rfl⟩
        · obtain rfl : p = 14 := by omega
          have hRe : Hid (R = B) := by show _ = _; rw [hR.out, hrn.out]
          go_wp2_with fail
          go_ret
          rw [hRe.out]
          exact ⟨rfl, hB1.out⟩
end Go.Proofs.Ytkakggagaplaiaa
