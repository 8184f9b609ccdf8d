/- What tour.Walks computes: how many walks there are; conditions: a board of 1 to 8 by 1 to 8, places on it, at most 12 leaps, the table of leaps as the program lays it. -/
import Derived.Test.YtebgliipeaelhaaDoorAt
import Derived.Test.YtebgliipeaelhaaDoorWlp
namespace Go.Proofs.YtebgliipeaelhaaDoor
open Go.RowKit

theorem rowIn2 {w w' : World} {g a b B : Nat} (h : FieldIn w g a b) (hb : Below B w w') (hB : w.heap.size ≤ B) : FieldIn w' g a b :=
  h.below ⟨hb.os, hb.tape, hb.output, hb.size, fun k hk => hb.block k (by omega)⟩
theorem asI_cell {w : World} {g : Nat} {t : TypeId} {l : List Nat} (h : Nums w g t (asI l)) {i : Nat} (hi : i < l.length) : w.cell? ⟨g, i, none⟩ = some (.int .i64 (st l i : Nat)) := by
  rw [h.cell (by rw [asI_len]; exact hi), asI_at]

set_option maxRecDepth 100000 in
set_option maxHeartbeats 4000000 in
theorem Walks_any (a b x y t : Nat) (w : World) (ha1 : 1 ≤ a) (ha : a ≤ 8) (hb1 : 1 ≤ b) (hb : b ≤ 8) (hL : Lps w) (hx : x < a * b) (hy : y < a * b) (ht : t ≤ 12) :
    Calls Tryd.prog 6 #[.int .i64 a, .int .i64 b, .int .i64 x, .int .i64 y, .int .i64 t] w fun r w' => r = .returned (.tuple #[.int .i64 (uW a b x t y : Nat), .int .i64 0]) ∧ Below w.heap.size w w' := by
  have hn64 : a * b ≤ 64 := Nat.mul_le_mul ha hb
  have hB0 := (Below.refl w.heap.size w).alloc (Nat.le_refl _) (.cells #[.int .i64 (x : Int), .int .i64 (y : Int)] 3)
  have hp : IntsIn (w.alloc (.cells #[.int .i64 (x : Int), .int .i64 (y : Int)] 3)) (some ⟨w.heap.size, 0, none⟩) 2 (asI [x, y]) := IntsIn.new w _ 3 _ 2 _ rfl (by simp [asI]) rfl
  have H := at_any a b (some ⟨w.heap.size, 0, none⟩) 2 2 [x, y] (w.alloc (.cells #[.int .i64 (x : Int), .int .i64 (y : Int)] 3)) ha1 ha hb1 hb (hL.below hB0) (by omega) hp (by intro q hq; simp at hq; rcases hq with rfl | rfl <;> assumption)
  obtain ⟨N, hN⟩ : ∃ N, N = a * b := ⟨_, rfl⟩
  rw [← hN] at hn64 hx hy H
  replace hN := Lib.hid hN; replace hB0 := Lib.hid hB0
  clear hp hL ha1 ha hb1 hb
  have ht1 : ¬ ((t : Int) < 0) := by omega
  have ht2 : decide ((t : Int) > 12) = false := by simp; omega
  have ht3 : decide ((t : Int) < 0) = false := by simp
  have hz1 : w.heap.size ≤ (w.alloc (.cells #[.int .i64 (x : Int), .int .i64 (y : Int)] 3)).heap.size := hB0.out.size
  go_enter Tryd.func6, Tryd.ntmps6
  go_wp2_with fail
  refine H.mono ?_
  rintro r W ⟨g, rfl, hg, hF, hB⟩
  have hB1 : Hid (Below w.heap.size w W) := hB0.out.trans ⟨hB.os, hB.tape, hB.output, hB.size, fun k hk => hB.block k (by omega)⟩
  clear hB0 hB H
  obtain ⟨W0, rfl⟩ : ∃ W0 : World, W0 = W := ⟨_, rfl⟩
  replace hF := Lib.hid hF
  have hgl : g < W0.heap.size := hF.out.1
  have hxl : x < (List.replicate N (0 : Int)).length := by simpa using hx
  go_wp2_with (at_make; refine wp_make intG W0 W0.heap.size rfl rfl _ _ rfl _ _ _ _ N rfl rfl rfl rfl (by omega) ?_; intro W1 hN1 hB2 hz2; have hfr1 := hN1.free x; have hc1 := hN1.cell (i := x) hxl)
  have hN2 : Hid (Nums (W1.setCell ⟨W0.heap.size, x, none⟩ (.int .i64 1)) W0.heap.size 3 (asI (walkV a b x 0))) := by
    have h := hN1.set x 1
    have e : (List.replicate N (0 : Int)).set x 1 = asI (walkV a b x 0) := by rw [walkV, ← hN.out, asI_set]; simp [asI]
    rw [e] at h
    exact h
  have hB3 : Hid (Below W0.heap.size W0 (W1.setCell ⟨W0.heap.size, x, none⟩ (.int .i64 1))) := hB2.setCell (Nat.le_refl _) _
  have hz3 : W0.heap.size < (W1.setCell ⟨W0.heap.size, x, none⟩ (.int .i64 1)).heap.size := hN2.out.lt
  clear hN1 hB2 hfr1 hc1 hz2
  generalize W1.setCell ⟨W0.heap.size, x, none⟩ (.int .i64 1) = W1 at *
  go_loopg [14, 47] t (fun gk mv kv W' => ∃ (k m : Nat), k ≤ t ∧ gk = t - k ∧ mv = .slice (some ⟨m, 0, none⟩) N N ∧ kv = .int .i64 k ∧ W0.heap.size ≤ m ∧ Nums W' m 3 (asI (walkV a b x k)) ∧ Below W0.heap.size W0 W')
  case atStart => exact ⟨0, W0.heap.size, by omega, rfl, rfl, rfl, Nat.le_refl _, hN2.out, hB3.out⟩
  case round =>
    obtain ⟨k, m, hk, hgk, rfl, rfl, hm, hN4, hB4⟩ := hrel
    obtain ⟨W4, rfl⟩ : ∃ W4 : World, W4 = wr := ⟨_, rfl⟩
    clear hN2 hB3 hz3
    replace hgk := Lib.hid hgk
    have hm4 := hN4.lt
    by_cases hlt : k < t
    · obtain ⟨v, hv⟩ : ∃ v, v = walkV a b x k := ⟨_, rfl⟩
      rw [← hv] at hN4
      have hvl : v.length = N := by rw [hv, walkV_len, hN.out]
      replace hN4 := Lib.hid hN4; replace hB4 := Lib.hid hB4; replace hv := Lib.hid hv; replace hvl := Lib.hid hvl
      go_wp2_with (at_make; refine wp_make intG W4 W4.heap.size rfl rfl _ _ rfl _ _ _ _ N rfl rfl rfl rfl (by omega) ?_; intro W5 hN5 hB5 hz5)
      have hN5' : Hid (Nums W5 W4.heap.size 3 (asI (stepK a b v 0))) := by
        have e : List.replicate N (0 : Int) = asI (stepK a b v 0) := by rw [stepK, ← hN.out]; simp [asI]
        rw [e] at hN5
        exact hN5
      replace hB5 := Lib.hid hB5
      clear hN5
      go_loopg [54] N (fun gk pv W' => ∃ (p : Nat), p ≤ N ∧ gk = N - p ∧ pv = .int .i64 p ∧ Nums W' W4.heap.size 3 (asI (stepK a b v p)) ∧ Below W4.heap.size W4 W')
      case atStart => exact ⟨0, by omega, rfl, rfl, hN5'.out, hB5.out⟩
      case round =>
        obtain ⟨p, hp, hgk2, rfl, hN6, hB6⟩ := hrel
        obtain ⟨W6, rfl⟩ : ∃ W6 : World, W6 = wr := ⟨_, rfl⟩
        clear hN5' hB5 hz5
        replace hgk2 := Lib.hid hgk2
        have hz6 := hN6.lt
        by_cases hlt2 : p < N
        · have hmp := asI_cell (hN4.out.below hB6 hm4) (i := p) (by rw [hvl.out]; exact hlt2)
          have hF4 := rowIn2 hF.out hB4.out (Nat.le_refl _)
          obtain ⟨rp, c, f0, f2, f3⟩ := hF4.2 p (by rw [← hN.out]; exact hlt2)
          have f1 := (hB6.cell (p := ⟨g, p, none⟩) hF4.1).trans f0
          clear f0 hF4
          obtain ⟨z, hz⟩ : ∃ z, z = st v p := ⟨_, rfl⟩
          rw [← hz] at hmp
          replace hz := Lib.hid hz
          obtain ⟨qs, hqs⟩ : ∃ qs, qs = nb a b p := ⟨_, rfl⟩
          rw [← hqs] at f1 f2 f3
          obtain ⟨n, hn⟩ : ∃ n, n = qs.length := ⟨_, rfl⟩
          rw [← hn] at f1 f2 f3
          have hn8 : n ≤ 8 := by rw [hn, hqs]; exact nb_len a b p
          replace hN6 := Lib.hid hN6; replace hB6 := Lib.hid hB6; replace hqs := Lib.hid hqs; replace hn := Lib.hid hn
          replace f2 := Lib.hid f2; replace f3 := Lib.hid f3
          have hsv : Hid (∀ i q, i < n → st (rowK (stepK a b v p) z qs i) q + z ≤ 1099511627776) := fun i q hi => by
            rw [hz.out, hv.out, hqs.out]; exact step_small a b x k p i (by omega) (by rw [← hqs.out, ← hn.out]; exact hi) q
          have hql : Hid (∀ i, i < n → st qs i < N) := fun i hi => by
            have hil : i < qs.length := by rw [← hn.out]; exact hi
            rw [hqs.out] at hil ⊢; unfold st; rw [List.getElem?_eq_getElem hil, hN.out]; exact nb_lt 8 (List.getElem_mem hil)
          have hll : Hid (∀ i, (rowK (stepK a b v p) z qs i).length = N) := fun i => by rw [rowK_len, stepK_len, hN.out]
          have hpe : Hid (rowK (stepK a b v p) z qs n = stepK a b v (p + 1)) := by show _ = _; rw [stepK, ← hz.out, ← hqs.out, ← hn.out]
          go_wp2_with fail
          go_loopg [64] n (fun gk iv W' => ∃ (i : Nat), i ≤ n ∧ gk = n - i ∧ iv = .int .i64 i ∧ Nums W' W4.heap.size 3 (asI (rowK (stepK a b v p) z qs i)) ∧ Below W4.heap.size W4 W')
          case atStart => exact ⟨0, by omega, rfl, rfl, hN6.out, hB6.out⟩
          case round =>
            obtain ⟨i, hi, hgk3, rfl, hN7, hB7⟩ := hrel
            obtain ⟨W7, rfl⟩ : ∃ W7 : World, W7 = wr := ⟨_, rfl⟩
            clear hmp f1 hN6 hB6
            replace hgk3 := Lib.hid hgk3
            by_cases hlt3 : i < n
            · obtain ⟨bb, o, rfl, _, hcc⟩ := (f2.out.below hB7).at (by omega)
              have hq := hcc i hlt3
              rw [asI_at] at hq
              obtain ⟨q, hqe⟩ : ∃ q, q = st qs i := ⟨_, rfl⟩
              rw [← hqe] at hq
              have hqN : q < N := by rw [hqe]; exact hql.out i hlt3
              have hsm := hsv.out i q hlt3
              obtain ⟨l, hl⟩ : ∃ l, l = rowK (stepK a b v p) z qs i := ⟨_, rfl⟩
              rw [← hl] at hN7 hsm
              have hlN : q < l.length := by rw [hl, hll.out]; exact hqN
              have d1 := asI_cell hN7 hlN
              have d2 := hN7.free q
              obtain ⟨u, hu⟩ : ∃ u, u = st l q := ⟨_, rfl⟩
              rw [← hu] at d1 hsm
              have hnx : Hid (Nums (W7.setCell ⟨W4.heap.size, q, none⟩ (.int .i64 ((u + z : Nat) : Int))) W4.heap.size 3 (asI (rowK (stepK a b v p) z qs (i + 1)))) := by
                have h := hN7.set q ((u + z : Nat) : Int)
                rw [rowK, addAt, ← hqe, ← hl, ← hu, asI_set]
                exact h
              have hbx : Hid (Below W4.heap.size W4 (W7.setCell ⟨W4.heap.size, q, none⟩ (.int .i64 ((u + z : Nat) : Int)))) := hB7.setCell (Nat.le_refl _) _
              clear hcc hsv hql hll hN7
              replace hl := Lib.hid hl; replace hu := Lib.hid hu; replace hqe := Lib.hid hqe
              rw [show ((u + z : Nat) : Int) = (u : Int) + (z : Int) by push_cast; rfl] at hnx hbx
              go_wp2_with fail
              have hgk3 := hgk3.out
              go_roundg (n - (i + 1))
              case measure => omega
              case rel => exact ⟨i + 1, by omega, rfl, by go_num, hnx.out, hbx.out⟩
            · obtain rfl : i = n := by omega
              rw [hpe.out] at hN7
              replace hN7 := Lib.hid hN7; replace hB7 := Lib.hid hB7
              clear hsv hql hll
              go_wp2_with fail
              have hgk2 := hgk2.out
              go_roundg (N - (p + 1))
              case measure => omega
              case rel => exact ⟨p + 1, by omega, rfl, by go_num, hN7.out, hB7.out⟩
        · obtain rfl : p = N := by omega
          have hN8 : Hid (Nums W6 W4.heap.size 3 (asI (walkV a b x (k + 1)))) := by show Nums _ _ _ _; rw [walkV, ← hv.out, ← hN.out]; exact hN6
          have hB8 : Hid (Below W0.heap.size W0 W6) := hB4.out.trans (hB6.mono hB4.out.size)
          have hz8 : Hid (W0.heap.size ≤ W4.heap.size) := hB4.out.size
          clear hN6 hB6
          go_wp2_with fail
          have hgk := hgk.out
          go_roundg (t - (k + 1))
          case measure => omega
          case rel => exact ⟨k + 1, W4.heap.size, by omega, rfl, rfl, by go_num, hz8.out, hN8.out, hB8.out⟩
    · obtain rfl : k = t := by omega
      have hyv := asI_cell hN4 (i := y) (by rw [walkV_len, ← hN.out]; exact hy)
      have hB9 : Hid (Below w.heap.size w W4) := hB1.out.trans (hB4.mono hB1.out.size)
      clear hN4 hB4
      go_wp2_with fail
      go_ret2
      exact ⟨rfl, hB9.out⟩
end Go.Proofs.YtebgliipeaelhaaDoor
