/- What is sure in a line, told with the block that it lies in; and where the line has no way; conditions: short lines. -/
import Derived.Test.YtkklcfaghnfleaaNSur
namespace Go.Proofs.Ytkklcfaghnfleaa
open Go.RowKit

set_option maxRecDepth 100000 in
set_option maxHeartbeats 8000000 in
theorem sureO_any (n lc m cc : Nat) (lq cq : Option Addr) (xs : List Int) (ks : List Nat) (w : World) (hn : n ≤ 20) (hm : m ≤ 20) (hlc : n ≤ lc) (hr : ∀ j, j < n → xs[j]?.getD 0 = -1 ∨ 0 ≤ xs[j]?.getD 0) (hks : ∀ k ∈ ks, 1 ≤ k ∧ k ≤ 20) (hpos : 1 ≤ WS xs ks) (hx : IntsIn w lq n xs) (hk : IntsIn w cq m (asI ks)) :
    Calls Try.prog 19 #[.slice lq n lc, .slice cq m cc] w fun r w' => ∃ q c, r = .returned (.tuple #[.slice q n c, .bool true]) ∧ Own 3 w.heap.size w' q n c (sureN xs ks n) ∧ Below w.heap.size w w' := by
  have hlen := hx.len
  have HW := Lib.hid (ways0_any n lc m cc lq cq xs ks w hn hm hlc hks hx hk)
  have HC1 : Hid (∀ (W : World) (p : Option Addr) (c : Nat), IntsIn W p n xs → Calls Try.prog 29 #[.slice p n c] W fun e w' => ∃ p' c', e = .returned (.slice p' n c') ∧ Own 3 W.heap.size w' p' n c' xs ∧ Below W.heap.size W w') := fun W p c h => clone_any p n c xs W (by omega) h
  have HW2 : Hid (∀ (W : World) (p : Option Addr) (c : Nat) (ys : List Int), n ≤ c → IntsIn W p n ys → IntsIn W cq m (asI ks) → Calls Try.prog 15 #[.slice p n c, .slice cq m cc] W fun r w' => r = .returned (.int .i64 (WS ys ks : Int)) ∧ Below W.heap.size W w') := fun W p c ys h1 h2 h3 => ways0_any n c m cc p cq ys ks W hn hm h1 hks h2 h3
  have hall := WS_bound _ xs ks (Nat.le_refl _)
  have hall2 : 2 ^ xs.length ≤ 2 ^ 20 := Nat.pow_le_pow_right (by omega) (by omega)
  replace hx := Lib.hid hx; replace hk := Lib.hid hk; replace hr := Lib.hid hr; replace hlen := Lib.hid hlen
  obtain ⟨al, hal⟩ : ∃ al, al = WS xs ks := ⟨_, rfl⟩
  rw [← hal] at HW hall hpos
  replace hal := Lib.hid hal
  have halb : al ≤ 1048576 := Nat.le_trans hall hall2
  clear hall hall2 hks
  go_enter Try.func19, Try.ntmps19
  go_wp2_with fail
  refine HW.out.mono ?_
  rintro r w1 ⟨rfl, hB1⟩
  have hx1 := Lib.hid (hx.out.below hB1)
  have hk1 := Lib.hid (hk.out.below hB1)
  replace hB1 := Lib.hid hB1
  go_wp2_with fail
  refine (HC1.out w1 _ _ hx1.out).mono ?_
  rintro r w2 ⟨p2, c2, rfl, hO2, hB2⟩
  have hB3 := Lib.hid (hB1.out.trans (hB2.mono hB1.out.size))
  have hk2 := Lib.hid (hk1.out.below hB2)
  have hin2 := Lib.hid hO2.in
  have hO2' := hO2.mono hB1.out.size
  have hcap2 : n ≤ c2 := OwnC.cap (k := 1) hO2
  have hbl2 : Hid (∀ a, p2 = some a → a.block < w2.heap.size) := fun a ha => (hO2.block a ha).2
  replace hO2 := Lib.hid hO2'
  clear hO2' hB2 hB1 hx1 hk1 HW
  go_wp2_with fail
  refine (HC1.out w2 _ _ hin2.out).mono ?_
  rintro r w3 ⟨p3, c3, rfl, hO3, hB4⟩
  have hB5 := Lib.hid (hB3.out.trans (hB4.mono hB3.out.size))
  have hk3 := Lib.hid (hk2.out.below hB4)
  have hO23 := Lib.hid (hO2.out.below hB4 (Nat.le_refl _))
  have hO3' := hO3.mono hB3.out.size
  have hap : Hid (∀ a b, p2 = some a → p3 = some b → a.block ≠ b.block) := fun a b ha hb => by
    have h1 := hbl2.out a ha
    have h2 := (hO3.block b hb).1
    omega
  replace hO3 := Lib.hid hO3'
  clear hO3' hB4 hB3 hk2 hin2 hO2 hbl2
  go_wp2_with fail
  go_loopg [19] n (fun gk jv W' => ∃ j : Nat, j ≤ n ∧ gk = n - j ∧ jv = .int .i64 j ∧ Own 3 w.heap.size W' p2 n c2 xs ∧ Own 3 w.heap.size W' p3 n c3 (sureN xs ks j) ∧ Below w.heap.size w W')
  case atStart => exact ⟨0, by omega, by omega, rfl, hO23.out, by rw [sureN_zero]; exact hO3.out, hB5.out⟩
  case round =>
    obtain ⟨j, hj, hgk, rfl, hOl, hOo, hBr⟩ := hrel
    obtain ⟨W1, rfl⟩ : ∃ W1 : World, W1 = wr := ⟨_, rfl⟩
    replace hgk := Lib.hid hgk
    by_cases hlt : j < n
    · obtain ⟨g2, rfl, hg21, hg22, hg23⟩ := hOl.where (by omega)
      obtain ⟨g3, rfl, hg31, hg32, hg33⟩ := hOo.where (by omega)
      have hne : g2 ≠ g3 := hap.out _ _ rfl rfl
      have hjl : j < xs.length := by rw [hlen.out]; exact hlt
      have k1 := hOl.cell hlt
      obtain ⟨x, hxd⟩ : ∃ x, x = xs[j]?.getD 0 := ⟨_, rfl⟩
      have hsame := Lib.hid (sureN_same xs ks j hjl)
      have hsset := Lib.hid (sureN_set xs ks j)
      have hsat : Hid (sureAt xs ks j = if x ≥ 0 then x else if WS (xs.set j 1) ks = al then 1 else if WS (xs.set j 1) ks = 0 then 0 else -1) := by show _ = _; unfold sureAt; rw [hxd, hal.out]
      rw [← hxd] at k1 hsame
      have hxr := hr.out j hlt
      rw [← hxd] at hxr
      replace hxd := Lib.hid hxd
      by_cases hx0 : 0 ≤ x
      · have hs1 : Hid (sureN xs ks (j + 1) = sureN xs ks j) := hsame.out (by rw [hsat.out, if_pos hx0])
        replace hOl := Lib.hid hOl; replace hOo := Lib.hid hOo; replace hBr := Lib.hid hBr
        go_wp2_with fail
        have hgk := hgk.out
        go_roundg (n - (j + 1))
        case measure => omega
        case rel => exact ⟨j + 1, by omega, rfl, by go_num, hOl.out, by rw [hs1.out]; exact hOo.out, hBr.out⟩
      · obtain rfl : x = -1 := by omega
        have hal0 : ((al : Int) == 0) = false := by simp; omega
        have f1 := hOl.free j
        have hOl1 := hOl.set j 1
        have hB7 := hBr.setCell (p := ⟨g2, j, none⟩) hg21 (.int .i64 1)
        have hOo1 : Own 3 w.heap.size (W1.setCell ⟨g2, j, none⟩ (.int .i64 1)) (some ⟨g3, 0, none⟩) n c3 (sureN xs ks j) := hOo.keep fun a ha => by cases ha; exact wset_ne _ _ (Ne.symm hne)
        have HWj := Lib.hid (HW2.out (W1.setCell ⟨g2, j, none⟩ (.int .i64 1)) (some ⟨g2, 0, none⟩) c2 (xs.set j 1) hg23 hOl1.in (hk.out.below hB7))
        have hwb := WS_bound _ (xs.set j 1) ks (Nat.le_refl _)
        have hwb2 : 2 ^ (xs.set j 1).length ≤ 2 ^ 20 := Nat.pow_le_pow_right (by omega) (by rw [List.length_set, hlen.out]; omega)
        have hwb3 : WS (xs.set j 1) ks ≤ 1048576 := Nat.le_trans hwb hwb2
        generalize WS (xs.set j 1) ks = W1n at *
        clear hwb hwb2
        have hback : (xs.set j 1).set j (-1) = xs := by
          rw [List.set_set]
          have : xs[j] = -1 := by
            have := hxd.out
            rw [List.getElem?_eq_getElem hjl] at this
            simpa using this.symm
          rw [← this, List.set_getElem_self]
        replace hOl := Lib.hid hOl; replace hOo := Lib.hid hOo; replace hBr := Lib.hid hBr; replace hOl1 := Lib.hid hOl1; replace hOo1 := Lib.hid hOo1; replace hB7 := Lib.hid hB7; replace hback := Lib.hid hback
        go_wp2_with fail
        generalize W1.setCell ⟨g2, j, none⟩ (.int .i64 1) = W2 at *
        refine HWj.out.mono ?_
        rintro r w5 ⟨rfl, hB8⟩
        have hsz2 : w.heap.size ≤ W2.heap.size := hB7.out.size
        have hOl5 := hOl1.out.below hB8 (Nat.le_refl _)
        have hOo5 := hOo1.out.below hB8 (Nat.le_refl _)
        have hB9 := hB7.out.trans (hB8.mono hsz2)
        clear hB8 HWj hOl1 hOo1 hB7 hOl hOo hBr k1 f1
        have f3 := hOo5.free j
        have k3 := hOo5.cell hlt
        have f2 := hOl5.free j
        have k2 := hOl5.cell hlt
        generalize (sureN xs ks j)[j]?.getD 0 = so at *
        generalize (xs.set j 1)[j]?.getD 0 = sl at *
        by_cases hA : W1n = al
        · have hAi : ((W1n : Int) == (al : Int)) = true := by simp; omega
          have hs1 : Hid (sureN xs ks (j + 1) = (sureN xs ks j).set j 1) := by show _ = _; rw [hsset.out, hsat.out, if_neg (show ¬ ((-1 : Int) ≥ 0) by omega), if_pos hA]
          have hOoA := hOo5.set j 1
          rw [← hs1.out] at hOoA
          have hOlA : Own 3 w.heap.size (w5.setCell ⟨g3, j, none⟩ (.int .i64 1)) (some ⟨g2, 0, none⟩) n c2 (xs.set j 1) := hOl5.keep fun a ha => by cases ha; exact wset_ne _ _ hne
          have hBA := hB9.setCell (p := ⟨g3, j, none⟩) hg31 (.int .i64 1)
          have k4 := hOlA.cell hlt
          have f4 := hOlA.free j
          have hOlB := hOlA.set j (-1)
          rw [hback.out] at hOlB
          have hOoB : Own 3 w.heap.size ((w5.setCell ⟨g3, j, none⟩ (.int .i64 1)).setCell ⟨g2, j, none⟩ (.int .i64 (-1))) (some ⟨g3, 0, none⟩) n c3 (sureN xs ks (j + 1)) := hOoA.keep fun a ha => by cases ha; exact wset_ne _ _ (Ne.symm hne)
          have hBB := Lib.hid (hBA.setCell (p := ⟨g2, j, none⟩) hg21 (.int .i64 (-1)))
          replace hOoB := Lib.hid hOoB; replace hOlB := Lib.hid hOlB
          clear hOoA hOlA hBA hOl5 hOo5 hB9
          go_wp2_with fail
          have hgk := hgk.out
          go_roundg (n - (j + 1))
          case measure => omega
          case rel => exact ⟨j + 1, by omega, rfl, by go_num, hOlB.out, hOoB.out, hBB.out⟩
        · have hAi : ((W1n : Int) == (al : Int)) = false := by simp; omega
          by_cases hZ : W1n = 0
          · have hZi : ((W1n : Int) == 0) = true := by simp; omega
            have hs1 : Hid (sureN xs ks (j + 1) = (sureN xs ks j).set j 0) := by show _ = _; rw [hsset.out, hsat.out, if_neg (show ¬ ((-1 : Int) ≥ 0) by omega), if_neg hA, if_pos hZ]
            have hOoA := hOo5.set j 0
            rw [← hs1.out] at hOoA
            have hOlA : Own 3 w.heap.size (w5.setCell ⟨g3, j, none⟩ (.int .i64 0)) (some ⟨g2, 0, none⟩) n c2 (xs.set j 1) := hOl5.keep fun a ha => by cases ha; exact wset_ne _ _ hne
            have hBA := hB9.setCell (p := ⟨g3, j, none⟩) hg31 (.int .i64 0)
            have k4 := hOlA.cell hlt
            have f4 := hOlA.free j
            have hOlB := hOlA.set j (-1)
            rw [hback.out] at hOlB
            have hOoB : Own 3 w.heap.size ((w5.setCell ⟨g3, j, none⟩ (.int .i64 0)).setCell ⟨g2, j, none⟩ (.int .i64 (-1))) (some ⟨g3, 0, none⟩) n c3 (sureN xs ks (j + 1)) := hOoA.keep fun a ha => by cases ha; exact wset_ne _ _ (Ne.symm hne)
            have hBB := Lib.hid (hBA.setCell (p := ⟨g2, j, none⟩) hg21 (.int .i64 (-1)))
            replace hOoB := Lib.hid hOoB; replace hOlB := Lib.hid hOlB
            clear hOoA hOlA hBA hOl5 hOo5 hB9
            go_wp2_with fail
            have hgk := hgk.out
            go_roundg (n - (j + 1))
            case measure => omega
            case rel => exact ⟨j + 1, by omega, rfl, by go_num, hOlB.out, hOoB.out, hBB.out⟩
          · have hZi : ((W1n : Int) == 0) = false := by simp; omega
            have hs1 : Hid (sureN xs ks (j + 1) = sureN xs ks j) := hsame.out (by rw [hsat.out, if_neg (show ¬ ((-1 : Int) ≥ 0) by omega), if_neg hA, if_neg hZ])
            have hOlB := hOl5.set j (-1)
            rw [hback.out] at hOlB
            have hOoB : Own 3 w.heap.size (w5.setCell ⟨g2, j, none⟩ (.int .i64 (-1))) (some ⟨g3, 0, none⟩) n c3 (sureN xs ks (j + 1)) := by
              rw [hs1.out]
              exact hOo5.keep fun a ha => by cases ha; exact wset_ne _ _ (Ne.symm hne)
            have hBB := Lib.hid (hB9.setCell (p := ⟨g2, j, none⟩) hg21 (.int .i64 (-1)))
            replace hOoB := Lib.hid hOoB; replace hOlB := Lib.hid hOlB
            clear hOl5 hOo5 hB9
            go_wp2_with fail
            have hgk := hgk.out
            go_roundg (n - (j + 1))
            case measure => omega
            case rel => exact ⟨j + 1, by omega, rfl, by go_num, hOlB.out, hOoB.out, hBB.out⟩
    · obtain rfl : n = j := by omega
      have hal1 : 0 < al := by omega
      replace hOl := Lib.hid hOl; replace hOo := Lib.hid hOo; replace hBr := Lib.hid hBr
      go_wp2_with fail
      go_ret2
      exact ⟨p3, c3, rfl, hOo.out, hBr.out⟩


set_option maxRecDepth 100000 in
set_option maxHeartbeats 8000000 in
theorem sureZ_any (n lc m cc : Nat) (lq cq : Option Addr) (xs : List Int) (ks : List Nat) (w : World) (hn : n ≤ 20) (hm : m ≤ 20) (hlc : n ≤ lc) (hr : ∀ j, j < n → xs[j]?.getD 0 = -1 ∨ 0 ≤ xs[j]?.getD 0) (hks : ∀ k ∈ ks, 1 ≤ k ∧ k ≤ 20) (hpos : WS xs ks = 0) (hx : IntsIn w lq n xs) (hk : IntsIn w cq m (asI ks)) :
    Calls Try.prog 19 #[.slice lq n lc, .slice cq m cc] w fun r w' => ∃ q c, r = .returned (.tuple #[.slice q n c, .bool false]) ∧ Below w.heap.size w w' := by
  have hlen := hx.len
  have HW := Lib.hid (ways0_any n lc m cc lq cq xs ks w hn hm hlc hks hx hk)
  have HC1 : Hid (∀ (W : World) (p : Option Addr) (c : Nat), IntsIn W p n xs → Calls Try.prog 29 #[.slice p n c] W fun e w' => ∃ p' c', e = .returned (.slice p' n c') ∧ Own 3 W.heap.size w' p' n c' xs ∧ Below W.heap.size W w') := fun W p c h => clone_any p n c xs W (by omega) h
  have HW2 : Hid (∀ (W : World) (p : Option Addr) (c : Nat) (ys : List Int), n ≤ c → IntsIn W p n ys → IntsIn W cq m (asI ks) → Calls Try.prog 15 #[.slice p n c, .slice cq m cc] W fun r w' => r = .returned (.int .i64 (WS ys ks : Int)) ∧ Below W.heap.size W w') := fun W p c ys h1 h2 h3 => ways0_any n c m cc p cq ys ks W hn hm h1 hks h2 h3
  have hall := WS_bound _ xs ks (Nat.le_refl _)
  have hall2 : 2 ^ xs.length ≤ 2 ^ 20 := Nat.pow_le_pow_right (by omega) (by omega)
  replace hx := Lib.hid hx; replace hk := Lib.hid hk; replace hr := Lib.hid hr; replace hlen := Lib.hid hlen
  obtain ⟨al, hal⟩ : ∃ al, al = WS xs ks := ⟨_, rfl⟩
  rw [← hal] at HW hall hpos
  replace hal := Lib.hid hal
  have halb : al ≤ 1048576 := Nat.le_trans hall hall2
  clear hall hall2 hks
  go_enter Try.func19, Try.ntmps19
  go_wp2_with fail
  refine HW.out.mono ?_
  rintro r w1 ⟨rfl, hB1⟩
  have hx1 := Lib.hid (hx.out.below hB1)
  have hk1 := Lib.hid (hk.out.below hB1)
  replace hB1 := Lib.hid hB1
  go_wp2_with fail
  refine (HC1.out w1 _ _ hx1.out).mono ?_
  rintro r w2 ⟨p2, c2, rfl, hO2, hB2⟩
  have hB3 := Lib.hid (hB1.out.trans (hB2.mono hB1.out.size))
  have hk2 := Lib.hid (hk1.out.below hB2)
  have hin2 := Lib.hid hO2.in
  have hO2' := hO2.mono hB1.out.size
  have hcap2 : n ≤ c2 := OwnC.cap (k := 1) hO2
  have hbl2 : Hid (∀ a, p2 = some a → a.block < w2.heap.size) := fun a ha => (hO2.block a ha).2
  replace hO2 := Lib.hid hO2'
  clear hO2' hB2 hB1 hx1 hk1 HW
  go_wp2_with fail
  refine (HC1.out w2 _ _ hin2.out).mono ?_
  rintro r w3 ⟨p3, c3, rfl, hO3, hB4⟩
  have hB5 := Lib.hid (hB3.out.trans (hB4.mono hB3.out.size))
  have hk3 := Lib.hid (hk2.out.below hB4)
  have hO23 := Lib.hid (hO2.out.below hB4 (Nat.le_refl _))
  have hO3' := hO3.mono hB3.out.size
  have hap : Hid (∀ a b, p2 = some a → p3 = some b → a.block ≠ b.block) := fun a b ha hb => by
    have h1 := hbl2.out a ha
    have h2 := (hO3.block b hb).1
    omega
  replace hO3 := Lib.hid hO3'
  clear hO3' hB4 hB3 hk2 hin2 hO2 hbl2
  go_wp2_with fail
  go_loopg [19] n (fun gk jv W' => ∃ j : Nat, j ≤ n ∧ gk = n - j ∧ jv = .int .i64 j ∧ Own 3 w.heap.size W' p2 n c2 xs ∧ Own 3 w.heap.size W' p3 n c3 xs ∧ Below w.heap.size w W')
  case atStart => exact ⟨0, by omega, by omega, rfl, hO23.out, hO3.out, hB5.out⟩
  case round =>
    obtain ⟨j, hj, hgk, rfl, hOl, hOo, hBr⟩ := hrel
    obtain ⟨W1, rfl⟩ : ∃ W1 : World, W1 = wr := ⟨_, rfl⟩
    replace hgk := Lib.hid hgk
    by_cases hlt : j < n
    · obtain ⟨g2, rfl, hg21, hg22, hg23⟩ := hOl.where (by omega)
      have k1 := hOl.cell hlt
      generalize xs[j]?.getD 0 = x at *
      subst hpos
      replace hOl := Lib.hid hOl; replace hOo := Lib.hid hOo; replace hBr := Lib.hid hBr
      clear hr hap
      rcases Int.lt_or_le x 0 with hx0 | hx0
      · have hd : ¬ 0 ≤ x := by omega
        have hd2 : decide (0 ≤ x) = false := decide_eq_false hd
        go_wp2_with fail
        have hgk := hgk.out
        go_roundg (n - (j + 1))
        case measure => omega
        case rel => exact ⟨j + 1, by omega, rfl, by go_num, hOl.out, hOo.out, hBr.out⟩
      · have hd2 : decide (0 ≤ x) = true := decide_eq_true hx0
        go_wp2_with fail
        have hgk := hgk.out
        go_roundg (n - (j + 1))
        case measure => omega
        case rel => exact ⟨j + 1, by omega, rfl, by go_num, hOl.out, hOo.out, hBr.out⟩
    · obtain rfl : n = j := by omega
      subst hpos
      replace hOl := Lib.hid hOl; replace hOo := Lib.hid hOo; replace hBr := Lib.hid hBr
      go_wp2_with fail
      go_ret2
      exact ⟨p3, c3, rfl, hBr.out⟩

end Go.Proofs.Ytkklcfaghnfleaa
