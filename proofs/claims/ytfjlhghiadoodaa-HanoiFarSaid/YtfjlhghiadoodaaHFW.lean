/- gameroomkeep.HanoiFar returns true whatever it is given; conditions: the slices read as lists of ints of 64 bits, the others are ints of 64 bits. -/
import Derived.Test.YtfjlhghiadoodaaFarW
import Derived.Test.YtfjlhghiadoodaaDoW
import Derived.Test.YtfjlhghiadoodaaDisc
import Derived.Deep.DeepCutAuto
namespace Go.Proofs.Ytfjlhghiadoodaa
open Go.RowKit

theorem far_small : F (st [0, 0]) (st [2, 2]) 2 = 3 := by decide
theorem zero_same (s t : List Nat) (n : Nat) (hs : s.length = n) (ht : t.length = n) : (((F (st s) (st t) n : Nat) : Int) == 0) = decide (asI s = asI t) := by
  by_cases h : F (st s) (st t) n = 0
  · have e := (F_zero (st s) (st t) n).1 h
    have : s = t := by
      apply List.ext_getElem (by omega)
      intro i h1 h2
      have := e i (by omega)
      simpa [st, h1, h2] using this
    subst this
    simp [h]
  · have : asI s ≠ asI t := by
      intro e
      apply h
      rw [F_zero]
      intro i hi
      have e1 := asI_at s i
      rw [e, asI_at t i] at e1
      exact_mod_cast e1.symm
    simp [h, this]

set_option maxRecDepth 100000 in
set_option maxHeartbeats 4000000 in
theorem hf_any (p1 p2 : Option Addr) (n1 c1 n2 c2 : Nat) (xs ys : List Int) (a b : Int) (w : World) (hn1 : n1 ≤ 9223372036854775807) (hn2 : n2 ≤ 9223372036854775807) (hx : IntsIn w p1 n1 xs) (hy : IntsIn w p2 n2 ys)
    (hw1 : ∀ j, j < n1 → -9223372036854775808 ≤ xs[j]?.getD 0 ∧ xs[j]?.getD 0 ≤ 9223372036854775807) (hw2 : ∀ j, j < n2 → -9223372036854775808 ≤ ys[j]?.getD 0 ∧ ys[j]?.getD 0 ≤ 9223372036854775807)
    (a1 : -9223372036854775808 ≤ a) (a2 : a ≤ 9223372036854775807) (b1 : -9223372036854775808 ≤ b) (b2 : b ≤ 9223372036854775807) :
    Calls Try.prog 3 #[.slice p1 n1 c1, .slice p2 n2 c2, .int .i64 a, .int .i64 b] w fun e w' => e = .returned (.bool true) ∧ Below w.heap.size w w' := by
  have hxl := hx.len; have hyl := hy.len
  have PA := Lib.hid (fun W => picked_any a 3 W a1 a2 (by omega) (by omega) 3 rfl)
  have PB := Lib.hid (fun W => picked_any b 3 W b1 b2 (by omega) (by omega) 3 rfl)
  have pa := pick_lt a 3 (by omega); have pb := pick_lt b 3 (by omega)
  generalize pick a 3 = x at *
  generalize pick b 3 = y at *
  have X := Lib.hid (discs_any p1 n1 c1 30 xs w hn1 (by omega) hx hw1 30 rfl)
  replace hxl := Lib.hid hxl; replace hyl := Lib.hid hyl; replace hw1 := Lib.hid hw1; replace hw2 := Lib.hid hw2
  replace hy := Lib.hid hy
  clear hx
  go_enter Try.func3, Try.ntmps3
  go_wp2_with fail
  refine X.out.mono ?_
  rintro e w1 ⟨q1, m1, k1, rfl, em1, hmk1, hS, hB⟩
  have hy1 := hy.out.below hB
  replace hB := Lib.hid hB; replace hS := Lib.hid hS; replace em1 := Lib.hid em1
  go_wp2_with fail
  refine (discs_any p2 n2 c2 30 ys w1 hn2 (by omega) hy1 hw2.out 30 rfl).mono ?_
  rintro e w2 ⟨q2, m2, k2, rfl, em2, hmk2, hT, hB2⟩
  replace hS := Lib.hid (hS.out.below hB2)
  replace hB := Lib.hid (hB.out.trans (hB2.mono hB.out.size)); clear hB2 hy1
  have hSl := hS.out.len; have hTl := hT.len
  rw [asI_len] at hSl hTl
  have e1 := em1.out
  generalize hs : dsc xs m1 = s at *
  generalize ht : dsc ys m2 = t at *
  have hs3 : ∀ j, st s j < 3 := by rw [← hs]; exact dsc_lt xs m1
  have ht3 : ∀ j, st t j < 3 := by rw [← ht]; exact dsc_lt ys m2
  have hm1 : m1 ≤ 30 := by omega
  have hm2 : m2 ≤ 30 := by omega
  clear e1
  replace hT := Lib.hid hT; replace hSl := Lib.hid hSl; replace hTl := Lib.hid hTl; replace em2 := Lib.hid em2; replace hs3 := Lib.hid hs3; replace ht3 := Lib.hid ht3
  go_upto_if 29 with (fail)
  go_cut [10] (fun v W => ∃ m : Nat, m = min m1 m2 ∧ v = .slice q2 m k2 ∧ w2 = W)
  case first =>
    by_cases h : m1 < m2
    · have h' : (m1 : Int) < m2 := by omega
      have h3 : (m1 : Int) ≤ k2 := by omega
      go_wp2
      go_meet
      exact ⟨m1, by omega, rfl, rfl⟩
    · have h' : ¬ (m1 : Int) < m2 := by omega
      go_wp2
      go_meet
      exact ⟨m2, by omega, rfl, rfl⟩
  case rest =>
    obtain ⟨n, en, rfl, rfl⟩ := hcut
    have hn1' : n ≤ m1 := by omega
    have hn2' : n ≤ m2 := by omega
    have h4 : (n : Int) ≤ k1 := by omega
    replace en := Lib.hid en
    go_wp2_with fail
    have S0 := take_in hS.out hn1'
    have T0 := take_in hT.out hn2'
    rw [asI_take] at S0 T0
    have s3 := st_take_lt hs3.out n
    have t3 := st_take_lt ht3.out n
    have sl : (s.take n).length = n := by simp; have := hSl.out; omega
    have tl : (t.take n).length = n := by simp; have := hTl.out; omega
    generalize s.take n = sN at *
    generalize t.take n = tN at *
    have FA := fun W h1 h2 => far_any q1 q2 n k1 k2 sN tN W (by omega) (by omega) (by omega) h1 h2 s3 t3
    have FB := fun W h1 h2 => far_any q2 q1 n k2 k1 tN sN W (by omega) (by omega) (by omega) h1 h2 t3 s3
    have hsym := F_symm (st tN) (st sN) n
    rw [hsym] at FB
    have hz := zero_same sN tN n sl tl
    have hlt := F_lt (st sN) (st tN) n
    have hp30 : 2 ^ n ≤ 2 ^ 30 := Nat.pow_le_pow_right (by omega) (by omega)
    have hsh := shl_lt n (by omega)
    obtain ⟨P, hP⟩ : ∃ P, P = 2 ^ n := ⟨_, rfl⟩
    have e2 : (2 : Int) ^ n = (P : Int) := by rw [hP]; push_cast; rfl
    rw [← hP] at hlt hp30
    rw [e2] at hsh
    obtain ⟨d, hd⟩ : ∃ d, d = F (st sN) (st tN) n := ⟨_, rfl⟩
    rw [← hd] at FA FB hz hlt
    have hDO := fun W h => do_any q1 n k1 sN x y W (by omega) h s3 pa pb x y 0 rfl rfl
    have hFAR := fun (u : List Nat) (i : Nat) (hM : Moved (st sN) (st u) i x y) (hi : i < n) => (show F (st sN) (st u) n = 1 ∧ F (st u) (st tN) n ≤ d + 1 ∧ d ≤ F (st u) (st tN) n + 1 from
      ⟨F_one hM n hi, by rw [hd]; exact F_move hM s3 t3 n hi, by
        rw [hd]
        have hu3 : ∀ j, st u j < 3 := fun j => by
          by_cases e : j = i
          · rw [e, hM.ui]; exact pb
          · rw [hM.same j e]; exact s3 j
        exact F_move hM.back hu3 t3 n hi⟩)
    have hn30 : n ≤ 30 := by omega
    have hnk2 : n ≤ k2 := by omega
    have hd1 : ¬ ((d : Int) < 0) := by omega
    have hd2 : ¬ ((P : Int) - 1 < d) := by omega
    have hP30 : (P : Int) ≤ 1073741824 := by omega
    have hP1 : (1 : Int) ≤ P := by omega
    replace FA := Lib.hid FA; replace FB := Lib.hid FB; replace hsym := Lib.hid hsym; replace hd := Lib.hid hd; replace hP := Lib.hid hP; replace hDO := Lib.hid hDO; replace hFAR := Lib.hid hFAR
    replace sl := Lib.hid sl; replace tl := Lib.hid tl; replace s3 := Lib.hid s3; replace t3 := Lib.hid t3; replace S0 := Lib.hid S0; replace T0 := Lib.hid T0; replace hz := Lib.hid hz
    clear hS hT hSl hTl hs3 ht3 hp30 hn1' hn2'
    refine (FA.out _ S0.out T0.out).mono ?_
    rintro e w3 ⟨rfl, hB2⟩
    replace S0 := Lib.hid (S0.out.below hB2); replace T0 := Lib.hid (T0.out.below hB2)
    replace hB := Lib.hid (hB.out.trans (hB2.mono hB.out.size)); clear hB2
    go_wp2_with fail
    refine (FB.out _ T0.out S0.out).mono ?_
    rintro e w4 ⟨rfl, hB2⟩
    replace S0 := Lib.hid (S0.out.below hB2); replace T0 := Lib.hid (T0.out.below hB2)
    replace hB := Lib.hid (hB.out.trans (hB2.mono hB.out.size)); clear hB2
    go_wp2_with fail
    have U1 := (IntsIn.new w4 #[.int .i64 0, .int .i64 0] 3 w4.heap.size 2 (asI [0, 0]) rfl rfl rfl).alloc (.cells #[.int .i64 2, .int .i64 2] 3)
    have U2 := IntsIn.new (w4.alloc (.cells #[.int .i64 0, .int .i64 0] 3)) #[.int .i64 2, .int .i64 2] 3 (w4.heap.size + 1) 2 (asI [2, 2]) (by simp) rfl rfl
    have BB := below2 w4 (.cells #[.int .i64 0, .int .i64 0] 3) (.cells #[.int .i64 2, .int .i64 2] 3)
    have FC := far_any _ _ 2 2 2 [0, 0] [2, 2] _ (by omega) (by omega) (by omega) U1 U2 (by intro j; match j with | 0 => decide | 1 => decide | (j + 2) => simp [st]) (by intro j; match j with | 0 => decide | 1 => decide | (j + 2) => simp [st])
    rw [far_small] at FC
    refine FC.mono ?_
    rintro e w5 ⟨rfl, hB2⟩
    have BC := BB.trans (hB2.mono BB.size)
    replace S0 := Lib.hid (S0.out.below BC); replace T0 := Lib.hid (T0.out.below BC)
    replace hB := Lib.hid (hB.out.trans (BC.mono hB.out.size)); clear hB2 BC BB FC U1 U2
    have SM := same_any q1 q2 n k1 n k2 (asI sN) (asI tN) w5 (by omega) S0.out T0.out
    have hz := hz.out
    generalize decide (asI sN = asI tN) = bq at *
    replace SM := Lib.hid SM
    go_wp2_with fail
    refine SM.out.mono ?_
    rintro e w6 ⟨rfl, hB2⟩
    replace S0 := Lib.hid (S0.out.below hB2); replace T0 := Lib.hid (T0.out.below hB2)
    replace hB := Lib.hid (hB.out.trans (hB2.mono hB.out.size)); clear hB2 SM
    replace hz := Lib.hid hz
    go_wp2_with fail
    refine (PA.out _).mono ?_
    rintro e w' ⟨rfl, rfl⟩
    go_wp2_with fail
    refine (PB.out _).mono ?_
    rintro e w' ⟨rfl, rfl⟩
    go_wp2_with fail
    refine (hDO.out _ S0.out).mono ?_
    rintro e w7 ⟨p7, m7, k7, u, er, rfl, hend, hok, hB2⟩
    replace S0 := Lib.hid (S0.out.below hB2); replace T0 := Lib.hid (T0.out.below hB2)
    replace hB := Lib.hid (hB.out.trans (hB2.mono hB.out.size)); clear hB2

    rcases hend with ⟨ee, _⟩ | ⟨ee, _⟩ | ⟨ee, _⟩ | ⟨ee, i, hi, eu, hM⟩
    · replace hok := Lib.hid hok
      rw [ee]
      replace ee := Lib.hid ee

      go_wp2_with fail

      go_ret
      exact ⟨rfl, hB.out⟩
    · replace hok := Lib.hid hok
      rw [ee]
      replace ee := Lib.hid ee

      go_wp2_with fail

      go_ret
      exact ⟨rfl, hB.out⟩
    · replace hok := Lib.hid hok
      rw [ee]
      replace ee := Lib.hid ee

      go_wp2_with fail

      go_ret
      exact ⟨rfl, hB.out⟩
    · obtain ⟨em7, hmk, hU⟩ := hok ee
      rw [ee, em7]
      replace ee := Lib.hid ee; replace em7 := Lib.hid em7

      obtain ⟨f1, f2, f3⟩ := hFAR.out u i hM hi
      have u3 : ∀ j, st u j < 3 := fun j => by
        by_cases e : j = i
        · rw [e, hM.ui]; exact pb
        · rw [hM.same j e]; exact s3.out j
      have FU := far_any p7 q2 n k7 k2 u tN w7 (by omega) hmk (by omega) hU T0.out u3 t3.out
      have FV := fun W h1 h2 => far_any q1 p7 n k1 k7 sN u W (by omega) (by omega) hmk h1 h2 s3.out u3
      rw [f1] at FV
      generalize F (st u) (st tN) n = f at *
      replace FU := Lib.hid FU; replace FV := Lib.hid FV; replace hU := Lib.hid hU; replace u3 := Lib.hid u3; replace hM := Lib.hid hM; replace f1 := Lib.hid f1; replace eu := Lib.hid eu; replace hok := Lib.hid hok
      go_wp2_with fail
      refine FU.out.mono ?_
      rintro e w8 ⟨rfl, hB2⟩
      replace S0 := Lib.hid (S0.out.below hB2); replace hU := Lib.hid (hU.out.below hB2)
      replace hB := Lib.hid (hB.out.trans (hB2.mono hB.out.size)); clear hB2
      go_wp2_with fail
      refine (FV.out _ S0.out hU.out).mono ?_
      rintro e w9 ⟨rfl, hB2⟩
      replace hB := Lib.hid (hB.out.trans (hB2.mono hB.out.size)); clear hB2
      have g1 : (f : Int) - d ≤ 1 := by omega
      have g2 : (d : Int) - f ≤ 1 := by omega
      go_wp2_with fail
      go_ret
      exact ⟨ret_bool (by first | (simp; done) | (simp; omega)), hB.out⟩
end Go.Proofs.Ytfjlhghiadoodaa
