/- What gameroomkeep.MagicProducts returns: true; conditions: the arguments are ints of 64 bits. -/
import Derived.Test.YtbfdhegglaaghaaMIs
namespace Go.Proofs.Ytbfdhegglaaghaa
open Go.RowKit

theorem made_st (n : Nat) (h : n = 1 ∨ n = 3 ∨ n = 4) : ∀ i, i < n * n → 1 ≤ st (madeS n) i ∧ st (madeS n) i ≤ n * n := by
  intro i hi
  obtain ⟨h1, h2⟩ := made_ok n h
  have hi' : i < (madeS n).length := by omega
  have e : st (madeS n) i = (madeS n)[i] := by simp [st, hi']
  rw [e]
  exact h2 _ (List.getElem_mem hi')
theorem law_split {n m : Nat} (h : lawAt n m = true) : 2 ≤ (kindS (prodY (madeS n) n (madeS m) m (n * m)) (n * m)).1 ∧ (kindS (prodY (madeS n) n (madeS m) m (n * m)) (n * m)).2 = n * m * (n * m * (n * m) + 1) / 2 ∧ ∀ x ∈ prodY (madeS n) n (madeS m) m (n * m), x ≤ 1000 := by
  unfold lawAt at h
  simp only [Bool.and_eq_true, decide_eq_true_eq, beq_iff_eq, List.all_eq_true] at h
  exact ⟨h.1.1, h.1.2, h.2⟩

set_option maxHeartbeats 1000000 in
theorem prods00 (a0 a1 : Int) (w : World) (H1 : Hid (Calls Try.prog 5 #[.int .i64 a0, .int .i64 4] w fun e w' => e = .returned (.int .i64 0) ∧ w = w')) (H2 : Hid (Calls Try.prog 5 #[.int .i64 a1, .int .i64 4] w fun e w' => e = .returned (.int .i64 0) ∧ w = w')) :
    Calls Try.prog 3 #[.int .i64 a0, .int .i64 a1] w fun e w' => e = .returned (.bool true) ∧ Below w.heap.size w w' := by
  obtain ⟨l1, l2, l3⟩ := law_split (show lawAt 1 1 = true from law_true 0 0 (by decide) (by decide))
  have M1 : Hid (∀ W, Calls Try.prog 6 #[.int .i64 1] W fun e w' => e = .returned (.tuple #[.slice (some ⟨W.heap.size, 0, none⟩) 1 1, .int .i64 0]) ∧ Nums w' W.heap.size 3 (asI (madeS 1)) ∧ Below W.heap.size W w') := fun W => make_any 1 W (by decide) 1 rfl
  have M2 : Hid (∀ W, Calls Try.prog 6 #[.int .i64 1] W fun e w' => e = .returned (.tuple #[.slice (some ⟨W.heap.size, 0, none⟩) 1 1, .int .i64 0]) ∧ Nums w' W.heap.size 3 (asI (madeS 1)) ∧ Below W.heap.size W w') := fun W => make_any 1 W (by decide) 1 rfl
  have HP : Hid (∀ W p q, IntsIn W p 1 (asI (madeS 1)) → IntsIn W q 1 (asI (madeS 1)) → Calls Try.prog 7 #[.slice p 1 1, .slice q 1 1] W fun e w' => ∃ r c, e = .returned (.tuple #[.slice r 1 c, .int .i64 0]) ∧ IntsIn w' r 1 (asI (prodY (madeS 1) 1 (madeS 1) 1 1)) ∧ Below W.heap.size W w') :=
    fun W p q h1 h2 => product_any 1 1 1 1 1 1 p q (madeS 1) (madeS 1) W (by decide) (by decide) (by decide) (by decide) (by decide) (Lib.hid rfl) (Lib.hid rfl) h1 h2 (made_st 1 (by decide)) (made_st 1 (by decide))
  have HI : Hid (∀ W r c, IntsIn W r 1 (asI (prodY (madeS 1) 1 (madeS 1) 1 1)) → Calls Try.prog 8 #[.slice r 1 c] W fun e w' => e = .returned (.tuple #[.int .i64 (kindS (prodY (madeS 1) 1 (madeS 1) 1 1) 1).1, .int .i64 (kindS (prodY (madeS 1) 1 (madeS 1) 1 1) 1).2, .int .i64 0]) ∧ Below W.heap.size W w') :=
    fun W r c h => is_any 1 1 c r _ W (by decide) (by decide) (Lib.hid rfl) h l3
  change 2 ≤ (kindS (prodY (madeS 1) 1 (madeS 1) 1 1) 1).1 at l1
  change (kindS (prodY (madeS 1) 1 (madeS 1) 1 1) 1).2 = 1 at l2
  clear l3
  have q1 : (madeS 1).length = 1 := (made_ok 1 (by decide)).1
  have q2 : (madeS 1).length = 1 := (made_ok 1 (by decide)).1
  rw [l2] at HI
  generalize (kindS (prodY (madeS 1) 1 (madeS 1) 1 1) 1).1 = k1 at *
  clear l2
  generalize prodY (madeS 1) 1 (madeS 1) 1 1 = P at *
  replace q1 := Lib.hid q1; replace q2 := Lib.hid q2
  go_enter Try.func3, Try.ntmps3
  go_wp2_with fail
  refine H1.out.mono ?_
  rintro e w' ⟨rfl, rfl⟩
  go_wp2_with fail
  refine H2.out.mono ?_
  rintro e w' ⟨rfl, rfl⟩
  go_wp2_with fail
  refine (M1.out _).mono ?_
  rintro e W1 ⟨rfl, hN1, hB1⟩
  replace hN1 := Lib.hid hN1; replace hB1 := Lib.hid hB1
  go_wp2_with fail
  refine (M2.out _).mono ?_
  rintro e W2 ⟨rfl, hN2, hB2⟩
  have hx := (hN1.out.below hB2 hN1.out.lt).in (n := 1) (by rw [asI_len]; exact q1.out)
  have hy := hN2.in (n := 1) (by rw [asI_len]; exact q2.out)
  have hBw := Lib.hid (hB1.out.trans (hB2.mono hB1.out.size))
  replace hx := Lib.hid hx; replace hy := Lib.hid hy
  clear hN1 hN2 hB1 hB2
  go_wp2_with fail
  refine (HP.out _ _ _ hx.out hy.out).mono ?_
  rintro e W3 ⟨r, c, rfl, hin, hB3⟩
  have hBw2 := Lib.hid (hBw.out.trans (hB3.mono hBw.out.size))
  replace hin := Lib.hid hin
  clear hx hy hBw hB3
  go_wp2_with fail
  refine (HI.out _ _ _ hin.out).mono ?_
  rintro e W4 ⟨rfl, hB4⟩
  have hBw3 := Lib.hid (hBw2.out.trans (hB4.mono hBw2.out.size))
  clear hBw2 hB4 hin
  go_wp2_with fail
  go_ret
  exact ⟨rfl, hBw3.out⟩

set_option maxHeartbeats 1000000 in
theorem prods01 (a0 a1 : Int) (w : World) (H1 : Hid (Calls Try.prog 5 #[.int .i64 a0, .int .i64 4] w fun e w' => e = .returned (.int .i64 0) ∧ w = w')) (H2 : Hid (Calls Try.prog 5 #[.int .i64 a1, .int .i64 4] w fun e w' => e = .returned (.int .i64 1) ∧ w = w')) :
    Calls Try.prog 3 #[.int .i64 a0, .int .i64 a1] w fun e w' => e = .returned (.bool true) ∧ Below w.heap.size w w' := by
  obtain ⟨l1, l2, l3⟩ := law_split (show lawAt 1 3 = true from law_true 0 1 (by decide) (by decide))
  have M1 : Hid (∀ W, Calls Try.prog 6 #[.int .i64 1] W fun e w' => e = .returned (.tuple #[.slice (some ⟨W.heap.size, 0, none⟩) 1 1, .int .i64 0]) ∧ Nums w' W.heap.size 3 (asI (madeS 1)) ∧ Below W.heap.size W w') := fun W => make_any 1 W (by decide) 1 rfl
  have M2 : Hid (∀ W, Calls Try.prog 6 #[.int .i64 3] W fun e w' => e = .returned (.tuple #[.slice (some ⟨W.heap.size, 0, none⟩) 9 9, .int .i64 0]) ∧ Nums w' W.heap.size 3 (asI (madeS 3)) ∧ Below W.heap.size W w') := fun W => make_any 3 W (by decide) 3 rfl
  have HP : Hid (∀ W p q, IntsIn W p 1 (asI (madeS 1)) → IntsIn W q 9 (asI (madeS 3)) → Calls Try.prog 7 #[.slice p 1 1, .slice q 9 9] W fun e w' => ∃ r c, e = .returned (.tuple #[.slice r 9 c, .int .i64 0]) ∧ IntsIn w' r 9 (asI (prodY (madeS 1) 1 (madeS 3) 3 3)) ∧ Below W.heap.size W w') :=
    fun W p q h1 h2 => product_any 1 3 1 9 1 9 p q (madeS 1) (madeS 3) W (by decide) (by decide) (by decide) (by decide) (by decide) (Lib.hid rfl) (Lib.hid rfl) h1 h2 (made_st 1 (by decide)) (made_st 3 (by decide))
  have HI : Hid (∀ W r c, IntsIn W r 9 (asI (prodY (madeS 1) 1 (madeS 3) 3 3)) → Calls Try.prog 8 #[.slice r 9 c] W fun e w' => e = .returned (.tuple #[.int .i64 (kindS (prodY (madeS 1) 1 (madeS 3) 3 3) 3).1, .int .i64 (kindS (prodY (madeS 1) 1 (madeS 3) 3 3) 3).2, .int .i64 0]) ∧ Below W.heap.size W w') :=
    fun W r c h => is_any 3 9 c r _ W (by decide) (by decide) (Lib.hid rfl) h l3
  change 2 ≤ (kindS (prodY (madeS 1) 1 (madeS 3) 3 3) 3).1 at l1
  change (kindS (prodY (madeS 1) 1 (madeS 3) 3 3) 3).2 = 15 at l2
  clear l3
  have q1 : (madeS 1).length = 1 := (made_ok 1 (by decide)).1
  have q2 : (madeS 3).length = 9 := (made_ok 3 (by decide)).1
  rw [l2] at HI
  generalize (kindS (prodY (madeS 1) 1 (madeS 3) 3 3) 3).1 = k1 at *
  clear l2
  generalize prodY (madeS 1) 1 (madeS 3) 3 3 = P at *
  replace q1 := Lib.hid q1; replace q2 := Lib.hid q2
  go_enter Try.func3, Try.ntmps3
  go_wp2_with fail
  refine H1.out.mono ?_
  rintro e w' ⟨rfl, rfl⟩
  go_wp2_with fail
  refine H2.out.mono ?_
  rintro e w' ⟨rfl, rfl⟩
  go_wp2_with fail
  refine (M1.out _).mono ?_
  rintro e W1 ⟨rfl, hN1, hB1⟩
  replace hN1 := Lib.hid hN1; replace hB1 := Lib.hid hB1
  go_wp2_with fail
  refine (M2.out _).mono ?_
  rintro e W2 ⟨rfl, hN2, hB2⟩
  have hx := (hN1.out.below hB2 hN1.out.lt).in (n := 1) (by rw [asI_len]; exact q1.out)
  have hy := hN2.in (n := 9) (by rw [asI_len]; exact q2.out)
  have hBw := Lib.hid (hB1.out.trans (hB2.mono hB1.out.size))
  replace hx := Lib.hid hx; replace hy := Lib.hid hy
  clear hN1 hN2 hB1 hB2
  go_wp2_with fail
  refine (HP.out _ _ _ hx.out hy.out).mono ?_
  rintro e W3 ⟨r, c, rfl, hin, hB3⟩
  have hBw2 := Lib.hid (hBw.out.trans (hB3.mono hBw.out.size))
  replace hin := Lib.hid hin
  clear hx hy hBw hB3
  go_wp2_with fail
  refine (HI.out _ _ _ hin.out).mono ?_
  rintro e W4 ⟨rfl, hB4⟩
  have hBw3 := Lib.hid (hBw2.out.trans (hB4.mono hBw2.out.size))
  clear hBw2 hB4 hin
  go_wp2_with fail
  go_ret
  exact ⟨rfl, hBw3.out⟩

set_option maxHeartbeats 1000000 in
theorem prods02 (a0 a1 : Int) (w : World) (H1 : Hid (Calls Try.prog 5 #[.int .i64 a0, .int .i64 4] w fun e w' => e = .returned (.int .i64 0) ∧ w = w')) (H2 : Hid (Calls Try.prog 5 #[.int .i64 a1, .int .i64 4] w fun e w' => e = .returned (.int .i64 2) ∧ w = w')) :
    Calls Try.prog 3 #[.int .i64 a0, .int .i64 a1] w fun e w' => e = .returned (.bool true) ∧ Below w.heap.size w w' := by
  obtain ⟨l1, l2, l3⟩ := law_split (show lawAt 1 3 = true from law_true 0 2 (by decide) (by decide))
  have M1 : Hid (∀ W, Calls Try.prog 6 #[.int .i64 1] W fun e w' => e = .returned (.tuple #[.slice (some ⟨W.heap.size, 0, none⟩) 1 1, .int .i64 0]) ∧ Nums w' W.heap.size 3 (asI (madeS 1)) ∧ Below W.heap.size W w') := fun W => make_any 1 W (by decide) 1 rfl
  have M2 : Hid (∀ W, Calls Try.prog 6 #[.int .i64 3] W fun e w' => e = .returned (.tuple #[.slice (some ⟨W.heap.size, 0, none⟩) 9 9, .int .i64 0]) ∧ Nums w' W.heap.size 3 (asI (madeS 3)) ∧ Below W.heap.size W w') := fun W => make_any 3 W (by decide) 3 rfl
  have HP : Hid (∀ W p q, IntsIn W p 1 (asI (madeS 1)) → IntsIn W q 9 (asI (madeS 3)) → Calls Try.prog 7 #[.slice p 1 1, .slice q 9 9] W fun e w' => ∃ r c, e = .returned (.tuple #[.slice r 9 c, .int .i64 0]) ∧ IntsIn w' r 9 (asI (prodY (madeS 1) 1 (madeS 3) 3 3)) ∧ Below W.heap.size W w') :=
    fun W p q h1 h2 => product_any 1 3 1 9 1 9 p q (madeS 1) (madeS 3) W (by decide) (by decide) (by decide) (by decide) (by decide) (Lib.hid rfl) (Lib.hid rfl) h1 h2 (made_st 1 (by decide)) (made_st 3 (by decide))
  have HI : Hid (∀ W r c, IntsIn W r 9 (asI (prodY (madeS 1) 1 (madeS 3) 3 3)) → Calls Try.prog 8 #[.slice r 9 c] W fun e w' => e = .returned (.tuple #[.int .i64 (kindS (prodY (madeS 1) 1 (madeS 3) 3 3) 3).1, .int .i64 (kindS (prodY (madeS 1) 1 (madeS 3) 3 3) 3).2, .int .i64 0]) ∧ Below W.heap.size W w') :=
    fun W r c h => is_any 3 9 c r _ W (by decide) (by decide) (Lib.hid rfl) h l3
  change 2 ≤ (kindS (prodY (madeS 1) 1 (madeS 3) 3 3) 3).1 at l1
  change (kindS (prodY (madeS 1) 1 (madeS 3) 3 3) 3).2 = 15 at l2
  clear l3
  have q1 : (madeS 1).length = 1 := (made_ok 1 (by decide)).1
  have q2 : (madeS 3).length = 9 := (made_ok 3 (by decide)).1
  rw [l2] at HI
  generalize (kindS (prodY (madeS 1) 1 (madeS 3) 3 3) 3).1 = k1 at *
  clear l2
  generalize prodY (madeS 1) 1 (madeS 3) 3 3 = P at *
  replace q1 := Lib.hid q1; replace q2 := Lib.hid q2
  go_enter Try.func3, Try.ntmps3
  go_wp2_with fail
  refine H1.out.mono ?_
  rintro e w' ⟨rfl, rfl⟩
  go_wp2_with fail
  refine H2.out.mono ?_
  rintro e w' ⟨rfl, rfl⟩
  go_wp2_with fail
  refine (M1.out _).mono ?_
  rintro e W1 ⟨rfl, hN1, hB1⟩
  replace hN1 := Lib.hid hN1; replace hB1 := Lib.hid hB1
  go_wp2_with fail
  refine (M2.out _).mono ?_
  rintro e W2 ⟨rfl, hN2, hB2⟩
  have hx := (hN1.out.below hB2 hN1.out.lt).in (n := 1) (by rw [asI_len]; exact q1.out)
  have hy := hN2.in (n := 9) (by rw [asI_len]; exact q2.out)
  have hBw := Lib.hid (hB1.out.trans (hB2.mono hB1.out.size))
  replace hx := Lib.hid hx; replace hy := Lib.hid hy
  clear hN1 hN2 hB1 hB2
  go_wp2_with fail
  refine (HP.out _ _ _ hx.out hy.out).mono ?_
  rintro e W3 ⟨r, c, rfl, hin, hB3⟩
  have hBw2 := Lib.hid (hBw.out.trans (hB3.mono hBw.out.size))
  replace hin := Lib.hid hin
  clear hx hy hBw hB3
  go_wp2_with fail
  refine (HI.out _ _ _ hin.out).mono ?_
  rintro e W4 ⟨rfl, hB4⟩
  have hBw3 := Lib.hid (hBw2.out.trans (hB4.mono hBw2.out.size))
  clear hBw2 hB4 hin
  go_wp2_with fail
  go_ret
  exact ⟨rfl, hBw3.out⟩

set_option maxHeartbeats 1000000 in
theorem prods03 (a0 a1 : Int) (w : World) (H1 : Hid (Calls Try.prog 5 #[.int .i64 a0, .int .i64 4] w fun e w' => e = .returned (.int .i64 0) ∧ w = w')) (H2 : Hid (Calls Try.prog 5 #[.int .i64 a1, .int .i64 4] w fun e w' => e = .returned (.int .i64 3) ∧ w = w')) :
    Calls Try.prog 3 #[.int .i64 a0, .int .i64 a1] w fun e w' => e = .returned (.bool true) ∧ Below w.heap.size w w' := by
  obtain ⟨l1, l2, l3⟩ := law_split (show lawAt 1 4 = true from law_true 0 3 (by decide) (by decide))
  have M1 : Hid (∀ W, Calls Try.prog 6 #[.int .i64 1] W fun e w' => e = .returned (.tuple #[.slice (some ⟨W.heap.size, 0, none⟩) 1 1, .int .i64 0]) ∧ Nums w' W.heap.size 3 (asI (madeS 1)) ∧ Below W.heap.size W w') := fun W => make_any 1 W (by decide) 1 rfl
  have M2 : Hid (∀ W, Calls Try.prog 6 #[.int .i64 4] W fun e w' => e = .returned (.tuple #[.slice (some ⟨W.heap.size, 0, none⟩) 16 16, .int .i64 0]) ∧ Nums w' W.heap.size 3 (asI (madeS 4)) ∧ Below W.heap.size W w') := fun W => make_any 4 W (by decide) 4 rfl
  have HP : Hid (∀ W p q, IntsIn W p 1 (asI (madeS 1)) → IntsIn W q 16 (asI (madeS 4)) → Calls Try.prog 7 #[.slice p 1 1, .slice q 16 16] W fun e w' => ∃ r c, e = .returned (.tuple #[.slice r 16 c, .int .i64 0]) ∧ IntsIn w' r 16 (asI (prodY (madeS 1) 1 (madeS 4) 4 4)) ∧ Below W.heap.size W w') :=
    fun W p q h1 h2 => product_any 1 4 1 16 1 16 p q (madeS 1) (madeS 4) W (by decide) (by decide) (by decide) (by decide) (by decide) (Lib.hid rfl) (Lib.hid rfl) h1 h2 (made_st 1 (by decide)) (made_st 4 (by decide))
  have HI : Hid (∀ W r c, IntsIn W r 16 (asI (prodY (madeS 1) 1 (madeS 4) 4 4)) → Calls Try.prog 8 #[.slice r 16 c] W fun e w' => e = .returned (.tuple #[.int .i64 (kindS (prodY (madeS 1) 1 (madeS 4) 4 4) 4).1, .int .i64 (kindS (prodY (madeS 1) 1 (madeS 4) 4 4) 4).2, .int .i64 0]) ∧ Below W.heap.size W w') :=
    fun W r c h => is_any 4 16 c r _ W (by decide) (by decide) (Lib.hid rfl) h l3
  change 2 ≤ (kindS (prodY (madeS 1) 1 (madeS 4) 4 4) 4).1 at l1
  change (kindS (prodY (madeS 1) 1 (madeS 4) 4 4) 4).2 = 34 at l2
  clear l3
  have q1 : (madeS 1).length = 1 := (made_ok 1 (by decide)).1
  have q2 : (madeS 4).length = 16 := (made_ok 4 (by decide)).1
  rw [l2] at HI
  generalize (kindS (prodY (madeS 1) 1 (madeS 4) 4 4) 4).1 = k1 at *
  clear l2
  generalize prodY (madeS 1) 1 (madeS 4) 4 4 = P at *
  replace q1 := Lib.hid q1; replace q2 := Lib.hid q2
  go_enter Try.func3, Try.ntmps3
  go_wp2_with fail
  refine H1.out.mono ?_
  rintro e w' ⟨rfl, rfl⟩
  go_wp2_with fail
  refine H2.out.mono ?_
  rintro e w' ⟨rfl, rfl⟩
  go_wp2_with fail
  refine (M1.out _).mono ?_
  rintro e W1 ⟨rfl, hN1, hB1⟩
  replace hN1 := Lib.hid hN1; replace hB1 := Lib.hid hB1
  go_wp2_with fail
  refine (M2.out _).mono ?_
  rintro e W2 ⟨rfl, hN2, hB2⟩
  have hx := (hN1.out.below hB2 hN1.out.lt).in (n := 1) (by rw [asI_len]; exact q1.out)
  have hy := hN2.in (n := 16) (by rw [asI_len]; exact q2.out)
  have hBw := Lib.hid (hB1.out.trans (hB2.mono hB1.out.size))
  replace hx := Lib.hid hx; replace hy := Lib.hid hy
  clear hN1 hN2 hB1 hB2
  go_wp2_with fail
  refine (HP.out _ _ _ hx.out hy.out).mono ?_
  rintro e W3 ⟨r, c, rfl, hin, hB3⟩
  have hBw2 := Lib.hid (hBw.out.trans (hB3.mono hBw.out.size))
  replace hin := Lib.hid hin
  clear hx hy hBw hB3
  go_wp2_with fail
  refine (HI.out _ _ _ hin.out).mono ?_
  rintro e W4 ⟨rfl, hB4⟩
  have hBw3 := Lib.hid (hBw2.out.trans (hB4.mono hBw2.out.size))
  clear hBw2 hB4 hin
  go_wp2_with fail
  go_ret
  exact ⟨rfl, hBw3.out⟩

set_option maxHeartbeats 1000000 in
theorem prods10 (a0 a1 : Int) (w : World) (H1 : Hid (Calls Try.prog 5 #[.int .i64 a0, .int .i64 4] w fun e w' => e = .returned (.int .i64 1) ∧ w = w')) (H2 : Hid (Calls Try.prog 5 #[.int .i64 a1, .int .i64 4] w fun e w' => e = .returned (.int .i64 0) ∧ w = w')) :
    Calls Try.prog 3 #[.int .i64 a0, .int .i64 a1] w fun e w' => e = .returned (.bool true) ∧ Below w.heap.size w w' := by
  obtain ⟨l1, l2, l3⟩ := law_split (show lawAt 3 1 = true from law_true 1 0 (by decide) (by decide))
  have M1 : Hid (∀ W, Calls Try.prog 6 #[.int .i64 3] W fun e w' => e = .returned (.tuple #[.slice (some ⟨W.heap.size, 0, none⟩) 9 9, .int .i64 0]) ∧ Nums w' W.heap.size 3 (asI (madeS 3)) ∧ Below W.heap.size W w') := fun W => make_any 3 W (by decide) 3 rfl
  have M2 : Hid (∀ W, Calls Try.prog 6 #[.int .i64 1] W fun e w' => e = .returned (.tuple #[.slice (some ⟨W.heap.size, 0, none⟩) 1 1, .int .i64 0]) ∧ Nums w' W.heap.size 3 (asI (madeS 1)) ∧ Below W.heap.size W w') := fun W => make_any 1 W (by decide) 1 rfl
  have HP : Hid (∀ W p q, IntsIn W p 9 (asI (madeS 3)) → IntsIn W q 1 (asI (madeS 1)) → Calls Try.prog 7 #[.slice p 9 9, .slice q 1 1] W fun e w' => ∃ r c, e = .returned (.tuple #[.slice r 9 c, .int .i64 0]) ∧ IntsIn w' r 9 (asI (prodY (madeS 3) 3 (madeS 1) 1 3)) ∧ Below W.heap.size W w') :=
    fun W p q h1 h2 => product_any 3 1 9 1 9 1 p q (madeS 3) (madeS 1) W (by decide) (by decide) (by decide) (by decide) (by decide) (Lib.hid rfl) (Lib.hid rfl) h1 h2 (made_st 3 (by decide)) (made_st 1 (by decide))
  have HI : Hid (∀ W r c, IntsIn W r 9 (asI (prodY (madeS 3) 3 (madeS 1) 1 3)) → Calls Try.prog 8 #[.slice r 9 c] W fun e w' => e = .returned (.tuple #[.int .i64 (kindS (prodY (madeS 3) 3 (madeS 1) 1 3) 3).1, .int .i64 (kindS (prodY (madeS 3) 3 (madeS 1) 1 3) 3).2, .int .i64 0]) ∧ Below W.heap.size W w') :=
    fun W r c h => is_any 3 9 c r _ W (by decide) (by decide) (Lib.hid rfl) h l3
  change 2 ≤ (kindS (prodY (madeS 3) 3 (madeS 1) 1 3) 3).1 at l1
  change (kindS (prodY (madeS 3) 3 (madeS 1) 1 3) 3).2 = 15 at l2
  clear l3
  have q1 : (madeS 3).length = 9 := (made_ok 3 (by decide)).1
  have q2 : (madeS 1).length = 1 := (made_ok 1 (by decide)).1
  rw [l2] at HI
  generalize (kindS (prodY (madeS 3) 3 (madeS 1) 1 3) 3).1 = k1 at *
  clear l2
  generalize prodY (madeS 3) 3 (madeS 1) 1 3 = P at *
  replace q1 := Lib.hid q1; replace q2 := Lib.hid q2
  go_enter Try.func3, Try.ntmps3
  go_wp2_with fail
  refine H1.out.mono ?_
  rintro e w' ⟨rfl, rfl⟩
  go_wp2_with fail
  refine H2.out.mono ?_
  rintro e w' ⟨rfl, rfl⟩
  go_wp2_with fail
  refine (M1.out _).mono ?_
  rintro e W1 ⟨rfl, hN1, hB1⟩
  replace hN1 := Lib.hid hN1; replace hB1 := Lib.hid hB1
  go_wp2_with fail
  refine (M2.out _).mono ?_
  rintro e W2 ⟨rfl, hN2, hB2⟩
  have hx := (hN1.out.below hB2 hN1.out.lt).in (n := 9) (by rw [asI_len]; exact q1.out)
  have hy := hN2.in (n := 1) (by rw [asI_len]; exact q2.out)
  have hBw := Lib.hid (hB1.out.trans (hB2.mono hB1.out.size))
  replace hx := Lib.hid hx; replace hy := Lib.hid hy
  clear hN1 hN2 hB1 hB2
  go_wp2_with fail
  refine (HP.out _ _ _ hx.out hy.out).mono ?_
  rintro e W3 ⟨r, c, rfl, hin, hB3⟩
  have hBw2 := Lib.hid (hBw.out.trans (hB3.mono hBw.out.size))
  replace hin := Lib.hid hin
  clear hx hy hBw hB3
  go_wp2_with fail
  refine (HI.out _ _ _ hin.out).mono ?_
  rintro e W4 ⟨rfl, hB4⟩
  have hBw3 := Lib.hid (hBw2.out.trans (hB4.mono hBw2.out.size))
  clear hBw2 hB4 hin
  go_wp2_with fail
  go_ret
  exact ⟨rfl, hBw3.out⟩

set_option maxHeartbeats 1000000 in
theorem prods11 (a0 a1 : Int) (w : World) (H1 : Hid (Calls Try.prog 5 #[.int .i64 a0, .int .i64 4] w fun e w' => e = .returned (.int .i64 1) ∧ w = w')) (H2 : Hid (Calls Try.prog 5 #[.int .i64 a1, .int .i64 4] w fun e w' => e = .returned (.int .i64 1) ∧ w = w')) :
    Calls Try.prog 3 #[.int .i64 a0, .int .i64 a1] w fun e w' => e = .returned (.bool true) ∧ Below w.heap.size w w' := by
  obtain ⟨l1, l2, l3⟩ := law_split (show lawAt 3 3 = true from law_true 1 1 (by decide) (by decide))
  have M1 : Hid (∀ W, Calls Try.prog 6 #[.int .i64 3] W fun e w' => e = .returned (.tuple #[.slice (some ⟨W.heap.size, 0, none⟩) 9 9, .int .i64 0]) ∧ Nums w' W.heap.size 3 (asI (madeS 3)) ∧ Below W.heap.size W w') := fun W => make_any 3 W (by decide) 3 rfl
  have M2 : Hid (∀ W, Calls Try.prog 6 #[.int .i64 3] W fun e w' => e = .returned (.tuple #[.slice (some ⟨W.heap.size, 0, none⟩) 9 9, .int .i64 0]) ∧ Nums w' W.heap.size 3 (asI (madeS 3)) ∧ Below W.heap.size W w') := fun W => make_any 3 W (by decide) 3 rfl
  have HP : Hid (∀ W p q, IntsIn W p 9 (asI (madeS 3)) → IntsIn W q 9 (asI (madeS 3)) → Calls Try.prog 7 #[.slice p 9 9, .slice q 9 9] W fun e w' => ∃ r c, e = .returned (.tuple #[.slice r 81 c, .int .i64 0]) ∧ IntsIn w' r 81 (asI (prodY (madeS 3) 3 (madeS 3) 3 9)) ∧ Below W.heap.size W w') :=
    fun W p q h1 h2 => product_any 3 3 9 9 9 9 p q (madeS 3) (madeS 3) W (by decide) (by decide) (by decide) (by decide) (by decide) (Lib.hid rfl) (Lib.hid rfl) h1 h2 (made_st 3 (by decide)) (made_st 3 (by decide))
  have HI : Hid (∀ W r c, IntsIn W r 81 (asI (prodY (madeS 3) 3 (madeS 3) 3 9)) → Calls Try.prog 8 #[.slice r 81 c] W fun e w' => e = .returned (.tuple #[.int .i64 (kindS (prodY (madeS 3) 3 (madeS 3) 3 9) 9).1, .int .i64 (kindS (prodY (madeS 3) 3 (madeS 3) 3 9) 9).2, .int .i64 0]) ∧ Below W.heap.size W w') :=
    fun W r c h => is_any 9 81 c r _ W (by decide) (by decide) (Lib.hid rfl) h l3
  change 2 ≤ (kindS (prodY (madeS 3) 3 (madeS 3) 3 9) 9).1 at l1
  change (kindS (prodY (madeS 3) 3 (madeS 3) 3 9) 9).2 = 369 at l2
  clear l3
  have q1 : (madeS 3).length = 9 := (made_ok 3 (by decide)).1
  have q2 : (madeS 3).length = 9 := (made_ok 3 (by decide)).1
  rw [l2] at HI
  generalize (kindS (prodY (madeS 3) 3 (madeS 3) 3 9) 9).1 = k1 at *
  clear l2
  generalize prodY (madeS 3) 3 (madeS 3) 3 9 = P at *
  replace q1 := Lib.hid q1; replace q2 := Lib.hid q2
  go_enter Try.func3, Try.ntmps3
  go_wp2_with fail
  refine H1.out.mono ?_
  rintro e w' ⟨rfl, rfl⟩
  go_wp2_with fail
  refine H2.out.mono ?_
  rintro e w' ⟨rfl, rfl⟩
  go_wp2_with fail
  refine (M1.out _).mono ?_
  rintro e W1 ⟨rfl, hN1, hB1⟩
  replace hN1 := Lib.hid hN1; replace hB1 := Lib.hid hB1
  go_wp2_with fail
  refine (M2.out _).mono ?_
  rintro e W2 ⟨rfl, hN2, hB2⟩
  have hx := (hN1.out.below hB2 hN1.out.lt).in (n := 9) (by rw [asI_len]; exact q1.out)
  have hy := hN2.in (n := 9) (by rw [asI_len]; exact q2.out)
  have hBw := Lib.hid (hB1.out.trans (hB2.mono hB1.out.size))
  replace hx := Lib.hid hx; replace hy := Lib.hid hy
  clear hN1 hN2 hB1 hB2
  go_wp2_with fail
  refine (HP.out _ _ _ hx.out hy.out).mono ?_
  rintro e W3 ⟨r, c, rfl, hin, hB3⟩
  have hBw2 := Lib.hid (hBw.out.trans (hB3.mono hBw.out.size))
  replace hin := Lib.hid hin
  clear hx hy hBw hB3
  go_wp2_with fail
  refine (HI.out _ _ _ hin.out).mono ?_
  rintro e W4 ⟨rfl, hB4⟩
  have hBw3 := Lib.hid (hBw2.out.trans (hB4.mono hBw2.out.size))
  clear hBw2 hB4 hin
  go_wp2_with fail
  go_ret
  exact ⟨rfl, hBw3.out⟩

set_option maxHeartbeats 1000000 in
theorem prods12 (a0 a1 : Int) (w : World) (H1 : Hid (Calls Try.prog 5 #[.int .i64 a0, .int .i64 4] w fun e w' => e = .returned (.int .i64 1) ∧ w = w')) (H2 : Hid (Calls Try.prog 5 #[.int .i64 a1, .int .i64 4] w fun e w' => e = .returned (.int .i64 2) ∧ w = w')) :
    Calls Try.prog 3 #[.int .i64 a0, .int .i64 a1] w fun e w' => e = .returned (.bool true) ∧ Below w.heap.size w w' := by
  obtain ⟨l1, l2, l3⟩ := law_split (show lawAt 3 3 = true from law_true 1 2 (by decide) (by decide))
  have M1 : Hid (∀ W, Calls Try.prog 6 #[.int .i64 3] W fun e w' => e = .returned (.tuple #[.slice (some ⟨W.heap.size, 0, none⟩) 9 9, .int .i64 0]) ∧ Nums w' W.heap.size 3 (asI (madeS 3)) ∧ Below W.heap.size W w') := fun W => make_any 3 W (by decide) 3 rfl
  have M2 : Hid (∀ W, Calls Try.prog 6 #[.int .i64 3] W fun e w' => e = .returned (.tuple #[.slice (some ⟨W.heap.size, 0, none⟩) 9 9, .int .i64 0]) ∧ Nums w' W.heap.size 3 (asI (madeS 3)) ∧ Below W.heap.size W w') := fun W => make_any 3 W (by decide) 3 rfl
  have HP : Hid (∀ W p q, IntsIn W p 9 (asI (madeS 3)) → IntsIn W q 9 (asI (madeS 3)) → Calls Try.prog 7 #[.slice p 9 9, .slice q 9 9] W fun e w' => ∃ r c, e = .returned (.tuple #[.slice r 81 c, .int .i64 0]) ∧ IntsIn w' r 81 (asI (prodY (madeS 3) 3 (madeS 3) 3 9)) ∧ Below W.heap.size W w') :=
    fun W p q h1 h2 => product_any 3 3 9 9 9 9 p q (madeS 3) (madeS 3) W (by decide) (by decide) (by decide) (by decide) (by decide) (Lib.hid rfl) (Lib.hid rfl) h1 h2 (made_st 3 (by decide)) (made_st 3 (by decide))
  have HI : Hid (∀ W r c, IntsIn W r 81 (asI (prodY (madeS 3) 3 (madeS 3) 3 9)) → Calls Try.prog 8 #[.slice r 81 c] W fun e w' => e = .returned (.tuple #[.int .i64 (kindS (prodY (madeS 3) 3 (madeS 3) 3 9) 9).1, .int .i64 (kindS (prodY (madeS 3) 3 (madeS 3) 3 9) 9).2, .int .i64 0]) ∧ Below W.heap.size W w') :=
    fun W r c h => is_any 9 81 c r _ W (by decide) (by decide) (Lib.hid rfl) h l3
  change 2 ≤ (kindS (prodY (madeS 3) 3 (madeS 3) 3 9) 9).1 at l1
  change (kindS (prodY (madeS 3) 3 (madeS 3) 3 9) 9).2 = 369 at l2
  clear l3
  have q1 : (madeS 3).length = 9 := (made_ok 3 (by decide)).1
  have q2 : (madeS 3).length = 9 := (made_ok 3 (by decide)).1
  rw [l2] at HI
  generalize (kindS (prodY (madeS 3) 3 (madeS 3) 3 9) 9).1 = k1 at *
  clear l2
  generalize prodY (madeS 3) 3 (madeS 3) 3 9 = P at *
  replace q1 := Lib.hid q1; replace q2 := Lib.hid q2
  go_enter Try.func3, Try.ntmps3
  go_wp2_with fail
  refine H1.out.mono ?_
  rintro e w' ⟨rfl, rfl⟩
  go_wp2_with fail
  refine H2.out.mono ?_
  rintro e w' ⟨rfl, rfl⟩
  go_wp2_with fail
  refine (M1.out _).mono ?_
  rintro e W1 ⟨rfl, hN1, hB1⟩
  replace hN1 := Lib.hid hN1; replace hB1 := Lib.hid hB1
  go_wp2_with fail
  refine (M2.out _).mono ?_
  rintro e W2 ⟨rfl, hN2, hB2⟩
  have hx := (hN1.out.below hB2 hN1.out.lt).in (n := 9) (by rw [asI_len]; exact q1.out)
  have hy := hN2.in (n := 9) (by rw [asI_len]; exact q2.out)
  have hBw := Lib.hid (hB1.out.trans (hB2.mono hB1.out.size))
  replace hx := Lib.hid hx; replace hy := Lib.hid hy
  clear hN1 hN2 hB1 hB2
  go_wp2_with fail
  refine (HP.out _ _ _ hx.out hy.out).mono ?_
  rintro e W3 ⟨r, c, rfl, hin, hB3⟩
  have hBw2 := Lib.hid (hBw.out.trans (hB3.mono hBw.out.size))
  replace hin := Lib.hid hin
  clear hx hy hBw hB3
  go_wp2_with fail
  refine (HI.out _ _ _ hin.out).mono ?_
  rintro e W4 ⟨rfl, hB4⟩
  have hBw3 := Lib.hid (hBw2.out.trans (hB4.mono hBw2.out.size))
  clear hBw2 hB4 hin
  go_wp2_with fail
  go_ret
  exact ⟨rfl, hBw3.out⟩

set_option maxHeartbeats 1000000 in
theorem prods13 (a0 a1 : Int) (w : World) (H1 : Hid (Calls Try.prog 5 #[.int .i64 a0, .int .i64 4] w fun e w' => e = .returned (.int .i64 1) ∧ w = w')) (H2 : Hid (Calls Try.prog 5 #[.int .i64 a1, .int .i64 4] w fun e w' => e = .returned (.int .i64 3) ∧ w = w')) :
    Calls Try.prog 3 #[.int .i64 a0, .int .i64 a1] w fun e w' => e = .returned (.bool true) ∧ Below w.heap.size w w' := by
  obtain ⟨l1, l2, l3⟩ := law_split (show lawAt 3 4 = true from law_true 1 3 (by decide) (by decide))
  have M1 : Hid (∀ W, Calls Try.prog 6 #[.int .i64 3] W fun e w' => e = .returned (.tuple #[.slice (some ⟨W.heap.size, 0, none⟩) 9 9, .int .i64 0]) ∧ Nums w' W.heap.size 3 (asI (madeS 3)) ∧ Below W.heap.size W w') := fun W => make_any 3 W (by decide) 3 rfl
  have M2 : Hid (∀ W, Calls Try.prog 6 #[.int .i64 4] W fun e w' => e = .returned (.tuple #[.slice (some ⟨W.heap.size, 0, none⟩) 16 16, .int .i64 0]) ∧ Nums w' W.heap.size 3 (asI (madeS 4)) ∧ Below W.heap.size W w') := fun W => make_any 4 W (by decide) 4 rfl
  have HP : Hid (∀ W p q, IntsIn W p 9 (asI (madeS 3)) → IntsIn W q 16 (asI (madeS 4)) → Calls Try.prog 7 #[.slice p 9 9, .slice q 16 16] W fun e w' => ∃ r c, e = .returned (.tuple #[.slice r 144 c, .int .i64 0]) ∧ IntsIn w' r 144 (asI (prodY (madeS 3) 3 (madeS 4) 4 12)) ∧ Below W.heap.size W w') :=
    fun W p q h1 h2 => product_any 3 4 9 16 9 16 p q (madeS 3) (madeS 4) W (by decide) (by decide) (by decide) (by decide) (by decide) (Lib.hid rfl) (Lib.hid rfl) h1 h2 (made_st 3 (by decide)) (made_st 4 (by decide))
  have HI : Hid (∀ W r c, IntsIn W r 144 (asI (prodY (madeS 3) 3 (madeS 4) 4 12)) → Calls Try.prog 8 #[.slice r 144 c] W fun e w' => e = .returned (.tuple #[.int .i64 (kindS (prodY (madeS 3) 3 (madeS 4) 4 12) 12).1, .int .i64 (kindS (prodY (madeS 3) 3 (madeS 4) 4 12) 12).2, .int .i64 0]) ∧ Below W.heap.size W w') :=
    fun W r c h => is_any 12 144 c r _ W (by decide) (by decide) (Lib.hid rfl) h l3
  change 2 ≤ (kindS (prodY (madeS 3) 3 (madeS 4) 4 12) 12).1 at l1
  change (kindS (prodY (madeS 3) 3 (madeS 4) 4 12) 12).2 = 870 at l2
  clear l3
  have q1 : (madeS 3).length = 9 := (made_ok 3 (by decide)).1
  have q2 : (madeS 4).length = 16 := (made_ok 4 (by decide)).1
  rw [l2] at HI
  generalize (kindS (prodY (madeS 3) 3 (madeS 4) 4 12) 12).1 = k1 at *
  clear l2
  generalize prodY (madeS 3) 3 (madeS 4) 4 12 = P at *
  replace q1 := Lib.hid q1; replace q2 := Lib.hid q2
  go_enter Try.func3, Try.ntmps3
  go_wp2_with fail
  refine H1.out.mono ?_
  rintro e w' ⟨rfl, rfl⟩
  go_wp2_with fail
  refine H2.out.mono ?_
  rintro e w' ⟨rfl, rfl⟩
  go_wp2_with fail
  refine (M1.out _).mono ?_
  rintro e W1 ⟨rfl, hN1, hB1⟩
  replace hN1 := Lib.hid hN1; replace hB1 := Lib.hid hB1
  go_wp2_with fail
  refine (M2.out _).mono ?_
  rintro e W2 ⟨rfl, hN2, hB2⟩
  have hx := (hN1.out.below hB2 hN1.out.lt).in (n := 9) (by rw [asI_len]; exact q1.out)
  have hy := hN2.in (n := 16) (by rw [asI_len]; exact q2.out)
  have hBw := Lib.hid (hB1.out.trans (hB2.mono hB1.out.size))
  replace hx := Lib.hid hx; replace hy := Lib.hid hy
  clear hN1 hN2 hB1 hB2
  go_wp2_with fail
  refine (HP.out _ _ _ hx.out hy.out).mono ?_
  rintro e W3 ⟨r, c, rfl, hin, hB3⟩
  have hBw2 := Lib.hid (hBw.out.trans (hB3.mono hBw.out.size))
  replace hin := Lib.hid hin
  clear hx hy hBw hB3
  go_wp2_with fail
  refine (HI.out _ _ _ hin.out).mono ?_
  rintro e W4 ⟨rfl, hB4⟩
  have hBw3 := Lib.hid (hBw2.out.trans (hB4.mono hBw2.out.size))
  clear hBw2 hB4 hin
  go_wp2_with fail
  go_ret
  exact ⟨rfl, hBw3.out⟩

set_option maxHeartbeats 1000000 in
theorem prods20 (a0 a1 : Int) (w : World) (H1 : Hid (Calls Try.prog 5 #[.int .i64 a0, .int .i64 4] w fun e w' => e = .returned (.int .i64 2) ∧ w = w')) (H2 : Hid (Calls Try.prog 5 #[.int .i64 a1, .int .i64 4] w fun e w' => e = .returned (.int .i64 0) ∧ w = w')) :
    Calls Try.prog 3 #[.int .i64 a0, .int .i64 a1] w fun e w' => e = .returned (.bool true) ∧ Below w.heap.size w w' := by
  obtain ⟨l1, l2, l3⟩ := law_split (show lawAt 3 1 = true from law_true 2 0 (by decide) (by decide))
  have M1 : Hid (∀ W, Calls Try.prog 6 #[.int .i64 3] W fun e w' => e = .returned (.tuple #[.slice (some ⟨W.heap.size, 0, none⟩) 9 9, .int .i64 0]) ∧ Nums w' W.heap.size 3 (asI (madeS 3)) ∧ Below W.heap.size W w') := fun W => make_any 3 W (by decide) 3 rfl
  have M2 : Hid (∀ W, Calls Try.prog 6 #[.int .i64 1] W fun e w' => e = .returned (.tuple #[.slice (some ⟨W.heap.size, 0, none⟩) 1 1, .int .i64 0]) ∧ Nums w' W.heap.size 3 (asI (madeS 1)) ∧ Below W.heap.size W w') := fun W => make_any 1 W (by decide) 1 rfl
  have HP : Hid (∀ W p q, IntsIn W p 9 (asI (madeS 3)) → IntsIn W q 1 (asI (madeS 1)) → Calls Try.prog 7 #[.slice p 9 9, .slice q 1 1] W fun e w' => ∃ r c, e = .returned (.tuple #[.slice r 9 c, .int .i64 0]) ∧ IntsIn w' r 9 (asI (prodY (madeS 3) 3 (madeS 1) 1 3)) ∧ Below W.heap.size W w') :=
    fun W p q h1 h2 => product_any 3 1 9 1 9 1 p q (madeS 3) (madeS 1) W (by decide) (by decide) (by decide) (by decide) (by decide) (Lib.hid rfl) (Lib.hid rfl) h1 h2 (made_st 3 (by decide)) (made_st 1 (by decide))
  have HI : Hid (∀ W r c, IntsIn W r 9 (asI (prodY (madeS 3) 3 (madeS 1) 1 3)) → Calls Try.prog 8 #[.slice r 9 c] W fun e w' => e = .returned (.tuple #[.int .i64 (kindS (prodY (madeS 3) 3 (madeS 1) 1 3) 3).1, .int .i64 (kindS (prodY (madeS 3) 3 (madeS 1) 1 3) 3).2, .int .i64 0]) ∧ Below W.heap.size W w') :=
    fun W r c h => is_any 3 9 c r _ W (by decide) (by decide) (Lib.hid rfl) h l3
  change 2 ≤ (kindS (prodY (madeS 3) 3 (madeS 1) 1 3) 3).1 at l1
  change (kindS (prodY (madeS 3) 3 (madeS 1) 1 3) 3).2 = 15 at l2
  clear l3
  have q1 : (madeS 3).length = 9 := (made_ok 3 (by decide)).1
  have q2 : (madeS 1).length = 1 := (made_ok 1 (by decide)).1
  rw [l2] at HI
  generalize (kindS (prodY (madeS 3) 3 (madeS 1) 1 3) 3).1 = k1 at *
  clear l2
  generalize prodY (madeS 3) 3 (madeS 1) 1 3 = P at *
  replace q1 := Lib.hid q1; replace q2 := Lib.hid q2
  go_enter Try.func3, Try.ntmps3
  go_wp2_with fail
  refine H1.out.mono ?_
  rintro e w' ⟨rfl, rfl⟩
  go_wp2_with fail
  refine H2.out.mono ?_
  rintro e w' ⟨rfl, rfl⟩
  go_wp2_with fail
  refine (M1.out _).mono ?_
  rintro e W1 ⟨rfl, hN1, hB1⟩
  replace hN1 := Lib.hid hN1; replace hB1 := Lib.hid hB1
  go_wp2_with fail
  refine (M2.out _).mono ?_
  rintro e W2 ⟨rfl, hN2, hB2⟩
  have hx := (hN1.out.below hB2 hN1.out.lt).in (n := 9) (by rw [asI_len]; exact q1.out)
  have hy := hN2.in (n := 1) (by rw [asI_len]; exact q2.out)
  have hBw := Lib.hid (hB1.out.trans (hB2.mono hB1.out.size))
  replace hx := Lib.hid hx; replace hy := Lib.hid hy
  clear hN1 hN2 hB1 hB2
  go_wp2_with fail
  refine (HP.out _ _ _ hx.out hy.out).mono ?_
  rintro e W3 ⟨r, c, rfl, hin, hB3⟩
  have hBw2 := Lib.hid (hBw.out.trans (hB3.mono hBw.out.size))
  replace hin := Lib.hid hin
  clear hx hy hBw hB3
  go_wp2_with fail
  refine (HI.out _ _ _ hin.out).mono ?_
  rintro e W4 ⟨rfl, hB4⟩
  have hBw3 := Lib.hid (hBw2.out.trans (hB4.mono hBw2.out.size))
  clear hBw2 hB4 hin
  go_wp2_with fail
  go_ret
  exact ⟨rfl, hBw3.out⟩

set_option maxHeartbeats 1000000 in
theorem prods21 (a0 a1 : Int) (w : World) (H1 : Hid (Calls Try.prog 5 #[.int .i64 a0, .int .i64 4] w fun e w' => e = .returned (.int .i64 2) ∧ w = w')) (H2 : Hid (Calls Try.prog 5 #[.int .i64 a1, .int .i64 4] w fun e w' => e = .returned (.int .i64 1) ∧ w = w')) :
    Calls Try.prog 3 #[.int .i64 a0, .int .i64 a1] w fun e w' => e = .returned (.bool true) ∧ Below w.heap.size w w' := by
  obtain ⟨l1, l2, l3⟩ := law_split (show lawAt 3 3 = true from law_true 2 1 (by decide) (by decide))
  have M1 : Hid (∀ W, Calls Try.prog 6 #[.int .i64 3] W fun e w' => e = .returned (.tuple #[.slice (some ⟨W.heap.size, 0, none⟩) 9 9, .int .i64 0]) ∧ Nums w' W.heap.size 3 (asI (madeS 3)) ∧ Below W.heap.size W w') := fun W => make_any 3 W (by decide) 3 rfl
  have M2 : Hid (∀ W, Calls Try.prog 6 #[.int .i64 3] W fun e w' => e = .returned (.tuple #[.slice (some ⟨W.heap.size, 0, none⟩) 9 9, .int .i64 0]) ∧ Nums w' W.heap.size 3 (asI (madeS 3)) ∧ Below W.heap.size W w') := fun W => make_any 3 W (by decide) 3 rfl
  have HP : Hid (∀ W p q, IntsIn W p 9 (asI (madeS 3)) → IntsIn W q 9 (asI (madeS 3)) → Calls Try.prog 7 #[.slice p 9 9, .slice q 9 9] W fun e w' => ∃ r c, e = .returned (.tuple #[.slice r 81 c, .int .i64 0]) ∧ IntsIn w' r 81 (asI (prodY (madeS 3) 3 (madeS 3) 3 9)) ∧ Below W.heap.size W w') :=
    fun W p q h1 h2 => product_any 3 3 9 9 9 9 p q (madeS 3) (madeS 3) W (by decide) (by decide) (by decide) (by decide) (by decide) (Lib.hid rfl) (Lib.hid rfl) h1 h2 (made_st 3 (by decide)) (made_st 3 (by decide))
  have HI : Hid (∀ W r c, IntsIn W r 81 (asI (prodY (madeS 3) 3 (madeS 3) 3 9)) → Calls Try.prog 8 #[.slice r 81 c] W fun e w' => e = .returned (.tuple #[.int .i64 (kindS (prodY (madeS 3) 3 (madeS 3) 3 9) 9).1, .int .i64 (kindS (prodY (madeS 3) 3 (madeS 3) 3 9) 9).2, .int .i64 0]) ∧ Below W.heap.size W w') :=
    fun W r c h => is_any 9 81 c r _ W (by decide) (by decide) (Lib.hid rfl) h l3
  change 2 ≤ (kindS (prodY (madeS 3) 3 (madeS 3) 3 9) 9).1 at l1
  change (kindS (prodY (madeS 3) 3 (madeS 3) 3 9) 9).2 = 369 at l2
  clear l3
  have q1 : (madeS 3).length = 9 := (made_ok 3 (by decide)).1
  have q2 : (madeS 3).length = 9 := (made_ok 3 (by decide)).1
  rw [l2] at HI
  generalize (kindS (prodY (madeS 3) 3 (madeS 3) 3 9) 9).1 = k1 at *
  clear l2
  generalize prodY (madeS 3) 3 (madeS 3) 3 9 = P at *
  replace q1 := Lib.hid q1; replace q2 := Lib.hid q2
  go_enter Try.func3, Try.ntmps3
  go_wp2_with fail
  refine H1.out.mono ?_
  rintro e w' ⟨rfl, rfl⟩
  go_wp2_with fail
  refine H2.out.mono ?_
  rintro e w' ⟨rfl, rfl⟩
  go_wp2_with fail
  refine (M1.out _).mono ?_
  rintro e W1 ⟨rfl, hN1, hB1⟩
  replace hN1 := Lib.hid hN1; replace hB1 := Lib.hid hB1
  go_wp2_with fail
  refine (M2.out _).mono ?_
  rintro e W2 ⟨rfl, hN2, hB2⟩
  have hx := (hN1.out.below hB2 hN1.out.lt).in (n := 9) (by rw [asI_len]; exact q1.out)
  have hy := hN2.in (n := 9) (by rw [asI_len]; exact q2.out)
  have hBw := Lib.hid (hB1.out.trans (hB2.mono hB1.out.size))
  replace hx := Lib.hid hx; replace hy := Lib.hid hy
  clear hN1 hN2 hB1 hB2
  go_wp2_with fail
  refine (HP.out _ _ _ hx.out hy.out).mono ?_
  rintro e W3 ⟨r, c, rfl, hin, hB3⟩
  have hBw2 := Lib.hid (hBw.out.trans (hB3.mono hBw.out.size))
  replace hin := Lib.hid hin
  clear hx hy hBw hB3
  go_wp2_with fail
  refine (HI.out _ _ _ hin.out).mono ?_
  rintro e W4 ⟨rfl, hB4⟩
  have hBw3 := Lib.hid (hBw2.out.trans (hB4.mono hBw2.out.size))
  clear hBw2 hB4 hin
  go_wp2_with fail
  go_ret
  exact ⟨rfl, hBw3.out⟩

set_option maxHeartbeats 1000000 in
theorem prods22 (a0 a1 : Int) (w : World) (H1 : Hid (Calls Try.prog 5 #[.int .i64 a0, .int .i64 4] w fun e w' => e = .returned (.int .i64 2) ∧ w = w')) (H2 : Hid (Calls Try.prog 5 #[.int .i64 a1, .int .i64 4] w fun e w' => e = .returned (.int .i64 2) ∧ w = w')) :
    Calls Try.prog 3 #[.int .i64 a0, .int .i64 a1] w fun e w' => e = .returned (.bool true) ∧ Below w.heap.size w w' := by
  obtain ⟨l1, l2, l3⟩ := law_split (show lawAt 3 3 = true from law_true 2 2 (by decide) (by decide))
  have M1 : Hid (∀ W, Calls Try.prog 6 #[.int .i64 3] W fun e w' => e = .returned (.tuple #[.slice (some ⟨W.heap.size, 0, none⟩) 9 9, .int .i64 0]) ∧ Nums w' W.heap.size 3 (asI (madeS 3)) ∧ Below W.heap.size W w') := fun W => make_any 3 W (by decide) 3 rfl
  have M2 : Hid (∀ W, Calls Try.prog 6 #[.int .i64 3] W fun e w' => e = .returned (.tuple #[.slice (some ⟨W.heap.size, 0, none⟩) 9 9, .int .i64 0]) ∧ Nums w' W.heap.size 3 (asI (madeS 3)) ∧ Below W.heap.size W w') := fun W => make_any 3 W (by decide) 3 rfl
  have HP : Hid (∀ W p q, IntsIn W p 9 (asI (madeS 3)) → IntsIn W q 9 (asI (madeS 3)) → Calls Try.prog 7 #[.slice p 9 9, .slice q 9 9] W fun e w' => ∃ r c, e = .returned (.tuple #[.slice r 81 c, .int .i64 0]) ∧ IntsIn w' r 81 (asI (prodY (madeS 3) 3 (madeS 3) 3 9)) ∧ Below W.heap.size W w') :=
    fun W p q h1 h2 => product_any 3 3 9 9 9 9 p q (madeS 3) (madeS 3) W (by decide) (by decide) (by decide) (by decide) (by decide) (Lib.hid rfl) (Lib.hid rfl) h1 h2 (made_st 3 (by decide)) (made_st 3 (by decide))
  have HI : Hid (∀ W r c, IntsIn W r 81 (asI (prodY (madeS 3) 3 (madeS 3) 3 9)) → Calls Try.prog 8 #[.slice r 81 c] W fun e w' => e = .returned (.tuple #[.int .i64 (kindS (prodY (madeS 3) 3 (madeS 3) 3 9) 9).1, .int .i64 (kindS (prodY (madeS 3) 3 (madeS 3) 3 9) 9).2, .int .i64 0]) ∧ Below W.heap.size W w') :=
    fun W r c h => is_any 9 81 c r _ W (by decide) (by decide) (Lib.hid rfl) h l3
  change 2 ≤ (kindS (prodY (madeS 3) 3 (madeS 3) 3 9) 9).1 at l1
  change (kindS (prodY (madeS 3) 3 (madeS 3) 3 9) 9).2 = 369 at l2
  clear l3
  have q1 : (madeS 3).length = 9 := (made_ok 3 (by decide)).1
  have q2 : (madeS 3).length = 9 := (made_ok 3 (by decide)).1
  rw [l2] at HI
  generalize (kindS (prodY (madeS 3) 3 (madeS 3) 3 9) 9).1 = k1 at *
  clear l2
  generalize prodY (madeS 3) 3 (madeS 3) 3 9 = P at *
  replace q1 := Lib.hid q1; replace q2 := Lib.hid q2
  go_enter Try.func3, Try.ntmps3
  go_wp2_with fail
  refine H1.out.mono ?_
  rintro e w' ⟨rfl, rfl⟩
  go_wp2_with fail
  refine H2.out.mono ?_
  rintro e w' ⟨rfl, rfl⟩
  go_wp2_with fail
  refine (M1.out _).mono ?_
  rintro e W1 ⟨rfl, hN1, hB1⟩
  replace hN1 := Lib.hid hN1; replace hB1 := Lib.hid hB1
  go_wp2_with fail
  refine (M2.out _).mono ?_
  rintro e W2 ⟨rfl, hN2, hB2⟩
  have hx := (hN1.out.below hB2 hN1.out.lt).in (n := 9) (by rw [asI_len]; exact q1.out)
  have hy := hN2.in (n := 9) (by rw [asI_len]; exact q2.out)
  have hBw := Lib.hid (hB1.out.trans (hB2.mono hB1.out.size))
  replace hx := Lib.hid hx; replace hy := Lib.hid hy
  clear hN1 hN2 hB1 hB2
  go_wp2_with fail
  refine (HP.out _ _ _ hx.out hy.out).mono ?_
  rintro e W3 ⟨r, c, rfl, hin, hB3⟩
  have hBw2 := Lib.hid (hBw.out.trans (hB3.mono hBw.out.size))
  replace hin := Lib.hid hin
  clear hx hy hBw hB3
  go_wp2_with fail
  refine (HI.out _ _ _ hin.out).mono ?_
  rintro e W4 ⟨rfl, hB4⟩
  have hBw3 := Lib.hid (hBw2.out.trans (hB4.mono hBw2.out.size))
  clear hBw2 hB4 hin
  go_wp2_with fail
  go_ret
  exact ⟨rfl, hBw3.out⟩

set_option maxHeartbeats 1000000 in
theorem prods23 (a0 a1 : Int) (w : World) (H1 : Hid (Calls Try.prog 5 #[.int .i64 a0, .int .i64 4] w fun e w' => e = .returned (.int .i64 2) ∧ w = w')) (H2 : Hid (Calls Try.prog 5 #[.int .i64 a1, .int .i64 4] w fun e w' => e = .returned (.int .i64 3) ∧ w = w')) :
    Calls Try.prog 3 #[.int .i64 a0, .int .i64 a1] w fun e w' => e = .returned (.bool true) ∧ Below w.heap.size w w' := by
  obtain ⟨l1, l2, l3⟩ := law_split (show lawAt 3 4 = true from law_true 2 3 (by decide) (by decide))
  have M1 : Hid (∀ W, Calls Try.prog 6 #[.int .i64 3] W fun e w' => e = .returned (.tuple #[.slice (some ⟨W.heap.size, 0, none⟩) 9 9, .int .i64 0]) ∧ Nums w' W.heap.size 3 (asI (madeS 3)) ∧ Below W.heap.size W w') := fun W => make_any 3 W (by decide) 3 rfl
  have M2 : Hid (∀ W, Calls Try.prog 6 #[.int .i64 4] W fun e w' => e = .returned (.tuple #[.slice (some ⟨W.heap.size, 0, none⟩) 16 16, .int .i64 0]) ∧ Nums w' W.heap.size 3 (asI (madeS 4)) ∧ Below W.heap.size W w') := fun W => make_any 4 W (by decide) 4 rfl
  have HP : Hid (∀ W p q, IntsIn W p 9 (asI (madeS 3)) → IntsIn W q 16 (asI (madeS 4)) → Calls Try.prog 7 #[.slice p 9 9, .slice q 16 16] W fun e w' => ∃ r c, e = .returned (.tuple #[.slice r 144 c, .int .i64 0]) ∧ IntsIn w' r 144 (asI (prodY (madeS 3) 3 (madeS 4) 4 12)) ∧ Below W.heap.size W w') :=
    fun W p q h1 h2 => product_any 3 4 9 16 9 16 p q (madeS 3) (madeS 4) W (by decide) (by decide) (by decide) (by decide) (by decide) (Lib.hid rfl) (Lib.hid rfl) h1 h2 (made_st 3 (by decide)) (made_st 4 (by decide))
  have HI : Hid (∀ W r c, IntsIn W r 144 (asI (prodY (madeS 3) 3 (madeS 4) 4 12)) → Calls Try.prog 8 #[.slice r 144 c] W fun e w' => e = .returned (.tuple #[.int .i64 (kindS (prodY (madeS 3) 3 (madeS 4) 4 12) 12).1, .int .i64 (kindS (prodY (madeS 3) 3 (madeS 4) 4 12) 12).2, .int .i64 0]) ∧ Below W.heap.size W w') :=
    fun W r c h => is_any 12 144 c r _ W (by decide) (by decide) (Lib.hid rfl) h l3
  change 2 ≤ (kindS (prodY (madeS 3) 3 (madeS 4) 4 12) 12).1 at l1
  change (kindS (prodY (madeS 3) 3 (madeS 4) 4 12) 12).2 = 870 at l2
  clear l3
  have q1 : (madeS 3).length = 9 := (made_ok 3 (by decide)).1
  have q2 : (madeS 4).length = 16 := (made_ok 4 (by decide)).1
  rw [l2] at HI
  generalize (kindS (prodY (madeS 3) 3 (madeS 4) 4 12) 12).1 = k1 at *
  clear l2
  generalize prodY (madeS 3) 3 (madeS 4) 4 12 = P at *
  replace q1 := Lib.hid q1; replace q2 := Lib.hid q2
  go_enter Try.func3, Try.ntmps3
  go_wp2_with fail
  refine H1.out.mono ?_
  rintro e w' ⟨rfl, rfl⟩
  go_wp2_with fail
  refine H2.out.mono ?_
  rintro e w' ⟨rfl, rfl⟩
  go_wp2_with fail
  refine (M1.out _).mono ?_
  rintro e W1 ⟨rfl, hN1, hB1⟩
  replace hN1 := Lib.hid hN1; replace hB1 := Lib.hid hB1
  go_wp2_with fail
  refine (M2.out _).mono ?_
  rintro e W2 ⟨rfl, hN2, hB2⟩
  have hx := (hN1.out.below hB2 hN1.out.lt).in (n := 9) (by rw [asI_len]; exact q1.out)
  have hy := hN2.in (n := 16) (by rw [asI_len]; exact q2.out)
  have hBw := Lib.hid (hB1.out.trans (hB2.mono hB1.out.size))
  replace hx := Lib.hid hx; replace hy := Lib.hid hy
  clear hN1 hN2 hB1 hB2
  go_wp2_with fail
  refine (HP.out _ _ _ hx.out hy.out).mono ?_
  rintro e W3 ⟨r, c, rfl, hin, hB3⟩
  have hBw2 := Lib.hid (hBw.out.trans (hB3.mono hBw.out.size))
  replace hin := Lib.hid hin
  clear hx hy hBw hB3
  go_wp2_with fail
  refine (HI.out _ _ _ hin.out).mono ?_
  rintro e W4 ⟨rfl, hB4⟩
  have hBw3 := Lib.hid (hBw2.out.trans (hB4.mono hBw2.out.size))
  clear hBw2 hB4 hin
  go_wp2_with fail
  go_ret
  exact ⟨rfl, hBw3.out⟩

set_option maxHeartbeats 1000000 in
theorem prods30 (a0 a1 : Int) (w : World) (H1 : Hid (Calls Try.prog 5 #[.int .i64 a0, .int .i64 4] w fun e w' => e = .returned (.int .i64 3) ∧ w = w')) (H2 : Hid (Calls Try.prog 5 #[.int .i64 a1, .int .i64 4] w fun e w' => e = .returned (.int .i64 0) ∧ w = w')) :
    Calls Try.prog 3 #[.int .i64 a0, .int .i64 a1] w fun e w' => e = .returned (.bool true) ∧ Below w.heap.size w w' := by
  obtain ⟨l1, l2, l3⟩ := law_split (show lawAt 4 1 = true from law_true 3 0 (by decide) (by decide))
  have M1 : Hid (∀ W, Calls Try.prog 6 #[.int .i64 4] W fun e w' => e = .returned (.tuple #[.slice (some ⟨W.heap.size, 0, none⟩) 16 16, .int .i64 0]) ∧ Nums w' W.heap.size 3 (asI (madeS 4)) ∧ Below W.heap.size W w') := fun W => make_any 4 W (by decide) 4 rfl
  have M2 : Hid (∀ W, Calls Try.prog 6 #[.int .i64 1] W fun e w' => e = .returned (.tuple #[.slice (some ⟨W.heap.size, 0, none⟩) 1 1, .int .i64 0]) ∧ Nums w' W.heap.size 3 (asI (madeS 1)) ∧ Below W.heap.size W w') := fun W => make_any 1 W (by decide) 1 rfl
  have HP : Hid (∀ W p q, IntsIn W p 16 (asI (madeS 4)) → IntsIn W q 1 (asI (madeS 1)) → Calls Try.prog 7 #[.slice p 16 16, .slice q 1 1] W fun e w' => ∃ r c, e = .returned (.tuple #[.slice r 16 c, .int .i64 0]) ∧ IntsIn w' r 16 (asI (prodY (madeS 4) 4 (madeS 1) 1 4)) ∧ Below W.heap.size W w') :=
    fun W p q h1 h2 => product_any 4 1 16 1 16 1 p q (madeS 4) (madeS 1) W (by decide) (by decide) (by decide) (by decide) (by decide) (Lib.hid rfl) (Lib.hid rfl) h1 h2 (made_st 4 (by decide)) (made_st 1 (by decide))
  have HI : Hid (∀ W r c, IntsIn W r 16 (asI (prodY (madeS 4) 4 (madeS 1) 1 4)) → Calls Try.prog 8 #[.slice r 16 c] W fun e w' => e = .returned (.tuple #[.int .i64 (kindS (prodY (madeS 4) 4 (madeS 1) 1 4) 4).1, .int .i64 (kindS (prodY (madeS 4) 4 (madeS 1) 1 4) 4).2, .int .i64 0]) ∧ Below W.heap.size W w') :=
    fun W r c h => is_any 4 16 c r _ W (by decide) (by decide) (Lib.hid rfl) h l3
  change 2 ≤ (kindS (prodY (madeS 4) 4 (madeS 1) 1 4) 4).1 at l1
  change (kindS (prodY (madeS 4) 4 (madeS 1) 1 4) 4).2 = 34 at l2
  clear l3
  have q1 : (madeS 4).length = 16 := (made_ok 4 (by decide)).1
  have q2 : (madeS 1).length = 1 := (made_ok 1 (by decide)).1
  rw [l2] at HI
  generalize (kindS (prodY (madeS 4) 4 (madeS 1) 1 4) 4).1 = k1 at *
  clear l2
  generalize prodY (madeS 4) 4 (madeS 1) 1 4 = P at *
  replace q1 := Lib.hid q1; replace q2 := Lib.hid q2
  go_enter Try.func3, Try.ntmps3
  go_wp2_with fail
  refine H1.out.mono ?_
  rintro e w' ⟨rfl, rfl⟩
  go_wp2_with fail
  refine H2.out.mono ?_
  rintro e w' ⟨rfl, rfl⟩
  go_wp2_with fail
  refine (M1.out _).mono ?_
  rintro e W1 ⟨rfl, hN1, hB1⟩
  replace hN1 := Lib.hid hN1; replace hB1 := Lib.hid hB1
  go_wp2_with fail
  refine (M2.out _).mono ?_
  rintro e W2 ⟨rfl, hN2, hB2⟩
  have hx := (hN1.out.below hB2 hN1.out.lt).in (n := 16) (by rw [asI_len]; exact q1.out)
  have hy := hN2.in (n := 1) (by rw [asI_len]; exact q2.out)
  have hBw := Lib.hid (hB1.out.trans (hB2.mono hB1.out.size))
  replace hx := Lib.hid hx; replace hy := Lib.hid hy
  clear hN1 hN2 hB1 hB2
  go_wp2_with fail
  refine (HP.out _ _ _ hx.out hy.out).mono ?_
  rintro e W3 ⟨r, c, rfl, hin, hB3⟩
  have hBw2 := Lib.hid (hBw.out.trans (hB3.mono hBw.out.size))
  replace hin := Lib.hid hin
  clear hx hy hBw hB3
  go_wp2_with fail
  refine (HI.out _ _ _ hin.out).mono ?_
  rintro e W4 ⟨rfl, hB4⟩
  have hBw3 := Lib.hid (hBw2.out.trans (hB4.mono hBw2.out.size))
  clear hBw2 hB4 hin
  go_wp2_with fail
  go_ret
  exact ⟨rfl, hBw3.out⟩

set_option maxHeartbeats 1000000 in
theorem prods31 (a0 a1 : Int) (w : World) (H1 : Hid (Calls Try.prog 5 #[.int .i64 a0, .int .i64 4] w fun e w' => e = .returned (.int .i64 3) ∧ w = w')) (H2 : Hid (Calls Try.prog 5 #[.int .i64 a1, .int .i64 4] w fun e w' => e = .returned (.int .i64 1) ∧ w = w')) :
    Calls Try.prog 3 #[.int .i64 a0, .int .i64 a1] w fun e w' => e = .returned (.bool true) ∧ Below w.heap.size w w' := by
  obtain ⟨l1, l2, l3⟩ := law_split (show lawAt 4 3 = true from law_true 3 1 (by decide) (by decide))
  have M1 : Hid (∀ W, Calls Try.prog 6 #[.int .i64 4] W fun e w' => e = .returned (.tuple #[.slice (some ⟨W.heap.size, 0, none⟩) 16 16, .int .i64 0]) ∧ Nums w' W.heap.size 3 (asI (madeS 4)) ∧ Below W.heap.size W w') := fun W => make_any 4 W (by decide) 4 rfl
  have M2 : Hid (∀ W, Calls Try.prog 6 #[.int .i64 3] W fun e w' => e = .returned (.tuple #[.slice (some ⟨W.heap.size, 0, none⟩) 9 9, .int .i64 0]) ∧ Nums w' W.heap.size 3 (asI (madeS 3)) ∧ Below W.heap.size W w') := fun W => make_any 3 W (by decide) 3 rfl
  have HP : Hid (∀ W p q, IntsIn W p 16 (asI (madeS 4)) → IntsIn W q 9 (asI (madeS 3)) → Calls Try.prog 7 #[.slice p 16 16, .slice q 9 9] W fun e w' => ∃ r c, e = .returned (.tuple #[.slice r 144 c, .int .i64 0]) ∧ IntsIn w' r 144 (asI (prodY (madeS 4) 4 (madeS 3) 3 12)) ∧ Below W.heap.size W w') :=
    fun W p q h1 h2 => product_any 4 3 16 9 16 9 p q (madeS 4) (madeS 3) W (by decide) (by decide) (by decide) (by decide) (by decide) (Lib.hid rfl) (Lib.hid rfl) h1 h2 (made_st 4 (by decide)) (made_st 3 (by decide))
  have HI : Hid (∀ W r c, IntsIn W r 144 (asI (prodY (madeS 4) 4 (madeS 3) 3 12)) → Calls Try.prog 8 #[.slice r 144 c] W fun e w' => e = .returned (.tuple #[.int .i64 (kindS (prodY (madeS 4) 4 (madeS 3) 3 12) 12).1, .int .i64 (kindS (prodY (madeS 4) 4 (madeS 3) 3 12) 12).2, .int .i64 0]) ∧ Below W.heap.size W w') :=
    fun W r c h => is_any 12 144 c r _ W (by decide) (by decide) (Lib.hid rfl) h l3
  change 2 ≤ (kindS (prodY (madeS 4) 4 (madeS 3) 3 12) 12).1 at l1
  change (kindS (prodY (madeS 4) 4 (madeS 3) 3 12) 12).2 = 870 at l2
  clear l3
  have q1 : (madeS 4).length = 16 := (made_ok 4 (by decide)).1
  have q2 : (madeS 3).length = 9 := (made_ok 3 (by decide)).1
  rw [l2] at HI
  generalize (kindS (prodY (madeS 4) 4 (madeS 3) 3 12) 12).1 = k1 at *
  clear l2
  generalize prodY (madeS 4) 4 (madeS 3) 3 12 = P at *
  replace q1 := Lib.hid q1; replace q2 := Lib.hid q2
  go_enter Try.func3, Try.ntmps3
  go_wp2_with fail
  refine H1.out.mono ?_
  rintro e w' ⟨rfl, rfl⟩
  go_wp2_with fail
  refine H2.out.mono ?_
  rintro e w' ⟨rfl, rfl⟩
  go_wp2_with fail
  refine (M1.out _).mono ?_
  rintro e W1 ⟨rfl, hN1, hB1⟩
  replace hN1 := Lib.hid hN1; replace hB1 := Lib.hid hB1
  go_wp2_with fail
  refine (M2.out _).mono ?_
  rintro e W2 ⟨rfl, hN2, hB2⟩
  have hx := (hN1.out.below hB2 hN1.out.lt).in (n := 16) (by rw [asI_len]; exact q1.out)
  have hy := hN2.in (n := 9) (by rw [asI_len]; exact q2.out)
  have hBw := Lib.hid (hB1.out.trans (hB2.mono hB1.out.size))
  replace hx := Lib.hid hx; replace hy := Lib.hid hy
  clear hN1 hN2 hB1 hB2
  go_wp2_with fail
  refine (HP.out _ _ _ hx.out hy.out).mono ?_
  rintro e W3 ⟨r, c, rfl, hin, hB3⟩
  have hBw2 := Lib.hid (hBw.out.trans (hB3.mono hBw.out.size))
  replace hin := Lib.hid hin
  clear hx hy hBw hB3
  go_wp2_with fail
  refine (HI.out _ _ _ hin.out).mono ?_
  rintro e W4 ⟨rfl, hB4⟩
  have hBw3 := Lib.hid (hBw2.out.trans (hB4.mono hBw2.out.size))
  clear hBw2 hB4 hin
  go_wp2_with fail
  go_ret
  exact ⟨rfl, hBw3.out⟩

set_option maxHeartbeats 1000000 in
theorem prods32 (a0 a1 : Int) (w : World) (H1 : Hid (Calls Try.prog 5 #[.int .i64 a0, .int .i64 4] w fun e w' => e = .returned (.int .i64 3) ∧ w = w')) (H2 : Hid (Calls Try.prog 5 #[.int .i64 a1, .int .i64 4] w fun e w' => e = .returned (.int .i64 2) ∧ w = w')) :
    Calls Try.prog 3 #[.int .i64 a0, .int .i64 a1] w fun e w' => e = .returned (.bool true) ∧ Below w.heap.size w w' := by
  obtain ⟨l1, l2, l3⟩ := law_split (show lawAt 4 3 = true from law_true 3 2 (by decide) (by decide))
  have M1 : Hid (∀ W, Calls Try.prog 6 #[.int .i64 4] W fun e w' => e = .returned (.tuple #[.slice (some ⟨W.heap.size, 0, none⟩) 16 16, .int .i64 0]) ∧ Nums w' W.heap.size 3 (asI (madeS 4)) ∧ Below W.heap.size W w') := fun W => make_any 4 W (by decide) 4 rfl
  have M2 : Hid (∀ W, Calls Try.prog 6 #[.int .i64 3] W fun e w' => e = .returned (.tuple #[.slice (some ⟨W.heap.size, 0, none⟩) 9 9, .int .i64 0]) ∧ Nums w' W.heap.size 3 (asI (madeS 3)) ∧ Below W.heap.size W w') := fun W => make_any 3 W (by decide) 3 rfl
  have HP : Hid (∀ W p q, IntsIn W p 16 (asI (madeS 4)) → IntsIn W q 9 (asI (madeS 3)) → Calls Try.prog 7 #[.slice p 16 16, .slice q 9 9] W fun e w' => ∃ r c, e = .returned (.tuple #[.slice r 144 c, .int .i64 0]) ∧ IntsIn w' r 144 (asI (prodY (madeS 4) 4 (madeS 3) 3 12)) ∧ Below W.heap.size W w') :=
    fun W p q h1 h2 => product_any 4 3 16 9 16 9 p q (madeS 4) (madeS 3) W (by decide) (by decide) (by decide) (by decide) (by decide) (Lib.hid rfl) (Lib.hid rfl) h1 h2 (made_st 4 (by decide)) (made_st 3 (by decide))
  have HI : Hid (∀ W r c, IntsIn W r 144 (asI (prodY (madeS 4) 4 (madeS 3) 3 12)) → Calls Try.prog 8 #[.slice r 144 c] W fun e w' => e = .returned (.tuple #[.int .i64 (kindS (prodY (madeS 4) 4 (madeS 3) 3 12) 12).1, .int .i64 (kindS (prodY (madeS 4) 4 (madeS 3) 3 12) 12).2, .int .i64 0]) ∧ Below W.heap.size W w') :=
    fun W r c h => is_any 12 144 c r _ W (by decide) (by decide) (Lib.hid rfl) h l3
  change 2 ≤ (kindS (prodY (madeS 4) 4 (madeS 3) 3 12) 12).1 at l1
  change (kindS (prodY (madeS 4) 4 (madeS 3) 3 12) 12).2 = 870 at l2
  clear l3
  have q1 : (madeS 4).length = 16 := (made_ok 4 (by decide)).1
  have q2 : (madeS 3).length = 9 := (made_ok 3 (by decide)).1
  rw [l2] at HI
  generalize (kindS (prodY (madeS 4) 4 (madeS 3) 3 12) 12).1 = k1 at *
  clear l2
  generalize prodY (madeS 4) 4 (madeS 3) 3 12 = P at *
  replace q1 := Lib.hid q1; replace q2 := Lib.hid q2
  go_enter Try.func3, Try.ntmps3
  go_wp2_with fail
  refine H1.out.mono ?_
  rintro e w' ⟨rfl, rfl⟩
  go_wp2_with fail
  refine H2.out.mono ?_
  rintro e w' ⟨rfl, rfl⟩
  go_wp2_with fail
  refine (M1.out _).mono ?_
  rintro e W1 ⟨rfl, hN1, hB1⟩
  replace hN1 := Lib.hid hN1; replace hB1 := Lib.hid hB1
  go_wp2_with fail
  refine (M2.out _).mono ?_
  rintro e W2 ⟨rfl, hN2, hB2⟩
  have hx := (hN1.out.below hB2 hN1.out.lt).in (n := 16) (by rw [asI_len]; exact q1.out)
  have hy := hN2.in (n := 9) (by rw [asI_len]; exact q2.out)
  have hBw := Lib.hid (hB1.out.trans (hB2.mono hB1.out.size))
  replace hx := Lib.hid hx; replace hy := Lib.hid hy
  clear hN1 hN2 hB1 hB2
  go_wp2_with fail
  refine (HP.out _ _ _ hx.out hy.out).mono ?_
  rintro e W3 ⟨r, c, rfl, hin, hB3⟩
  have hBw2 := Lib.hid (hBw.out.trans (hB3.mono hBw.out.size))
  replace hin := Lib.hid hin
  clear hx hy hBw hB3
  go_wp2_with fail
  refine (HI.out _ _ _ hin.out).mono ?_
  rintro e W4 ⟨rfl, hB4⟩
  have hBw3 := Lib.hid (hBw2.out.trans (hB4.mono hBw2.out.size))
  clear hBw2 hB4 hin
  go_wp2_with fail
  go_ret
  exact ⟨rfl, hBw3.out⟩

set_option maxHeartbeats 1000000 in
theorem prods33 (a0 a1 : Int) (w : World) (H1 : Hid (Calls Try.prog 5 #[.int .i64 a0, .int .i64 4] w fun e w' => e = .returned (.int .i64 3) ∧ w = w')) (H2 : Hid (Calls Try.prog 5 #[.int .i64 a1, .int .i64 4] w fun e w' => e = .returned (.int .i64 3) ∧ w = w')) :
    Calls Try.prog 3 #[.int .i64 a0, .int .i64 a1] w fun e w' => e = .returned (.bool true) ∧ Below w.heap.size w w' := by
  obtain ⟨l1, l2, l3⟩ := law_split (show lawAt 3 3 = true from law_true 3 3 (by decide) (by decide))
  have M1 : Hid (∀ W, Calls Try.prog 6 #[.int .i64 3] W fun e w' => e = .returned (.tuple #[.slice (some ⟨W.heap.size, 0, none⟩) 9 9, .int .i64 0]) ∧ Nums w' W.heap.size 3 (asI (madeS 3)) ∧ Below W.heap.size W w') := fun W => make_any 3 W (by decide) 3 rfl
  have M2 : Hid (∀ W, Calls Try.prog 6 #[.int .i64 3] W fun e w' => e = .returned (.tuple #[.slice (some ⟨W.heap.size, 0, none⟩) 9 9, .int .i64 0]) ∧ Nums w' W.heap.size 3 (asI (madeS 3)) ∧ Below W.heap.size W w') := fun W => make_any 3 W (by decide) 3 rfl
  have HP : Hid (∀ W p q, IntsIn W p 9 (asI (madeS 3)) → IntsIn W q 9 (asI (madeS 3)) → Calls Try.prog 7 #[.slice p 9 9, .slice q 9 9] W fun e w' => ∃ r c, e = .returned (.tuple #[.slice r 81 c, .int .i64 0]) ∧ IntsIn w' r 81 (asI (prodY (madeS 3) 3 (madeS 3) 3 9)) ∧ Below W.heap.size W w') :=
    fun W p q h1 h2 => product_any 3 3 9 9 9 9 p q (madeS 3) (madeS 3) W (by decide) (by decide) (by decide) (by decide) (by decide) (Lib.hid rfl) (Lib.hid rfl) h1 h2 (made_st 3 (by decide)) (made_st 3 (by decide))
  have HI : Hid (∀ W r c, IntsIn W r 81 (asI (prodY (madeS 3) 3 (madeS 3) 3 9)) → Calls Try.prog 8 #[.slice r 81 c] W fun e w' => e = .returned (.tuple #[.int .i64 (kindS (prodY (madeS 3) 3 (madeS 3) 3 9) 9).1, .int .i64 (kindS (prodY (madeS 3) 3 (madeS 3) 3 9) 9).2, .int .i64 0]) ∧ Below W.heap.size W w') :=
    fun W r c h => is_any 9 81 c r _ W (by decide) (by decide) (Lib.hid rfl) h l3
  change 2 ≤ (kindS (prodY (madeS 3) 3 (madeS 3) 3 9) 9).1 at l1
  change (kindS (prodY (madeS 3) 3 (madeS 3) 3 9) 9).2 = 369 at l2
  clear l3
  have q1 : (madeS 3).length = 9 := (made_ok 3 (by decide)).1
  have q2 : (madeS 3).length = 9 := (made_ok 3 (by decide)).1
  rw [l2] at HI
  generalize (kindS (prodY (madeS 3) 3 (madeS 3) 3 9) 9).1 = k1 at *
  clear l2
  generalize prodY (madeS 3) 3 (madeS 3) 3 9 = P at *
  replace q1 := Lib.hid q1; replace q2 := Lib.hid q2
  go_enter Try.func3, Try.ntmps3
  go_wp2_with fail
  refine H1.out.mono ?_
  rintro e w' ⟨rfl, rfl⟩
  go_wp2_with fail
  refine H2.out.mono ?_
  rintro e w' ⟨rfl, rfl⟩
  go_wp2_with fail
  refine (M1.out _).mono ?_
  rintro e W1 ⟨rfl, hN1, hB1⟩
  replace hN1 := Lib.hid hN1; replace hB1 := Lib.hid hB1
  go_wp2_with fail
  refine (M2.out _).mono ?_
  rintro e W2 ⟨rfl, hN2, hB2⟩
  have hx := (hN1.out.below hB2 hN1.out.lt).in (n := 9) (by rw [asI_len]; exact q1.out)
  have hy := hN2.in (n := 9) (by rw [asI_len]; exact q2.out)
  have hBw := Lib.hid (hB1.out.trans (hB2.mono hB1.out.size))
  replace hx := Lib.hid hx; replace hy := Lib.hid hy
  clear hN1 hN2 hB1 hB2
  go_wp2_with fail
  refine (HP.out _ _ _ hx.out hy.out).mono ?_
  rintro e W3 ⟨r, c, rfl, hin, hB3⟩
  have hBw2 := Lib.hid (hBw.out.trans (hB3.mono hBw.out.size))
  replace hin := Lib.hid hin
  clear hx hy hBw hB3
  go_wp2_with fail
  refine (HI.out _ _ _ hin.out).mono ?_
  rintro e W4 ⟨rfl, hB4⟩
  have hBw3 := Lib.hid (hBw2.out.trans (hB4.mono hBw2.out.size))
  clear hBw2 hB4 hin
  go_wp2_with fail
  go_ret
  exact ⟨rfl, hBw3.out⟩

theorem products_any (a0 a1 : Int) (w : World) (x1 : -9223372036854775808 ≤ a0) (x2 : a0 ≤ 9223372036854775807) (y1 : -9223372036854775808 ≤ a1) (y2 : a1 ≤ 9223372036854775807) :
    Calls Try.prog 3 #[.int .i64 a0, .int .i64 a1] w fun e w' => e = .returned (.bool true) ∧ Below w.heap.size w w' := by
  have H1 := picked_any a0 4 w x1 x2 (by omega) (by omega) 4 rfl
  have H2 := picked_any a1 4 w y1 y2 (by omega) (by omega) 4 rfl
  have p1 := pick_lt a0 4 (by omega)
  have p2 := pick_lt a1 4 (by omega)
  generalize pick a0 4 = pa at *
  generalize pick a1 4 = pb at *
  rcases (show pa = 0 ∨ pa = 1 ∨ pa = 2 ∨ pa = 3 from by omega) with rfl | rfl | rfl | rfl <;> rcases (show pb = 0 ∨ pb = 1 ∨ pb = 2 ∨ pb = 3 from by omega) with rfl | rfl | rfl | rfl
  · exact prods00 a0 a1 w H1 H2
  · exact prods01 a0 a1 w H1 H2
  · exact prods02 a0 a1 w H1 H2
  · exact prods03 a0 a1 w H1 H2
  · exact prods10 a0 a1 w H1 H2
  · exact prods11 a0 a1 w H1 H2
  · exact prods12 a0 a1 w H1 H2
  · exact prods13 a0 a1 w H1 H2
  · exact prods20 a0 a1 w H1 H2
  · exact prods21 a0 a1 w H1 H2
  · exact prods22 a0 a1 w H1 H2
  · exact prods23 a0 a1 w H1 H2
  · exact prods30 a0 a1 w H1 H2
  · exact prods31 a0 a1 w H1 H2
  · exact prods32 a0 a1 w H1 H2
  · exact prods33 a0 a1 w H1 H2
end Go.Proofs.Ytbfdhegglaaghaa
