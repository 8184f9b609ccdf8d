/- gameroomkeep.DiceRing returns true (ring_ok, ring_bad) whatever two slices of ints it is given; conditions: the slices read as lists of ints. -/
import Derived.Test.YtlpiejeaekfchaaPlain
namespace Go.Proofs.Ytlpiejeaekfchaa
open Go.RowKit

set_option maxHeartbeats 1000000 in
theorem ring_ok (p1 p2 : Option Addr) (n1 c1 n2 c2 : Nat) (xs ys : List Int) (w : World) (h1 : 1 ≤ n1) (h1' : n1 ≤ 20) (h2 : 1 ≤ n2) (h2' : n2 ≤ 20) (hx : IntsIn w p1 n1 xs) (hy : IntsIn w p2 n2 ys) :
    Calls Try.prog 3 #[.slice p1 n1 c1, .slice p2 n2 c2] w fun e w' => e = .returned (.bool true) ∧ Below w.heap.size w w' := by
  go_enter Try.func3, Try.ntmps3
  go_wp2_with fail
  have X : Hid (IntsIn (((w.alloc (.cells #[.int .i64 2, .int .i64 4, .int .i64 9] 3)).alloc (.cells #[.int .i64 1, .int .i64 6, .int .i64 8] 3)).alloc (.cells #[.int .i64 3, .int .i64 5, .int .i64 7] 3)) (some ⟨w.heap.size, 0, none⟩) 3 [2, 4, 9]) :=
    ((IntsIn.new w _ _ _ _ _ rfl rfl rfl).alloc _).alloc _
  have Y : Hid (IntsIn (((w.alloc (.cells #[.int .i64 2, .int .i64 4, .int .i64 9] 3)).alloc (.cells #[.int .i64 1, .int .i64 6, .int .i64 8] 3)).alloc (.cells #[.int .i64 3, .int .i64 5, .int .i64 7] 3)) (some ⟨w.heap.size + 1, 0, none⟩) 3 [1, 6, 8]) :=
    (IntsIn.new _ _ _ _ _ _ (by simp) rfl rfl).alloc _
  have Z : Hid (IntsIn (((w.alloc (.cells #[.int .i64 2, .int .i64 4, .int .i64 9] 3)).alloc (.cells #[.int .i64 1, .int .i64 6, .int .i64 8] 3)).alloc (.cells #[.int .i64 3, .int .i64 5, .int .i64 7] 3)) (some ⟨w.heap.size + 1 + 1, 0, none⟩) 3 [3, 5, 7]) :=
    IntsIn.new _ _ _ _ _ _ (by simp) rfl rfl
  have A : Hid (IntsIn (((w.alloc (.cells #[.int .i64 2, .int .i64 4, .int .i64 9] 3)).alloc (.cells #[.int .i64 1, .int .i64 6, .int .i64 8] 3)).alloc (.cells #[.int .i64 3, .int .i64 5, .int .i64 7] 3)) p1 n1 xs) := ((hx.alloc _).alloc _).alloc _
  have B : Hid (IntsIn (((w.alloc (.cells #[.int .i64 2, .int .i64 4, .int .i64 9] 3)).alloc (.cells #[.int .i64 1, .int .i64 6, .int .i64 8] 3)).alloc (.cells #[.int .i64 3, .int .i64 5, .int .i64 7] 3)) p2 n2 ys) := ((hy.alloc _).alloc _).alloc _
  have HB : Hid (Below w.heap.size w (((w.alloc (.cells #[.int .i64 2, .int .i64 4, .int .i64 9] 3)).alloc (.cells #[.int .i64 1, .int .i64 6, .int .i64 8] 3)).alloc (.cells #[.int .i64 3, .int .i64 5, .int .i64 7] 3))) :=
    (((Below.refl _ _).alloc (Nat.le_refl _) _).alloc (by simp) _).alloc (by simp; omega) _
  generalize ((w.alloc (.cells #[.int .i64 2, .int .i64 4, .int .i64 9] 3)).alloc (.cells #[.int .i64 1, .int .i64 6, .int .i64 8] 3)).alloc (.cells #[.int .i64 3, .int .i64 5, .int .i64 7] 3) = W at *
  refine (duel_ok _ _ _ _ _ _ _ _ _ (by omega) (by omega) (by omega) (by omega) X.out Y.out 5 0 4 (by decide)).mono ?_
  rintro e W1 ⟨rfl, hb1⟩
  replace X := Lib.hid (X.out.below hb1); replace Y := Lib.hid (Y.out.below hb1); replace Z := Lib.hid (Z.out.below hb1); replace A := Lib.hid (A.out.below hb1); replace B := Lib.hid (B.out.below hb1); replace HB := Lib.hid (HB.out.trans (hb1.mono HB.out.size)); clear hb1 hx hy
  go_wp2_with fail
  refine (duel_ok _ _ _ _ _ _ _ _ _ (by omega) (by omega) (by omega) (by omega) Y.out Z.out 5 0 4 (by decide)).mono ?_
  rintro e W2 ⟨rfl, hb1⟩
  replace X := Lib.hid (X.out.below hb1); replace Z := Lib.hid (Z.out.below hb1); replace A := Lib.hid (A.out.below hb1); replace B := Lib.hid (B.out.below hb1); replace HB := Lib.hid (HB.out.trans (hb1.mono HB.out.size)); clear hb1 Y
  go_wp2_with fail
  refine (duel_ok _ _ _ _ _ _ _ _ _ (by omega) (by omega) (by omega) (by omega) Z.out X.out 5 0 4 (by decide)).mono ?_
  rintro e W3 ⟨rfl, hb1⟩
  replace A := Lib.hid (A.out.below hb1); replace B := Lib.hid (B.out.below hb1); replace HB := Lib.hid (HB.out.trans (hb1.mono HB.out.size)); clear hb1 X Z
  go_wp2_with fail
  obtain ⟨p, q, r, hr⟩ : ∃ p q r, duel ys xs (0, 0, 0) = (p, q, r) := ⟨_, _, _, rfl⟩
  obtain ⟨g1, g2, g3, g4⟩ := duel_all xs ys p q r hr
  have hfl := Lib.hid (duel_flip xs ys p q r hr)
  replace hr := Lib.hid hr
  rw [A.out.len, B.out.len] at g4
  have hmul : (n1 : Int) * n2 ≤ 400 := by
    have : n1 * n2 ≤ 20 * 20 := Nat.mul_le_mul h1' h2'
    have e : ((n1 * n2 : Nat) : Int) = (n1 : Int) * n2 := by simp
    omega
  have hmul0 : 0 ≤ (n1 : Int) * n2 := by
    have e : ((n1 * n2 : Nat) : Int) = (n1 : Int) * n2 := by simp
    omega
  have hsum : (p + q + r == (n1 : Int) * n2) = true := by simpa using g4
  have g5 : p + q + r ≤ 400 := by omega
  clear g4
  refine (duel_ok _ _ _ _ _ _ _ _ _ h1 h1' h2 h2' A.out B.out p q r hr.out).mono ?_
  rintro e W4 ⟨rfl, hb1⟩
  replace A := Lib.hid (A.out.below hb1); replace B := Lib.hid (B.out.below hb1); replace HB := Lib.hid (HB.out.trans (hb1.mono HB.out.size)); clear hb1
  go_wp2_with fail
  refine (duel_ok _ _ _ _ _ _ _ _ _ h2 h2' h1 h1' B.out A.out r q p hfl.out).mono ?_
  rintro e W5 ⟨rfl, hb1⟩
  replace HB := Lib.hid (HB.out.trans (hb1.mono HB.out.size)); clear hb1
  go_wp2_with fail
  go_ret
  exact ⟨rfl, HB.out⟩
set_option maxHeartbeats 1000000 in
theorem ring_bad (p1 p2 : Option Addr) (n1 c1 n2 c2 : Nat) (w : World) (h : n1 < 1 ∨ 20 < n1 ∨ n2 < 1 ∨ 20 < n2) :
    Calls Try.prog 3 #[.slice p1 n1 c1, .slice p2 n2 c2] w fun e w' => e = .returned (.bool true) ∧ Below w.heap.size w w' := by
  replace h := Lib.hid h
  go_enter Try.func3, Try.ntmps3
  go_wp2_with fail
  have X : Hid (IntsIn (((w.alloc (.cells #[.int .i64 2, .int .i64 4, .int .i64 9] 3)).alloc (.cells #[.int .i64 1, .int .i64 6, .int .i64 8] 3)).alloc (.cells #[.int .i64 3, .int .i64 5, .int .i64 7] 3)) (some ⟨w.heap.size, 0, none⟩) 3 [2, 4, 9]) :=
    ((IntsIn.new w _ _ _ _ _ rfl rfl rfl).alloc _).alloc _
  have Y : Hid (IntsIn (((w.alloc (.cells #[.int .i64 2, .int .i64 4, .int .i64 9] 3)).alloc (.cells #[.int .i64 1, .int .i64 6, .int .i64 8] 3)).alloc (.cells #[.int .i64 3, .int .i64 5, .int .i64 7] 3)) (some ⟨w.heap.size + 1, 0, none⟩) 3 [1, 6, 8]) :=
    (IntsIn.new _ _ _ _ _ _ (by simp) rfl rfl).alloc _
  have Z : Hid (IntsIn (((w.alloc (.cells #[.int .i64 2, .int .i64 4, .int .i64 9] 3)).alloc (.cells #[.int .i64 1, .int .i64 6, .int .i64 8] 3)).alloc (.cells #[.int .i64 3, .int .i64 5, .int .i64 7] 3)) (some ⟨w.heap.size + 1 + 1, 0, none⟩) 3 [3, 5, 7]) :=
    IntsIn.new _ _ _ _ _ _ (by simp) rfl rfl
  have HB : Hid (Below w.heap.size w (((w.alloc (.cells #[.int .i64 2, .int .i64 4, .int .i64 9] 3)).alloc (.cells #[.int .i64 1, .int .i64 6, .int .i64 8] 3)).alloc (.cells #[.int .i64 3, .int .i64 5, .int .i64 7] 3))) :=
    (((Below.refl _ _).alloc (Nat.le_refl _) _).alloc (by simp) _).alloc (by simp; omega) _
  generalize ((w.alloc (.cells #[.int .i64 2, .int .i64 4, .int .i64 9] 3)).alloc (.cells #[.int .i64 1, .int .i64 6, .int .i64 8] 3)).alloc (.cells #[.int .i64 3, .int .i64 5, .int .i64 7] 3) = W at *
  refine (duel_ok _ _ _ _ _ _ _ _ _ (by omega) (by omega) (by omega) (by omega) X.out Y.out 5 0 4 (by decide)).mono ?_
  rintro e W1 ⟨rfl, hb1⟩
  replace X := Lib.hid (X.out.below hb1); replace Y := Lib.hid (Y.out.below hb1); replace Z := Lib.hid (Z.out.below hb1); replace HB := Lib.hid (HB.out.trans (hb1.mono HB.out.size)); clear hb1
  go_wp2_with fail
  refine (duel_ok _ _ _ _ _ _ _ _ _ (by omega) (by omega) (by omega) (by omega) Y.out Z.out 5 0 4 (by decide)).mono ?_
  rintro e W2 ⟨rfl, hb1⟩
  replace X := Lib.hid (X.out.below hb1); replace Z := Lib.hid (Z.out.below hb1); replace HB := Lib.hid (HB.out.trans (hb1.mono HB.out.size)); clear hb1 Y
  go_wp2_with fail
  refine (duel_ok _ _ _ _ _ _ _ _ _ (by omega) (by omega) (by omega) (by omega) Z.out X.out 5 0 4 (by decide)).mono ?_
  rintro e W3 ⟨rfl, hb1⟩
  replace HB := Lib.hid (HB.out.trans (hb1.mono HB.out.size)); clear hb1 X Z
  go_wp2_with fail
  refine (duel_bad _ _ _ _ _ _ _ h.out).mono ?_
  rintro e W4 ⟨rfl, hb1⟩
  replace HB := Lib.hid (HB.out.trans (hb1.mono HB.out.size)); clear hb1
  go_wp2_with fail
  refine (duel_bad _ _ _ _ _ _ _ (by have := h.out; omega)).mono ?_
  rintro e W5 ⟨rfl, hb1⟩
  replace HB := Lib.hid (HB.out.trans (hb1.mono HB.out.size)); clear hb1
  go_wp2_with fail
  go_ret
  exact ⟨rfl, HB.out⟩
end Go.Proofs.Ytlpiejeaekfchaa
