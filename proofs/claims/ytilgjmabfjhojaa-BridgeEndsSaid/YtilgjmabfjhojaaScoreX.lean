/- What bridge.Score computes; conditions: a contract of level 1 to 7, strain 0 to 4, doubled 0 to 2, declarer 0 to 3, and 0 to 13 tricks. -/
import Derived.Test.YtilgjmabfjhojaaAuctionW
namespace Go.Proofs.Ytilgjmabfjhojaa
open Go.RowKit

def pk (f : Bool) (a b : Int) : Int := if f then a else b
theorem pk_any (f : Bool) (a b : Int) (w : World) : Calls Try.prog 14 #[.bool f, .int .i64 a, .int .i64 b] w fun e w' => e = .returned (.int .i64 (pk f a b)) ∧ w = w' := by
  cases f
  · go_enter Try.func14, Try.ntmps14
    go_wp2
    go_ret
    exact ⟨rfl, rfl⟩
  · go_enter Try.func14, Try.ntmps14
    go_wp2
    go_ret
    exact ⟨rfl, rfl⟩
theorem pk_bd (f : Bool) (a b lo hi : Int) (h1 : lo ≤ a) (h2 : a ≤ hi) (h3 : lo ≤ b) (h4 : b ≤ hi) : lo ≤ pk f a b ∧ pk f a b ≤ hi := by
  unfold pk; split <;> omega

def failT (v : Bool) (i : Nat) : Int := if i = 0 then pk v 200 100 else if i < 3 then pk v 300 200 else 300
def failN (v : Bool) (i : Nat) : Int := (List.range i).foldl (fun (n : Int) i => n + failT v i) 0
theorem failN_succ (v : Bool) (i : Nat) : failN v (i + 1) = failN v i + failT v i := by simp [failN, List.range_succ]
theorem failN_bd (v : Bool) (i : Nat) : 0 ≤ failN v i ∧ failN v i ≤ 300 * i := by
  induction i with
  | zero => simp [failN]
  | succ i ih =>
    rw [failN_succ]
    have : 0 ≤ failT v i ∧ failT v i ≤ 300 := by
      unfold failT
      split
      · exact pk_bd _ _ _ _ _ (by omega) (by omega) (by omega) (by omega)
      · split
        · exact pk_bd _ _ _ _ _ (by omega) (by omega) (by omega) (by omega)
        · omega
    push_cast
    omega
theorem failS_zero (few : Nat) (v : Bool) : failS few 0 v = few * pk v 100 50 := by unfold failS; rw [if_pos rfl]; rfl
theorem failS_pos (few d : Nat) (v : Bool) (hd : d ≠ 0) : failS few d v = failN v few * d := by unfold failS; rw [if_neg hd]; rfl

set_option maxHeartbeats 2000000 in
theorem failed_any (few d : Nat) (v : Bool) (w : World) (hf : few ≤ 13) (hd : d ≤ 2) (fI : Int) (hfI : Hid (fI = few)) :
    Calls Try.prog 13 #[.int .i64 fI, .int .i64 d, .bool v] w fun e w' => e = .returned (.int .i64 (failS few d v)) ∧ w = w' := by
  have hfI := hfI.out
  subst hfI
  by_cases d0 : d = 0
  · subst d0
    have hr := Lib.hid (failS_zero few v)
    obtain ⟨r, hr1⟩ : ∃ r, pk v 100 50 = r := ⟨_, rfl⟩
    have hb := pk_bd v 100 50 50 100 (by omega) (by omega) (by omega) (by omega)
    rw [hr1] at hb hr
    obtain ⟨hb1, hb2⟩ := hb
    obtain ⟨P, hP⟩ : ∃ P : Int, (few : Int) * r = P := ⟨_, rfl⟩
    have hP1 : 0 ≤ P := by rw [← hP]; exact Int.mul_nonneg (by omega) (by omega)
    have hP2 : P ≤ 13 * 100 := by rw [← hP]; exact Int.mul_le_mul (by omega) hb2 (by omega) (by omega)
    rw [hP] at hr
    go_enter Try.func13, Try.ntmps13
    go_wp2_with (go_at_call 14; refine (pk_any _ _ _ _).mono ?_; rintro e w' ⟨rfl, rfl⟩)
    go_ret
    exact ⟨ret_int hr.out.symm, rfl⟩
  · have z0 : ((d : Int) == 0) = false := by simp; omega
    have hr := Lib.hid (failS_pos few d v d0)
    have hbd := failN_bd v
    obtain ⟨r1, hr1⟩ : ∃ r, pk v 200 100 = r := ⟨_, rfl⟩
    obtain ⟨r2, hr2⟩ : ∃ r, pk v 300 200 = r := ⟨_, rfl⟩
    have hb := pk_bd v 200 100 100 200 (by omega) (by omega) (by omega) (by omega)
    have hb' := pk_bd v 300 200 200 300 (by omega) (by omega) (by omega) (by omega)
    rw [hr1] at hb; rw [hr2] at hb'
    obtain ⟨hb1, hb2⟩ := hb
    obtain ⟨hb3, hb4⟩ := hb'
    replace hbd := Lib.hid hbd
    replace d0 := Lib.hid d0
    go_enter Try.func13, Try.ntmps13
    go_wp2_with fail
    go_loopg [7, 16] few (fun gk nv iv W' => ∃ i : Nat, i ≤ few ∧ gk = few - i ∧ iv = .int .i64 i ∧ nv = .int .i64 (failN v i) ∧ w = W')
    case atStart => exact ⟨0, by omega, by omega, rfl, rfl, rfl⟩
    case round =>
      obtain ⟨i, hi, hgk, rfl, rfl, rfl⟩ := hrel
      replace hgk := Lib.hid hgk
      obtain ⟨q1, q2⟩ := hbd.out i
      have hs := failN_succ v i
      have hT : Hid (failT v i = if i = 0 then pk v 200 100 else if i < 3 then pk v 300 200 else 300) := rfl
      rw [hr1, hr2] at hT
      by_cases hlt : i < few
      · generalize failN v i = N at *
        by_cases i0 : i = 0
        · have hs2 : failN v (i + 1) = N + r1 := by rw [hs, hT.out, if_pos i0]
          replace hs := Lib.hid hs; replace hs2 := Lib.hid hs2
          have z1 : ((i : Int) == 0) = true := by simp [i0]
          replace i0 := Lib.hid i0
          go_wp2_with (go_at_call 14; refine (pk_any _ _ _ _).mono ?_; rintro e w' ⟨rfl, rfl⟩)
          have hgk := hgk.out
          go_roundg (few - (i + 1))
          case measure => omega
          case rel => exact ⟨i + 1, by omega, rfl, by go_num, by rw [hs2.out], rfl⟩
        · have z1 : ((i : Int) == 0) = false := by simp; omega
          by_cases i3 : i < 3
          · have hs2 : failN v (i + 1) = N + r2 := by rw [hs, hT.out, if_neg i0, if_pos i3]
            replace hs := Lib.hid hs; replace hs2 := Lib.hid hs2
            replace i0 := Lib.hid i0
            go_wp2_with (go_at_call 14; refine (pk_any _ _ _ _).mono ?_; rintro e w' ⟨rfl, rfl⟩)
            have hgk := hgk.out
            go_roundg (few - (i + 1))
            case measure => omega
            case rel => exact ⟨i + 1, by omega, rfl, by go_num, by rw [hs2.out], rfl⟩
          · have hs2 : failN v (i + 1) = N + 300 := by rw [hs, hT.out, if_neg i0, if_neg i3]
            replace hs := Lib.hid hs; replace hs2 := Lib.hid hs2
            replace i0 := Lib.hid i0
            go_wp2_with (go_at_call 14; refine (pk_any _ _ _ _).mono ?_; rintro e w' ⟨rfl, rfl⟩)
            have hgk := hgk.out
            go_roundg (few - (i + 1))
            case measure => omega
            case rel => exact ⟨i + 1, by omega, rfl, by go_num, by rw [hs2.out], rfl⟩
      · have hie : i = few := by omega
        subst hie
        replace hs := Lib.hid hs
        generalize failN v i = N at *
        have hdd := d0.out
        obtain ⟨P, hP⟩ : ∃ P : Int, N * (d : Int) = P := ⟨_, rfl⟩
        have hP1 : 0 ≤ P := by rw [← hP]; exact Int.mul_nonneg (by omega) (by omega)
        have hP2 : P ≤ 3900 * 2 := by rw [← hP]; exact Int.mul_le_mul (by omega) (by omega) (by omega) (by omega)
        rw [hP] at hr
        replace hdd := Lib.hid hdd
        go_wp2_with fail
        go_ret
        exact ⟨ret_int hr.out.symm, rfl⟩

set_option maxHeartbeats 4000000 in
set_option maxRecDepth 100000 in
theorem score_fail (l s d : Nat) (dc : Int) (v : Bool) (n : Nat) (w : World) (h1 : 1 ≤ l) (h2 : l ≤ 7) (h3 : s ≤ 4) (h4 : d ≤ 2) (h5 : n ≤ 13) (g1 : 0 ≤ dc) (g2 : dc ≤ 3) (hn : n < l + 6) (nI : Int) (hnI : Hid (nI = n)) :
    Calls Try.prog 8 #[.agg #[.int .i64 l, .int .i64 s, .int .i64 d, .int .i64 dc], .bool v, .int .i64 nI] w fun e w' => e = .returned (.tuple #[.int .i64 (scoreS l s d v n), .int .i64 0]) ∧ Below w.heap.size w w' := by
  have hnI := hnI.out
  subst hnI
  have hr : Hid (scoreS l s d v n = -(failS (l + 6 - n) d v)) := by show _ = _; unfold scoreS; rw [if_pos hn]
  have HF := Lib.hid (fun W => failed_any (l + 6 - n) d v W (by omega) h4 (-((n : Int) - l - 6)) (Lib.hid (by omega)))
  have hfb : 0 ≤ failS (l + 6 - n) d v ∧ failS (l + 6 - n) d v ≤ 10000 := by
    by_cases d0 : d = 0
    · subst d0
      rw [failS_zero]
      have hb := pk_bd v 100 50 50 100 (by omega) (by omega) (by omega) (by omega)
      have h1 : (0 : Int) ≤ ((l + 6 - n : Nat) : Int) * pk v 100 50 := Int.mul_nonneg (by omega) (by omega)
      have h2 : ((l + 6 - n : Nat) : Int) * pk v 100 50 ≤ 13 * 100 := Int.mul_le_mul (by omega) hb.2 (by omega) (by omega)
      omega
    · rw [failS_pos _ _ _ d0]
      have hb := failN_bd v (l + 6 - n)
      have h1 : (0 : Int) ≤ failN v (l + 6 - n) * (d : Int) := Int.mul_nonneg (by omega) (by omega)
      have h2 : failN v (l + 6 - n) * (d : Int) ≤ 3900 * 2 := Int.mul_le_mul (by omega) (by omega) (by omega) (by omega)
      omega
  obtain ⟨f1, f2⟩ := hfb
  generalize failS (l + 6 - n) d v = F at *
  have hB0 : Hid (Below w.heap.size w (w.alloc (.cells #[.int .i64 l, .int .i64 s, .int .i64 d, .int .i64 dc] 24))) := (Below.refl _ _).alloc (Nat.le_refl _) _
  go_enter Try.func8, Try.ntmps8
  go_wp2_with (go_at_call 13; refine (HF.out _).mono ?_; rintro e w' ⟨rfl, rfl⟩)
  go_ret2
  exact ⟨by rw [hr.out]; rfl, hB0.out⟩

theorem pk_q (f : Bool) (a b : Int) (w : World) : Calls Try.prog 14 #[.bool f, .int .i64 a, .int .i64 b] w fun e w' => e = .returned (.int .i64 (pk f a b)) ∧ w' = w := (pk_any f a b w).mono fun _ _ h => ⟨h.1, h.2.symm⟩


/-- the score of a contract that is made, told by the picks that the program makes. -/
def madeT (r1 r2 : Int) (l d : Nat) (v : Bool) (m : Nat) : Int :=
  let n : Int := (l * r1 + r2) * (2 ^ d : Nat)
  let n := n + pk (decide (100 ≤ n)) (pk v 500 300) 50
  let n := if l = 6 then n + pk v 750 500 else if l = 7 then n + pk v 1500 1000 else n
  let n := n + 50 * d
  n + m * (if 0 < d then pk v 200 100 * d else r1)
theorem madeS_eq (l s d : Nat) (v : Bool) (m : Nat) : madeS l s d v m = madeT (pk (decide ((s : Int) < 2)) 20 30) (pk ((s : Int) == 4) 10 0) l d v m := by
  have e1 : pk (decide ((s : Int) < 2)) 20 30 = if s < 2 then 20 else 30 := by
    unfold pk
    by_cases h : s < 2
    · rw [if_pos (by simp; omega), if_pos h]
    · rw [if_neg (by simp; omega), if_neg h]
  have e2 : pk ((s : Int) == 4) 10 0 = if s = 4 then 10 else 0 := by
    unfold pk
    by_cases h : s = 4
    · rw [if_pos (by simp; omega), if_pos h]
    · rw [if_neg (by simp; omega), if_neg h]
  rw [e1, e2]
  unfold madeS madeT pk
  simp only [decide_eq_true_eq]
theorem madeT0_eq (r1 r2 : Int) (l : Nat) (v : Bool) (m : Nat) : madeT r1 r2 l 0 v m =
    if l = 6 then l * r1 + r2 + pk (decide (100 ≤ l * r1 + r2)) (pk v 500 300) 50 + pk v 750 500 + m * r1
    else if l = 7 then l * r1 + r2 + pk (decide (100 ≤ l * r1 + r2)) (pk v 500 300) 50 + pk v 1500 1000 + m * r1
    else l * r1 + r2 + pk (decide (100 ≤ l * r1 + r2)) (pk v 500 300) 50 + m * r1 := by
  unfold madeT
  simp only [Nat.pow_zero, show ((1 : Nat) : Int) = 1 from rfl, show ((0 : Nat) : Int) = 0 from rfl, Int.mul_one, Nat.lt_irrefl, if_false, Int.mul_zero, Int.add_zero]
  split
  · rfl
  · split <;> rfl
theorem madeT1_eq (r1 r2 : Int) (l : Nat) (v : Bool) (m : Nat) : madeT r1 r2 l 1 v m =
    if l = 6 then (l * r1 + r2) * 2 + pk (decide (100 ≤ (l * r1 + r2) * 2)) (pk v 500 300) 50 + pk v 750 500 + 50 + m * pk v 200 100
    else if l = 7 then (l * r1 + r2) * 2 + pk (decide (100 ≤ (l * r1 + r2) * 2)) (pk v 500 300) 50 + pk v 1500 1000 + 50 + m * pk v 200 100
    else (l * r1 + r2) * 2 + pk (decide (100 ≤ (l * r1 + r2) * 2)) (pk v 500 300) 50 + 50 + m * pk v 200 100 := by
  unfold madeT
  simp only [show ((2 ^ 1 : Nat) : Int) = 2 from rfl, show ((1 : Nat) : Int) = 1 from rfl, Int.mul_one, if_pos (show 0 < 1 by decide)]
  split
  · rfl
  · split <;> rfl
theorem madeT2_eq (r1 r2 : Int) (l : Nat) (v : Bool) (m : Nat) : madeT r1 r2 l 2 v m =
    if l = 6 then (l * r1 + r2) * 4 + pk (decide (100 ≤ (l * r1 + r2) * 4)) (pk v 500 300) 50 + pk v 750 500 + 100 + m * (pk v 200 100 * 2)
    else if l = 7 then (l * r1 + r2) * 4 + pk (decide (100 ≤ (l * r1 + r2) * 4)) (pk v 500 300) 50 + pk v 1500 1000 + 100 + m * (pk v 200 100 * 2)
    else (l * r1 + r2) * 4 + pk (decide (100 ≤ (l * r1 + r2) * 4)) (pk v 500 300) 50 + 100 + m * (pk v 200 100 * 2) := by
  unfold madeT
  simp only [show ((2 ^ 2 : Nat) : Int) = 4 from rfl, show ((2 : Nat) : Int) = 2 from rfl, show (50 : Int) * 2 = 100 from rfl, if_pos (show 0 < 2 by decide)]
  split
  · rfl
  · split <;> rfl

set_option maxHeartbeats 4000000 in
set_option maxRecDepth 100000 in
theorem score_made0 (l s : Nat) (dc : Int) (v : Bool) (m : Nat) (w : World) (h1 : 1 ≤ l) (h2 : l ≤ 7) (h3 : s ≤ 4) (h5 : m ≤ 6) (g1 : 0 ≤ dc) (g2 : dc ≤ 3) (nI : Int) (k1 : 0 ≤ nI) (k2 : nI ≤ 13) (hm : nI - (l : Int) - 6 = m) :
    Calls Try.prog 8 #[.agg #[.int .i64 l, .int .i64 s, .int .i64 0, .int .i64 dc], .bool v, .int .i64 nI] w fun e w' => e = .returned (.tuple #[.int .i64 (madeS l s 0 v m), .int .i64 0]) ∧ Below w.heap.size w w' := by
  have hB0 : Hid (Below w.heap.size w (w.alloc (.cells #[.int .i64 l, .int .i64 s, .int .i64 0, .int .i64 dc] 24))) := (Below.refl _ _).alloc (Nat.le_refl _) _
  have a0 := heap_alloc_new w (.cells #[.int .i64 l, .int .i64 s, .int .i64 0, .int .i64 dc] 24)
  have hmade : Hid (madeS l s 0 v m = madeT (pk (decide ((s : Int) < 2)) 20 30) (pk ((s : Int) == 4) 10 0) l 0 v m) := madeS_eq l s 0 v m
  obtain ⟨r1, hr1⟩ : ∃ r, pk (decide ((s : Int) < 2)) 20 30 = r := ⟨_, rfl⟩
  have b1 := pk_bd (decide ((s : Int) < 2)) 20 30 20 30 (by omega) (by omega) (by omega) (by omega)
  rw [hr1] at b1 hmade
  obtain ⟨b1a, b1b⟩ := b1
  obtain ⟨P, hP⟩ : ∃ P : Int, (l : Int) * r1 = P := ⟨_, rfl⟩
  have hP1 : 0 ≤ P := by rw [← hP]; exact Int.mul_nonneg (by omega) (by omega)
  have hP2 : P ≤ 7 * 30 := by rw [← hP]; exact Int.mul_le_mul (by omega) (by omega) (by omega) (by omega)
  obtain ⟨r2, hr2⟩ : ∃ r, pk ((s : Int) == 4) 10 0 = r := ⟨_, rfl⟩
  have b2 := pk_bd ((s : Int) == 4) 10 0 0 10 (by omega) (by omega) (by omega) (by omega)
  rw [hr2] at b2 hmade
  obtain ⟨b2a, b2b⟩ := b2
  have w1 : IntKind.i64.wrap P = P := IntWalk.i64_in _ (by omega)
  have w2 : IntKind.i64.wrap (P + r2) = P + r2 := IntWalk.i64_in _ (by omega)
  obtain ⟨r3, hr3⟩ : ∃ r, pk v 500 300 = r := ⟨_, rfl⟩
  have b3 := pk_bd v 500 300 300 500 (by omega) (by omega) (by omega) (by omega)
  rw [hr3] at b3
  obtain ⟨b3a, b3b⟩ := b3
  obtain ⟨r4, hr4⟩ : ∃ r, pk (decide (100 ≤ P + r2)) r3 50 = r := ⟨_, rfl⟩
  have b4 := pk_bd (decide (100 ≤ P + r2)) r3 50 50 500 (by omega) (by omega) (by omega) (by omega)
  rw [hr4] at b4
  obtain ⟨b4a, b4b⟩ := b4
  obtain ⟨r6, hr6⟩ : ∃ r, pk v 750 500 = r := ⟨_, rfl⟩
  have b6 := pk_bd v 750 500 500 750 (by omega) (by omega) (by omega) (by omega)
  rw [hr6] at b6
  obtain ⟨b6a, b6b⟩ := b6
  obtain ⟨r7, hr7⟩ : ∃ r, pk v 1500 1000 = r := ⟨_, rfl⟩
  have b7 := pk_bd v 1500 1000 1000 1500 (by omega) (by omega) (by omega) (by omega)
  rw [hr7] at b7
  obtain ⟨b7a, b7b⟩ := b7
  obtain ⟨r8, hr8⟩ : ∃ r, pk v 200 100 = r := ⟨_, rfl⟩
  have b8 := pk_bd v 200 100 100 200 (by omega) (by omega) (by omega) (by omega)
  rw [hr8] at b8
  obtain ⟨b8a, b8b⟩ := b8
  obtain ⟨E, hE⟩ : ∃ E : Int, E = r1 := ⟨_, rfl⟩
  have e1 : 0 ≤ E := by omega
  have e2 : E ≤ 400 := by omega
  obtain ⟨R, hR⟩ : ∃ R : Int, (m : Int) * r1 = R := ⟨_, rfl⟩
  have hR1 : 0 ≤ R := by rw [← hR]; exact Int.mul_nonneg (by omega) (by omega)
  have hR2 : R ≤ 6 * 400 := by rw [← hR]; exact Int.mul_le_mul (by omega) (by omega) (by omega) (by omega)
  have w3 : IntKind.i64.wrap r8 = r8 := IntWalk.i64_in _ (by omega)
  have w4 : IntKind.i64.wrap (r8 * 2) = r8 * 2 := IntWalk.i64_in _ (by omega)
  replace hE := Lib.hid hE
  have hmT := madeT0_eq r1 r2 l v m
  rw [hP, hr3, hr4, hr6, hr7, hR] at hmT
  have hq6 : Hid (((l : Int) == 6) = true → madeS l s 0 v m = P + r2 + r4 + r6 + R) := fun h => by
    have e : l = 6 := by simp at h; omega
    rw [hmade.out, hmT, if_pos e]
  have hq7 : Hid (((l : Int) == 7) = true → madeS l s 0 v m = P + r2 + r4 + r7 + R) := fun h => by
    have e : l = 7 := by simp at h; omega
    rw [hmade.out, hmT, if_neg (by omega), if_pos e]
  have hq8 : Hid (((l : Int) == 6) = false → ((l : Int) == 7) = false → madeS l s 0 v m = P + r2 + r4 + R) := fun h h' => by
    simp at h h'
    rw [hmade.out, hmT, if_neg (by omega), if_neg (by omega)]
  replace hmT := Lib.hid hmT
  go_enter Try.func8, Try.ntmps8
  go_wp2_with (go_at_call 14; refine (pk_any _ _ _ _).mono ?_; rintro e w' ⟨rfl, rfl⟩)
  generalize w.alloc (.cells #[.int .i64 l, .int .i64 s, .int .i64 0, .int .i64 dc] 24) = W at *
  have c0 : W.cell? ⟨w.heap.size, 0, none⟩ = some (.int .i64 l) := wcell (cs := [_, _, _, _]) a0 0
  have c1 : W.cell? ⟨w.heap.size, 1, none⟩ = some (.int .i64 s) := wcell (cs := [_, _, _, _]) a0 1
  have c2 : W.cell? ⟨w.heap.size, 2, none⟩ = some (.int .i64 0) := wcell (cs := [_, _, _, _]) a0 2
  replace a0 := Lib.hid a0
  go_quiet ((go_at_call 14; exact Calls.quiet_of_same (pk_q _ _ _ _)))
  have hB1 : Hid (Below w.heap.size w (W.drewN nq)) := below_drewN hB0.out _
  generalize hW2 : W.drewN nq = W2 at *
  have c0 : W2.cell? ⟨w.heap.size, 0, none⟩ = some (.int .i64 l) := by rw [← hW2]; exact c0
  have c2 : W2.cell? ⟨w.heap.size, 2, none⟩ = some (.int .i64 0) := by rw [← hW2]; exact c2
  clear hW2 hB0
  go_wp2_with (go_at_call 14; refine (pk_any _ _ _ _).mono ?_; rintro e w' ⟨rfl, rfl⟩)
  all_goals go_ret2
  all_goals first
    | exact ⟨by rw [hq6.out (by assumption)]; rfl, hB1.out⟩
    | exact ⟨by rw [hq7.out (by assumption)]; rfl, hB1.out⟩
    | exact ⟨by rw [hq8.out (by assumption) (by assumption)]; rfl, hB1.out⟩

set_option maxHeartbeats 4000000 in
set_option maxRecDepth 100000 in
theorem score_made1 (l s : Nat) (dc : Int) (v : Bool) (m : Nat) (w : World) (h1 : 1 ≤ l) (h2 : l ≤ 7) (h3 : s ≤ 4) (h5 : m ≤ 6) (g1 : 0 ≤ dc) (g2 : dc ≤ 3) (nI : Int) (k1 : 0 ≤ nI) (k2 : nI ≤ 13) (hm : nI - (l : Int) - 6 = m) :
    Calls Try.prog 8 #[.agg #[.int .i64 l, .int .i64 s, .int .i64 1, .int .i64 dc], .bool v, .int .i64 nI] w fun e w' => e = .returned (.tuple #[.int .i64 (madeS l s 1 v m), .int .i64 0]) ∧ Below w.heap.size w w' := by
  have hB0 : Hid (Below w.heap.size w (w.alloc (.cells #[.int .i64 l, .int .i64 s, .int .i64 1, .int .i64 dc] 24))) := (Below.refl _ _).alloc (Nat.le_refl _) _
  have a0 := heap_alloc_new w (.cells #[.int .i64 l, .int .i64 s, .int .i64 1, .int .i64 dc] 24)
  have hmade : Hid (madeS l s 1 v m = madeT (pk (decide ((s : Int) < 2)) 20 30) (pk ((s : Int) == 4) 10 0) l 1 v m) := madeS_eq l s 1 v m
  obtain ⟨r1, hr1⟩ : ∃ r, pk (decide ((s : Int) < 2)) 20 30 = r := ⟨_, rfl⟩
  have b1 := pk_bd (decide ((s : Int) < 2)) 20 30 20 30 (by omega) (by omega) (by omega) (by omega)
  rw [hr1] at b1 hmade
  obtain ⟨b1a, b1b⟩ := b1
  obtain ⟨P, hP⟩ : ∃ P : Int, (l : Int) * r1 = P := ⟨_, rfl⟩
  have hP1 : 0 ≤ P := by rw [← hP]; exact Int.mul_nonneg (by omega) (by omega)
  have hP2 : P ≤ 7 * 30 := by rw [← hP]; exact Int.mul_le_mul (by omega) (by omega) (by omega) (by omega)
  obtain ⟨r2, hr2⟩ : ∃ r, pk ((s : Int) == 4) 10 0 = r := ⟨_, rfl⟩
  have b2 := pk_bd ((s : Int) == 4) 10 0 0 10 (by omega) (by omega) (by omega) (by omega)
  rw [hr2] at b2 hmade
  obtain ⟨b2a, b2b⟩ := b2
  have w1 : IntKind.i64.wrap P = P := IntWalk.i64_in _ (by omega)
  have w2 : IntKind.i64.wrap (P + r2) = P + r2 := IntWalk.i64_in _ (by omega)
  obtain ⟨r3, hr3⟩ : ∃ r, pk v 500 300 = r := ⟨_, rfl⟩
  have b3 := pk_bd v 500 300 300 500 (by omega) (by omega) (by omega) (by omega)
  rw [hr3] at b3
  obtain ⟨b3a, b3b⟩ := b3
  obtain ⟨r4, hr4⟩ : ∃ r, pk (decide (100 ≤ (P + r2) * 2)) r3 50 = r := ⟨_, rfl⟩
  have b4 := pk_bd (decide (100 ≤ (P + r2) * 2)) r3 50 50 500 (by omega) (by omega) (by omega) (by omega)
  rw [hr4] at b4
  obtain ⟨b4a, b4b⟩ := b4
  obtain ⟨r6, hr6⟩ : ∃ r, pk v 750 500 = r := ⟨_, rfl⟩
  have b6 := pk_bd v 750 500 500 750 (by omega) (by omega) (by omega) (by omega)
  rw [hr6] at b6
  obtain ⟨b6a, b6b⟩ := b6
  obtain ⟨r7, hr7⟩ : ∃ r, pk v 1500 1000 = r := ⟨_, rfl⟩
  have b7 := pk_bd v 1500 1000 1000 1500 (by omega) (by omega) (by omega) (by omega)
  rw [hr7] at b7
  obtain ⟨b7a, b7b⟩ := b7
  obtain ⟨r8, hr8⟩ : ∃ r, pk v 200 100 = r := ⟨_, rfl⟩
  have b8 := pk_bd v 200 100 100 200 (by omega) (by omega) (by omega) (by omega)
  rw [hr8] at b8
  obtain ⟨b8a, b8b⟩ := b8
  obtain ⟨E, hE⟩ : ∃ E : Int, E = r8 * 1 := ⟨_, rfl⟩
  have e1 : 0 ≤ E := by omega
  have e2 : E ≤ 400 := by omega
  obtain ⟨R, hR⟩ : ∃ R : Int, (m : Int) * r8 = R := ⟨_, rfl⟩
  have hR1 : 0 ≤ R := by rw [← hR]; exact Int.mul_nonneg (by omega) (by omega)
  have hR2 : R ≤ 6 * 400 := by rw [← hR]; exact Int.mul_le_mul (by omega) (by omega) (by omega) (by omega)
  have w3 : IntKind.i64.wrap r8 = r8 := IntWalk.i64_in _ (by omega)
  have w4 : IntKind.i64.wrap (r8 * 2) = r8 * 2 := IntWalk.i64_in _ (by omega)
  replace hE := Lib.hid hE
  have hmT := madeT1_eq r1 r2 l v m
  rw [hP, hr3, hr4, hr6, hr7, hr8, hR] at hmT
  have hq6 : Hid (((l : Int) == 6) = true → madeS l s 1 v m = (P + r2) * 2 + r4 + r6 + 50 + R) := fun h => by
    have e : l = 6 := by simp at h; omega
    rw [hmade.out, hmT, if_pos e]
  have hq7 : Hid (((l : Int) == 7) = true → madeS l s 1 v m = (P + r2) * 2 + r4 + r7 + 50 + R) := fun h => by
    have e : l = 7 := by simp at h; omega
    rw [hmade.out, hmT, if_neg (by omega), if_pos e]
  have hq8 : Hid (((l : Int) == 6) = false → ((l : Int) == 7) = false → madeS l s 1 v m = (P + r2) * 2 + r4 + 50 + R) := fun h h' => by
    simp at h h'
    rw [hmade.out, hmT, if_neg (by omega), if_neg (by omega)]
  replace hmT := Lib.hid hmT
  go_enter Try.func8, Try.ntmps8
  go_wp2_with (go_at_call 14; refine (pk_any _ _ _ _).mono ?_; rintro e w' ⟨rfl, rfl⟩)
  generalize w.alloc (.cells #[.int .i64 l, .int .i64 s, .int .i64 1, .int .i64 dc] 24) = W at *
  have c0 : W.cell? ⟨w.heap.size, 0, none⟩ = some (.int .i64 l) := wcell (cs := [_, _, _, _]) a0 0
  have c1 : W.cell? ⟨w.heap.size, 1, none⟩ = some (.int .i64 s) := wcell (cs := [_, _, _, _]) a0 1
  have c2 : W.cell? ⟨w.heap.size, 2, none⟩ = some (.int .i64 1) := wcell (cs := [_, _, _, _]) a0 2
  replace a0 := Lib.hid a0
  go_quiet ((go_at_call 14; exact Calls.quiet_of_same (pk_q _ _ _ _)))
  have hB1 : Hid (Below w.heap.size w (W.drewN nq)) := below_drewN hB0.out _
  generalize hW2 : W.drewN nq = W2 at *
  have c0 : W2.cell? ⟨w.heap.size, 0, none⟩ = some (.int .i64 l) := by rw [← hW2]; exact c0
  have c2 : W2.cell? ⟨w.heap.size, 2, none⟩ = some (.int .i64 1) := by rw [← hW2]; exact c2
  clear hW2 hB0
  go_wp2_with (go_at_call 14; refine (pk_any _ _ _ _).mono ?_; rintro e w' ⟨rfl, rfl⟩)
  all_goals go_quiet ((go_at_call 14; exact Calls.quiet_of_same (pk_q _ _ _ _)))
  all_goals go_wp2
  all_goals go_ret2
  all_goals first
    | exact ⟨by rw [hq6.out (by assumption)]; rfl, below_drewN hB1.out _⟩
    | exact ⟨by rw [hq7.out (by assumption)]; rfl, below_drewN hB1.out _⟩
    | exact ⟨by rw [hq8.out (by assumption) (by assumption)]; rfl, below_drewN hB1.out _⟩

set_option maxHeartbeats 4000000 in
set_option maxRecDepth 100000 in
theorem score_made2 (l s : Nat) (dc : Int) (v : Bool) (m : Nat) (w : World) (h1 : 1 ≤ l) (h2 : l ≤ 7) (h3 : s ≤ 4) (h5 : m ≤ 6) (g1 : 0 ≤ dc) (g2 : dc ≤ 3) (nI : Int) (k1 : 0 ≤ nI) (k2 : nI ≤ 13) (hm : nI - (l : Int) - 6 = m) :
    Calls Try.prog 8 #[.agg #[.int .i64 l, .int .i64 s, .int .i64 2, .int .i64 dc], .bool v, .int .i64 nI] w fun e w' => e = .returned (.tuple #[.int .i64 (madeS l s 2 v m), .int .i64 0]) ∧ Below w.heap.size w w' := by
  have hB0 : Hid (Below w.heap.size w (w.alloc (.cells #[.int .i64 l, .int .i64 s, .int .i64 2, .int .i64 dc] 24))) := (Below.refl _ _).alloc (Nat.le_refl _) _
  have a0 := heap_alloc_new w (.cells #[.int .i64 l, .int .i64 s, .int .i64 2, .int .i64 dc] 24)
  have hmade : Hid (madeS l s 2 v m = madeT (pk (decide ((s : Int) < 2)) 20 30) (pk ((s : Int) == 4) 10 0) l 2 v m) := madeS_eq l s 2 v m
  obtain ⟨r1, hr1⟩ : ∃ r, pk (decide ((s : Int) < 2)) 20 30 = r := ⟨_, rfl⟩
  have b1 := pk_bd (decide ((s : Int) < 2)) 20 30 20 30 (by omega) (by omega) (by omega) (by omega)
  rw [hr1] at b1 hmade
  obtain ⟨b1a, b1b⟩ := b1
  obtain ⟨P, hP⟩ : ∃ P : Int, (l : Int) * r1 = P := ⟨_, rfl⟩
  have hP1 : 0 ≤ P := by rw [← hP]; exact Int.mul_nonneg (by omega) (by omega)
  have hP2 : P ≤ 7 * 30 := by rw [← hP]; exact Int.mul_le_mul (by omega) (by omega) (by omega) (by omega)
  obtain ⟨r2, hr2⟩ : ∃ r, pk ((s : Int) == 4) 10 0 = r := ⟨_, rfl⟩
  have b2 := pk_bd ((s : Int) == 4) 10 0 0 10 (by omega) (by omega) (by omega) (by omega)
  rw [hr2] at b2 hmade
  obtain ⟨b2a, b2b⟩ := b2
  have w1 : IntKind.i64.wrap P = P := IntWalk.i64_in _ (by omega)
  have w2 : IntKind.i64.wrap (P + r2) = P + r2 := IntWalk.i64_in _ (by omega)
  obtain ⟨r3, hr3⟩ : ∃ r, pk v 500 300 = r := ⟨_, rfl⟩
  have b3 := pk_bd v 500 300 300 500 (by omega) (by omega) (by omega) (by omega)
  rw [hr3] at b3
  obtain ⟨b3a, b3b⟩ := b3
  obtain ⟨r4, hr4⟩ : ∃ r, pk (decide (100 ≤ (P + r2) * 4)) r3 50 = r := ⟨_, rfl⟩
  have b4 := pk_bd (decide (100 ≤ (P + r2) * 4)) r3 50 50 500 (by omega) (by omega) (by omega) (by omega)
  rw [hr4] at b4
  obtain ⟨b4a, b4b⟩ := b4
  obtain ⟨r6, hr6⟩ : ∃ r, pk v 750 500 = r := ⟨_, rfl⟩
  have b6 := pk_bd v 750 500 500 750 (by omega) (by omega) (by omega) (by omega)
  rw [hr6] at b6
  obtain ⟨b6a, b6b⟩ := b6
  obtain ⟨r7, hr7⟩ : ∃ r, pk v 1500 1000 = r := ⟨_, rfl⟩
  have b7 := pk_bd v 1500 1000 1000 1500 (by omega) (by omega) (by omega) (by omega)
  rw [hr7] at b7
  obtain ⟨b7a, b7b⟩ := b7
  obtain ⟨r8, hr8⟩ : ∃ r, pk v 200 100 = r := ⟨_, rfl⟩
  have b8 := pk_bd v 200 100 100 200 (by omega) (by omega) (by omega) (by omega)
  rw [hr8] at b8
  obtain ⟨b8a, b8b⟩ := b8
  obtain ⟨E, hE⟩ : ∃ E : Int, E = r8 * 2 := ⟨_, rfl⟩
  have e1 : 0 ≤ E := by omega
  have e2 : E ≤ 400 := by omega
  obtain ⟨R, hR⟩ : ∃ R : Int, (m : Int) * (r8 * 2) = R := ⟨_, rfl⟩
  have hR1 : 0 ≤ R := by rw [← hR]; exact Int.mul_nonneg (by omega) (by omega)
  have hR2 : R ≤ 6 * 400 := by rw [← hR]; exact Int.mul_le_mul (by omega) (by omega) (by omega) (by omega)
  have w3 : IntKind.i64.wrap r8 = r8 := IntWalk.i64_in _ (by omega)
  have w4 : IntKind.i64.wrap (r8 * 2) = r8 * 2 := IntWalk.i64_in _ (by omega)
  replace hE := Lib.hid hE
  have hmT := madeT2_eq r1 r2 l v m
  rw [hP, hr3, hr4, hr6, hr7, hr8, hR] at hmT
  have hq6 : Hid (((l : Int) == 6) = true → madeS l s 2 v m = (P + r2) * 4 + r4 + r6 + 100 + R) := fun h => by
    have e : l = 6 := by simp at h; omega
    rw [hmade.out, hmT, if_pos e]
  have hq7 : Hid (((l : Int) == 7) = true → madeS l s 2 v m = (P + r2) * 4 + r4 + r7 + 100 + R) := fun h => by
    have e : l = 7 := by simp at h; omega
    rw [hmade.out, hmT, if_neg (by omega), if_pos e]
  have hq8 : Hid (((l : Int) == 6) = false → ((l : Int) == 7) = false → madeS l s 2 v m = (P + r2) * 4 + r4 + 100 + R) := fun h h' => by
    simp at h h'
    rw [hmade.out, hmT, if_neg (by omega), if_neg (by omega)]
  replace hmT := Lib.hid hmT
  go_enter Try.func8, Try.ntmps8
  go_wp2_with (go_at_call 14; refine (pk_any _ _ _ _).mono ?_; rintro e w' ⟨rfl, rfl⟩)
  generalize w.alloc (.cells #[.int .i64 l, .int .i64 s, .int .i64 2, .int .i64 dc] 24) = W at *
  have c0 : W.cell? ⟨w.heap.size, 0, none⟩ = some (.int .i64 l) := wcell (cs := [_, _, _, _]) a0 0
  have c1 : W.cell? ⟨w.heap.size, 1, none⟩ = some (.int .i64 s) := wcell (cs := [_, _, _, _]) a0 1
  have c2 : W.cell? ⟨w.heap.size, 2, none⟩ = some (.int .i64 2) := wcell (cs := [_, _, _, _]) a0 2
  replace a0 := Lib.hid a0
  go_quiet ((go_at_call 14; exact Calls.quiet_of_same (pk_q _ _ _ _)))
  have hB1 : Hid (Below w.heap.size w (W.drewN nq)) := below_drewN hB0.out _
  generalize hW2 : W.drewN nq = W2 at *
  have c0 : W2.cell? ⟨w.heap.size, 0, none⟩ = some (.int .i64 l) := by rw [← hW2]; exact c0
  have c2 : W2.cell? ⟨w.heap.size, 2, none⟩ = some (.int .i64 2) := by rw [← hW2]; exact c2
  clear hW2 hB0
  go_wp2_with (go_at_call 14; refine (pk_any _ _ _ _).mono ?_; rintro e w' ⟨rfl, rfl⟩)
  all_goals go_quiet ((go_at_call 14; exact Calls.quiet_of_same (pk_q _ _ _ _)))
  all_goals go_wp2
  all_goals go_ret2
  all_goals first
    | exact ⟨by rw [hq6.out (by assumption)]; rfl, below_drewN hB1.out _⟩
    | exact ⟨by rw [hq7.out (by assumption)]; rfl, below_drewN hB1.out _⟩
    | exact ⟨by rw [hq8.out (by assumption) (by assumption)]; rfl, below_drewN hB1.out _⟩

end Go.Proofs.Ytilgjmabfjhojaa
