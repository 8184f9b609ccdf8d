/- What gameroomkeep.TourColour returns: true; conditions: ints of 64 bits, the table of leaps as the program lays it. -/
import Derived.Test.YtebgliipeaelhaaDoorPick
import Derived.Test.YtebgliipeaelhaaDoorFar
import Derived.Test.YtebgliipeaelhaaDoorCou
namespace Go.Proofs.YtebgliipeaelhaaDoor
open Go.RowKit

set_option maxRecDepth 100000 in
set_option maxHeartbeats 8000000 in
theorem colour_any (n0 n1 n2 n3 n4 : Int) (w : World) (hL : Lps w) (x1 : -9223372036854775808 ≤ n0) (x2 : n0 ≤ 9223372036854775807) (y1 : -9223372036854775808 ≤ n1) (y2 : n1 ≤ 9223372036854775807)
    (z1 : -9223372036854775808 ≤ n2) (z2 : n2 ≤ 9223372036854775807) (u1 : -9223372036854775808 ≤ n3) (u2 : n3 ≤ 9223372036854775807) (v1 : -9223372036854775808 ≤ n4) (v2 : n4 ≤ 9223372036854775807) :
    Calls Tryd.prog 3 #[.int .i64 n0, .int .i64 n1, .int .i64 n2, .int .i64 n3, .int .i64 n4] w fun e w' => e = .returned (.bool true) ∧ Below w.heap.size w w' := by
  have P0 := picked_any n0 8 w x1 x2 (by omega) (by omega) 8 (Lib.hid rfl)
  have P1 := picked_any n1 8 w y1 y2 (by omega) (by omega) 8 (Lib.hid rfl)
  have P4 := picked_any n4 13 w v1 v2 (by omega) (by omega) 13 (Lib.hid rfl)
  have q0 := pick_lt n0 8 (by omega)
  have q1 := pick_lt n1 8 (by omega)
  have q4 := pick_lt n4 13 (by omega)
  obtain ⟨a, hae⟩ : ∃ a : Nat, (1 : Int) + (pick n0 8 : Nat) = a := ⟨1 + pick n0 8, by push_cast; rfl⟩
  obtain ⟨b, hbe⟩ : ∃ b : Nat, (1 : Int) + (pick n1 8 : Nat) = b := ⟨1 + pick n1 8, by push_cast; rfl⟩
  have ha1 : 1 ≤ a := by omega
  have ha : a ≤ 8 := by omega
  have hb1 : 1 ≤ b := by omega
  have hb : b ≤ 8 := by omega
  obtain ⟨N, hN⟩ : ∃ N, N = a * b := ⟨_, rfl⟩
  have hNi : (a : Int) * (b : Int) = (N : Int) := by rw [hN]; push_cast; rfl
  have hn64 : N ≤ 64 := by rw [hN]; exact Nat.mul_le_mul ha hb
  have hN1 : 1 ≤ N := by rw [hN]; exact Nat.mul_le_mul ha1 hb1
  have P2 := picked_any n2 N w z1 z2 hN1 (by omega) N (Lib.hid rfl)
  have P3 := picked_any n3 N w u1 u2 hN1 (by omega) N (Lib.hid rfl)
  have hx := pick_lt n2 N hN1
  have hy := pick_lt n3 N hN1
  generalize pick n0 8 = r0 at *
  generalize pick n1 8 = r1 at *
  generalize pick n2 N = x at *
  generalize pick n3 N = y at *
  generalize pick n4 13 = n at *
  have W1 := Walks_any a b x y n w ha1 ha hb1 hb hL (by rw [← hN]; exact hx) (by rw [← hN]; exact hy) (by omega)
  have hsym := uW_sym ha hb n x y (by rw [← hN]; exact hx) (by rw [← hN]; exact hy)
  replace hN := Lib.hid hN; replace P0 := Lib.hid P0; replace P1 := Lib.hid P1; replace P2 := Lib.hid P2; replace P3 := Lib.hid P3; replace P4 := Lib.hid P4; replace W1 := Lib.hid W1; replace hsym := Lib.hid hsym
  clear x1 x2 y1 y2 z1 z2 u1 u2 v1 v2
  replace hL := Lib.hid hL
  go_enter Tryd.func3, Tryd.ntmps3
  go_wp2_with fail
  refine P0.out.mono ?_
  rintro r w' ⟨rfl, rfl⟩
  go_wp2_with fail
  refine P1.out.mono ?_
  rintro r w' ⟨rfl, rfl⟩
  go_wp2_with fail
  refine P2.out.mono ?_
  rintro r w' ⟨rfl, rfl⟩
  go_wp2_with fail
  refine P3.out.mono ?_
  rintro r w' ⟨rfl, rfl⟩
  go_wp2_with fail
  refine P4.out.mono ?_
  rintro r w' ⟨rfl, rfl⟩
  clear P0 P1 P2 P3 P4 hae hbe q0 q1
  go_wp2_with fail
  refine W1.out.mono ?_
  rintro r w1 ⟨rfl, hB1⟩
  have hL1 := hL.out.below hB1
  have W2 := Walks_any a b y x n w1 ha1 ha hb1 hb hL1 (by rw [← hN.out]; exact hy) (by rw [← hN.out]; exact hx) (by omega)
  replace W2 := Lib.hid W2; replace hB1 := Lib.hid hB1; replace hL1 := Lib.hid hL1
  clear W1 hL
  go_wp2_with fail
  refine W2.out.mono ?_
  rintro r w2 ⟨rfl, hB2⟩
  have hL2 := hL1.out.below hB2
  have W3 := Far_any a b x w2 ha1 ha hb1 hb hL2 (by rw [← hN.out]; exact hx)
  rw [← hN.out] at W3
  have hB2' : Hid (Below w.heap.size w w2) := hB1.out.trans (hB2.mono hB1.out.size)
  replace W3 := Lib.hid W3; replace hL2 := Lib.hid hL2
  clear W2 hL1 hB2 hB1
  go_wp2_with fail
  refine W3.out.mono ?_
  rintro r w3 ⟨g, far, rfl, hF, hok, hB3⟩
  have hL3 := hL2.out.below hB3
  have hB3' : Hid (Below w.heap.size w w3) := hB2'.out.trans (hB3.mono hB2'.out.size)
  have W4 : Calls Tryd.prog 6 #[.int .i64 8, .int .i64 8, .int .i64 0, .int .i64 17, .int .i64 3] w3 fun r w' => r = .returned (.tuple #[.int .i64 (uW 8 8 0 3 17 : Nat), .int .i64 0]) ∧ Below w3.heap.size w3 w' :=
    Walks_any 8 8 0 17 3 w3 (by omega) (by omega) (by omega) (by omega) hL3 (by omega) (by omega) (by omega)
  replace W4 := Lib.hid W4; replace hL3 := Lib.hid hL3; replace hF := Lib.hid hF; replace hok := Lib.hid hok
  clear W3 hL2 hB2' hB3
  go_wp2_with fail
  refine W4.out.mono ?_
  rintro r w4 ⟨rfl, hB4⟩
  have hB4' : Hid (Below w.heap.size w w4) := hB3'.out.trans (hB4.mono hB3'.out.size)
  have hF4 : Nums w4 g 3 far := hF.out.below hB4 hF.out.lt
  have hyl : y < far.length := by rw [hok.out.len, ← hN.out]; exact hy
  have d1 := fa_cell hF4 (i := y) hyl
  have hyN : y < a * b := by rw [← hN.out]; exact hy
  have hxN : x < a * b := by rw [← hN.out]; exact hx
  have hWk := hok.out.walk hxN n y hyN
  have hCl := uW_col ha hb hxN n y hyN
  have hPr := hok.out.par y hyN
  have h3 := three_pos
  have hL4 := hL3.out.below hB4
  rw [← hsym.out]
  clear hF4 hok hF hB4 hB3' W4 hL3 hyl
  generalize uW a b x n y = u at *
  generalize uW 8 8 0 3 17 = t3 at *
  generalize fa far y = v at *
  replace hWk := Lib.hid hWk; replace hCl := Lib.hid hCl; replace hPr := Lib.hid hPr; replace hL4 := Lib.hid hL4; replace hxN := Lib.hid hxN; replace hyN := Lib.hid hyN
  have g1 : decide ((t3 : Int) ≤ 0) = false := by simp; omega
  go_upto_region 9 with fail
  obtain ⟨xr, hxr⟩ : ∃ xr, xr = x % a := ⟨_, rfl⟩
  obtain ⟨xq, hxq⟩ : ∃ xq, xq = x / a := ⟨_, rfl⟩
  obtain ⟨yr, hyr⟩ : ∃ yr, yr = y % a := ⟨_, rfl⟩
  obtain ⟨yq, hyq⟩ : ∃ yq, yq = y / a := ⟨_, rfl⟩
  have b1 : xr < 64 := by rw [hxr]; exact Nat.lt_of_lt_of_le (Nat.mod_lt _ ha1) (by omega)
  have b2 : xq < 64 := by rw [hxq]; exact Nat.lt_of_le_of_lt (Nat.div_le_self _ _) (by omega)
  have b3 : yr < 64 := by rw [hyr]; exact Nat.lt_of_lt_of_le (Nat.mod_lt _ ha1) (by omega)
  have b4 : yq < 64 := by rw [hyq]; exact Nat.lt_of_le_of_lt (Nat.div_le_self _ _) (by omega)
  obtain ⟨o, ho⟩ : ∃ o, o = (xr + xq + yr + yq) % 2 := ⟨_, rfl⟩
  have r1' : (x : Int).tmod (a : Int) = (xr : Int) := by rw [Int.tmod_eq_emod_of_nonneg (by omega), hxr]; exact (Int.natCast_emod x a).symm
  have r2 : (x : Int) / (a : Int) = (xq : Int) := by rw [hxq]; exact (Int.natCast_ediv x a).symm
  have r3 : (x : Int) % (a : Int) = (xr : Int) := by rw [hxr]; exact (Int.natCast_emod x a).symm
  have r4 : (y : Int).tmod (a : Int) = (yr : Int) := by rw [Int.tmod_eq_emod_of_nonneg (by omega), hyr]; exact (Int.natCast_emod y a).symm
  have r5 : (y : Int) / (a : Int) = (yq : Int) := by rw [hyq]; exact (Int.natCast_ediv y a).symm
  have r6 : (y : Int) % (a : Int) = (yr : Int) := by rw [hyr]; exact (Int.natCast_emod y a).symm
  have w1' : IntKind.i64.wrap (xr : Int) = xr := IntWalk.i64_in _ (by omega)
  have w2' : IntKind.i64.wrap (xq : Int) = xq := IntWalk.i64_in _ (by omega)
  have w3' : IntKind.i64.wrap (yr : Int) = yr := IntWalk.i64_in _ (by omega)
  have w4' : IntKind.i64.wrap (yq : Int) = yq := IntWalk.i64_in _ (by omega)
  obtain ⟨q1, hq1⟩ : ∃ q1, q1 = xr + xq := ⟨_, rfl⟩
  obtain ⟨q2, hq2⟩ : ∃ q2, q2 = q1 + yr := ⟨_, rfl⟩
  obtain ⟨q3, hq3⟩ : ∃ q3, q3 = q2 + yq := ⟨_, rfl⟩
  have s1 : IntKind.i64.wrap ((xr : Int) + (xq : Int)) = (q1 : Int) := by rw [IntWalk.i64_in _ (by omega)]; omega
  have s2 : IntKind.i64.wrap ((q1 : Int) + (yr : Int)) = (q2 : Int) := by rw [IntWalk.i64_in _ (by omega)]; omega
  have s3 : IntKind.i64.wrap ((q2 : Int) + (yq : Int)) = (q3 : Int) := by rw [IntWalk.i64_in _ (by omega)]; omega
  have s4 : (q3 : Int).tmod 2 = (o : Int) := by rw [Int.tmod_eq_emod_of_nonneg (by omega)]; omega
  have s5 : (q3 : Int) % 2 = (o : Int) := by omega
  have ha0 : ¬ a = 0 := by omega
  have ho2 : o < 2 := by omega
  have hcol : Hid (o = (colr a x + colr a y) % 2) := by show _ = _; rw [ho, hxr, hxq, hyr, hyq]; unfold colr; congr 1; omega
  replace ho := Lib.hid ho; replace hxr := Lib.hid hxr; replace hxq := Lib.hid hxq; replace hyr := Lib.hid hyr; replace hyq := Lib.hid hyq; replace hB4' := Lib.hid hB4'.out
  replace hq1 := Lib.hid hq1; replace hq2 := Lib.hid hq2; replace hq3 := Lib.hid hq3
  go_region_law (fail)
  replace hcol := hcol.out
  have d2 : (w4.drew).cell? ⟨g, y, none⟩ = some (.int .i64 v) := d1
  replace hL4 : Hid (Lps w4.drew) := ⟨hL4.out.1, hL4.out.2⟩
  clear d1 s1 s2 s3 s4 s5 r1' r2 r3 r4 r5 r6 w1' w2' w3' w4' b1 b2 b3 b4
  by_cases hu : 0 < u
  · obtain ⟨hv0, hvn⟩ := hWk.out hu
    have hc := hCl.out hu
    have hp := hPr.out hv0
    have gU : decide ((u : Int) > 0) = true := by simp; omega
    have gV : decide (v ≥ 0) = true := by simpa using hv0
    have gV2 : decide (v < 0) = false := by simp; omega
    have gV3 : decide (v > (n : Int)) = false := by simp; omega
    have m1 : (n : Int).tmod 2 = (o : Int) := by rw [Int.tmod_eq_emod_of_nonneg (by omega)]; omega
    have m2 : (n : Int) % 2 = (o : Int) := by omega
    have m3 : v.tmod 2 = (o : Int) := by rw [Int.tmod_eq_emod_of_nonneg hv0]; omega
    have m6 : v % 2 = (o : Int) := by omega
    replace hcol := Lib.hid hcol; replace hc := Lib.hid hc; replace hp := Lib.hid hp
    go_upto_region 12 with fail
    by_cases h15 : N ≤ 15
    · have g15 : decide ((N : Int) > 15) = false := by simp; omega
      have hCt := Count_any a b x w4.drew ha1 ha hb1 hb (by rw [← hN.out]; omega) hL4.out hxN.out
      have hle := cntS_le a b x (a * b - 1) x (2 ^ x)
      have hodd : N % 2 = 1 → (cntS a b x (a * b - 1) x (2 ^ x)).2 = 0 := fun h => cntS_odd ha hb (a * b - 1) x (2 ^ x) hxN.out (by rw [← hN.out]; omega)
      rw [← hN.out] at hCt hle hodd
      obtain ⟨M, hM⟩ : ∃ M, M = cntS a b x (N - 1) x (2 ^ x) := ⟨_, rfl⟩
      rw [← hM] at hCt hle hodd
      replace hCt := Lib.hid hCt; replace hM := Lib.hid hM
      have m4 : (N : Int).tmod 2 = ((N % 2 : Nat) : Int) := by rw [Int.tmod_eq_emod_of_nonneg (by omega)]; exact (Int.natCast_emod N 2).symm
      have m5 : (N : Int) % 2 = ((N % 2 : Nat) : Int) := (Int.natCast_emod N 2).symm
      have hcl : decide ((M.2 : Int) ≤ (M.1 : Int)) = true := by simp; exact hle.2
      go_wp2_with fail
      refine hCt.out.mono ?_
      rintro r w6 ⟨rfl, hB6⟩
      have hB7 : Hid (Below w.heap.size w w6) := (show Below w.heap.size w w4.drew from below_drewN hB4'.out 1).trans (hB6.mono hB4'.out.size)
      clear hB6 hCt
      by_cases he : N % 2 = 1
      · have hz := hodd he
        rw [he] at m4 m5
        go_wp2_with fail
        go_ret
        exact ⟨rfl, hB7.out⟩
      · have he0 : N % 2 = 0 := by omega
        rw [he0] at m4 m5
        go_wp2_with fail
        go_ret
        exact ⟨rfl, hB7.out⟩
    · have g15 : decide ((N : Int) > 15) = true := by simp; omega
      have hB7 : Hid (Below w.heap.size w w4.drew) := below_drewN hB4'.out 1
      go_wp2_with fail
      go_ret
      exact ⟨rfl, hB7.out⟩
  · have hu0 : u = 0 := by omega
    subst hu0
    by_cases hv0 : 0 ≤ v
    · have hp := hPr.out hv0
      have gV : decide (v ≥ 0) = true := by simpa using hv0
      have gV2 : decide (v < 0) = false := by simp; omega
      have m3 : v.tmod 2 = (o : Int) := by rw [Int.tmod_eq_emod_of_nonneg hv0]; omega
      have m6 : v % 2 = (o : Int) := by omega
      replace hcol := Lib.hid hcol; replace hp := Lib.hid hp
      go_upto_region 12 with fail
      by_cases h15 : N ≤ 15
      · have g15 : decide ((N : Int) > 15) = false := by simp; omega
        have hCt := Count_any a b x w4.drew ha1 ha hb1 hb (by rw [← hN.out]; omega) hL4.out hxN.out
        have hle := cntS_le a b x (a * b - 1) x (2 ^ x)
        have hodd : N % 2 = 1 → (cntS a b x (a * b - 1) x (2 ^ x)).2 = 0 := fun h => cntS_odd ha hb (a * b - 1) x (2 ^ x) hxN.out (by rw [← hN.out]; omega)
        rw [← hN.out] at hCt hle hodd
        obtain ⟨M, hM⟩ : ∃ M, M = cntS a b x (N - 1) x (2 ^ x) := ⟨_, rfl⟩
        rw [← hM] at hCt hle hodd
        replace hCt := Lib.hid hCt; replace hM := Lib.hid hM
        have m4 : (N : Int).tmod 2 = ((N % 2 : Nat) : Int) := by rw [Int.tmod_eq_emod_of_nonneg (by omega)]; exact (Int.natCast_emod N 2).symm
        have m5 : (N : Int) % 2 = ((N % 2 : Nat) : Int) := (Int.natCast_emod N 2).symm
        have hcl : decide ((M.2 : Int) ≤ (M.1 : Int)) = true := by simp; exact hle.2
        go_wp2_with fail
        refine hCt.out.mono ?_
        rintro r w6 ⟨rfl, hB6⟩
        have hB7 : Hid (Below w.heap.size w w6) := (show Below w.heap.size w w4.drew from below_drewN hB4'.out 1).trans (hB6.mono hB4'.out.size)
        clear hB6 hCt
        by_cases he : N % 2 = 1
        · have hz := hodd he
          rw [he] at m4 m5
          go_wp2_with fail
          go_ret
          exact ⟨rfl, hB7.out⟩
        · have he0 : N % 2 = 0 := by omega
          rw [he0] at m4 m5
          go_wp2_with fail
          go_ret
          exact ⟨rfl, hB7.out⟩
      · have g15 : decide ((N : Int) > 15) = true := by simp; omega
        have hB7 : Hid (Below w.heap.size w w4.drew) := below_drewN hB4'.out 1
        go_wp2_with fail
        go_ret
        exact ⟨rfl, hB7.out⟩
    · have gV : decide (v ≥ 0) = false := by simpa using hv0
      have gV2 : decide (v < 0) = true := by simp; omega
      replace hcol := Lib.hid hcol
      go_upto_region 12 with fail
      by_cases h15 : N ≤ 15
      · have g15 : decide ((N : Int) > 15) = false := by simp; omega
        have hCt := Count_any a b x w4.drew ha1 ha hb1 hb (by rw [← hN.out]; omega) hL4.out hxN.out
        have hle := cntS_le a b x (a * b - 1) x (2 ^ x)
        have hodd : N % 2 = 1 → (cntS a b x (a * b - 1) x (2 ^ x)).2 = 0 := fun h => cntS_odd ha hb (a * b - 1) x (2 ^ x) hxN.out (by rw [← hN.out]; omega)
        rw [← hN.out] at hCt hle hodd
        obtain ⟨M, hM⟩ : ∃ M, M = cntS a b x (N - 1) x (2 ^ x) := ⟨_, rfl⟩
        rw [← hM] at hCt hle hodd
        replace hCt := Lib.hid hCt; replace hM := Lib.hid hM
        have m4 : (N : Int).tmod 2 = ((N % 2 : Nat) : Int) := by rw [Int.tmod_eq_emod_of_nonneg (by omega)]; exact (Int.natCast_emod N 2).symm
        have m5 : (N : Int) % 2 = ((N % 2 : Nat) : Int) := (Int.natCast_emod N 2).symm
        have hcl : decide ((M.2 : Int) ≤ (M.1 : Int)) = true := by simp; exact hle.2
        go_wp2_with fail
        refine hCt.out.mono ?_
        rintro r w6 ⟨rfl, hB6⟩
        have hB7 : Hid (Below w.heap.size w w6) := (show Below w.heap.size w w4.drew from below_drewN hB4'.out 1).trans (hB6.mono hB4'.out.size)
        clear hB6 hCt
        by_cases he : N % 2 = 1
        · have hz := hodd he
          rw [he] at m4 m5
          go_wp2_with fail
          go_ret
          exact ⟨rfl, hB7.out⟩
        · have he0 : N % 2 = 0 := by omega
          rw [he0] at m4 m5
          go_wp2_with fail
          go_ret
          exact ⟨rfl, hB7.out⟩
      · have g15 : decide ((N : Int) > 15) = true := by simp; omega
        have hB7 : Hid (Below w.heap.size w w4.drew) := below_drewN hB4'.out 1
        go_wp2_with fail
        go_ret
        exact ⟨rfl, hB7.out⟩
end Go.Proofs.YtebgliipeaelhaaDoor
