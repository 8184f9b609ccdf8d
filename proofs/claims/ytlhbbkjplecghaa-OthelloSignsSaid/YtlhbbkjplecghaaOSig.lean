/- What gameroomkeep.OthelloSigns computes; conditions: the arguments fit their kinds. -/
import Derived.Test.YtlhbbkjplecghaaOLaw
import Derived.Test.YtlhbbkjplecghaaOSame
namespace Go.Proofs.Ytlhbbkjplecghaa
open Go.RowKit

theorem rows_four (w : World) : IntsIn (w.alloc (.cells #[.int .i64 1, .int .i64 4, .int .i64 11, .int .i64 14] 3)) (some ⟨w.heap.size, 0, none⟩) 4 [1, 4, 11, 14] :=
  IntsIn.new w _ _ _ 4 _ rfl (by simp) rfl
theorem Places_four (p : Option Addr) (w : World) (hx : IntsIn w p 16 (asI four0)) : Calls Try.prog 6 #[.agg #[.int .i64 4, .int .i64 4, .slice p 16 16], .int .i64 1] w fun e' w' => ∃ p' c', e' = .returned (.tuple #[.slice p' 4 c', .int .i64 0]) ∧ IntsIn w' p' 4 [1, 4, 11, 14] ∧ Below w.heap.size w w' := by
  have h := Places_yes p 16 16 4 4 1 four0 w (by omega) (by omega) (by omega) (by omega) (by omega) (by omega) (by omega) (by omega) (by omega) four_st hx
  rw [four_places] at h
  exact h
theorem same_four (p1 p2 : Option Addr) (c1 c2 : Nat) (w : World) (h1 : IntsIn w p1 4 [1, 4, 11, 14]) (h2 : IntsIn w p2 4 [1, 4, 11, 14]) : Calls Try.prog 7 #[.slice p1 4 c1, .slice p2 4 c2] w fun e w' => e = .returned (.bool true) ∧ Below w.heap.size w w' := by
  have h := same_any p1 p2 4 c1 4 c2 [1, 4, 11, 14] [1, 4, 11, 14] w (by omega) h1 h2
  rw [decide_eq_true rfl] at h
  exact h
set_option maxRecDepth 100000 in
set_option maxHeartbeats 4000000 in
theorem signs_no (q : Option Addr) (n c : Nat) (W H who at0 : Int) (xs : List Int) (w : World) (hn : n ≤ 9223372036854775807) (hW1 : -9223372036854775808 ≤ W) (hW2 : W ≤ 9223372036854775807) (hH1 : -9223372036854775808 ≤ H) (hH2 : H ≤ 9223372036854775807) (hw1 : -9223372036854775808 ≤ who) (hw2 : who ≤ 9223372036854775807) (hx : IntsIn w q n xs) (h0 : chkF W H xs who ≠ 0) :
    Calls Try.prog 3 #[.agg #[.int .i64 W, .int .i64 H, .slice q n c], .int .i64 who, .int .i64 at0] w fun e w' => e = .returned (.bool true) ∧ Below w.heap.size w w' := by
  obtain ⟨e, he⟩ : ∃ e, chkF W H xs who = e := ⟨_, rfl⟩
  rw [he] at h0
  have hB0 := Lib.hid ((Below.refl w.heap.size w).alloc (Nat.le_refl _) (.cells #[.int .i64 W, .int .i64 H, .slice q n c] 24))
  have e0 := heap_alloc_new w (.cells #[.int .i64 W, .int .i64 H, .slice q n c] 24)
  have hx0 := Lib.hid (hx.alloc (.cells #[.int .i64 W, .int .i64 H, .slice q n c] 24))
  have hsz : w.heap.size < (w.alloc (.cells #[.int .i64 W, .int .i64 H, .slice q n c] 24)).heap.size := by simp
  have z0 : (e != 0) = true := by simp [h0]
  replace he := Lib.hid he; replace h0 := Lib.hid h0; replace e0 := Lib.hid e0
  clear hx
  go_enter Try.func3, Try.ntmps3
  go_wp2_with fail
  generalize w.alloc (.cells #[.int .i64 W, .int .i64 H, .slice q n c] 24) = W0 at *
  refine (new4_any W0).mono ?_
  rintro e' w1 ⟨p1, rfl, hp1, hB1⟩
  have HP := Lib.hid (Places_four p1 (w1.alloc (.cells #[.int .i64 4, .int .i64 4, .slice p1 16 16] 24)) (hp1.alloc _))
  have hB2 := Lib.hid (hB0.out.trans ((hB1.alloc hB1.size (.cells #[.int .i64 4, .int .i64 4, .slice p1 16 16] 24)).mono hB0.out.size))
  have hx2 := Lib.hid ((hx0.out.below hB1).alloc (.cells #[.int .i64 4, .int .i64 4, .slice p1 16 16] 24))
  have e2 := Lib.hid (((hB1.block _ hsz).trans e0.out))
  have hs2 : w.heap.size < w1.heap.size := Nat.lt_of_lt_of_le hsz hB1.size
  have e3 := Lib.hid ((Below.heap_alloc w1 (.cells #[.int .i64 4, .int .i64 4, .slice p1 16 16] 24) _ hs2).trans e2.out)
  have hs3 : w.heap.size < (w1.alloc (.cells #[.int .i64 4, .int .i64 4, .slice p1 16 16] 24)).heap.size := by simp; omega
  clear hp1 hB1 hB0 hx0 e0 e2 hs2 hsz
  go_wp2_with fail
  generalize w1.alloc (.cells #[.int .i64 4, .int .i64 4, .slice p1 16 16] 24) = W1 at *
  refine HP.out.mono ?_
  rintro e' w2 ⟨p2, c2, rfl, hp2, hB⟩
  have hB3 := Lib.hid (hB2.out.trans (hB.mono hB2.out.size))
  have hx3 := Lib.hid (hx2.out.below hB)
  have e4 := Lib.hid ((hB.block _ hs3).trans e3.out)
  have hs4 : w.heap.size < w2.heap.size := Nat.lt_of_lt_of_le hs3 hB.size
  replace hp2 := Lib.hid hp2
  clear HP hB2 hx2 e3 hs3 hB
  go_wp2_with fail
  have HS := Lib.hid (same_four p2 (some ⟨w2.heap.size, 0, none⟩) c2 4 (w2.alloc (.cells #[.int .i64 1, .int .i64 4, .int .i64 11, .int .i64 14] 3)) (hp2.out.alloc _) (rows_four w2))
  have hB4 := Lib.hid (hB3.out.alloc (Nat.le_of_lt hs4) (.cells #[.int .i64 1, .int .i64 4, .int .i64 11, .int .i64 14] 3))
  have hx4 := Lib.hid (hx3.out.alloc (.cells #[.int .i64 1, .int .i64 4, .int .i64 11, .int .i64 14] 3))
  have e5 := Lib.hid ((Below.heap_alloc w2 (.cells #[.int .i64 1, .int .i64 4, .int .i64 11, .int .i64 14] 3) _ hs4).trans e4.out)
  have hs5 : w.heap.size < (w2.alloc (.cells #[.int .i64 1, .int .i64 4, .int .i64 11, .int .i64 14] 3)).heap.size := by simp; omega
  clear hp2 hB3 hx3 e4
  generalize w2.alloc (.cells #[.int .i64 1, .int .i64 4, .int .i64 11, .int .i64 14] 3) = W2 at *
  refine HS.out.mono ?_
  rintro e' w3 ⟨rfl, hB⟩
  have hB5 := Lib.hid (hB4.out.trans (hB.mono hB4.out.size))
  have hx5 := Lib.hid (hx4.out.below hB)
  have e6 := (hB.block _ hs5).trans e5.out
  have hs6 : w.heap.size < w3.heap.size := Nat.lt_of_lt_of_le hs5 hB.size
  have d0 : w3.cell? ⟨w.heap.size, 0, none⟩ = some (.int .i64 W) := wcell (cs := [_, _, _]) e6 0
  have d1 : w3.cell? ⟨w.heap.size, 1, none⟩ = some (.int .i64 H) := wcell (cs := [_, _, _]) e6 1
  have d2 : w3.cell? ⟨w.heap.size, 2, none⟩ = some (.slice q n c) := wcell (cs := [_, _, _]) e6 2
  clear HS hB4 hx4 e5 hs5 hB hs4
  replace e6 := Lib.hid e6
  have HN := Lib.hid (Places_no q n c W H who xs w3 hn hW1 hW2 hH1 hH2 hw1 hw2 hx5.out e he.out h0.out)
  go_wp2_with fail
  refine HN.out.mono ?_
  rintro e' w4 ⟨rfl, hB⟩
  have hB6 := Lib.hid (hB5.out.trans (hB.mono hB5.out.size))
  clear HN hB hB5 hx5 e6 d0 d1 d2
  go_wp2_with fail
  go_ret
  exact ⟨rfl, hB6.out⟩
theorem places_len_le (s : List Nat) (a b who : Nat) : ∀ n, (placesN s a b who n).length ≤ n := by
  intro n
  induction n with
  | zero => simp [placesN]
  | succ n ih => rw [placesN, List.length_append]; split <;> simp <;> omega
theorem st_mir_le (s : List Nat) (a n : Nat) (h : ∀ j, st s j ≤ 2) : ∀ j, st (mirN s a n) j ≤ 2 := by
  intro j
  by_cases e : j < n
  · rw [mirN_st _ _ _ _ e]; exact h _
  · unfold st
    rw [List.getElem?_eq_none (by rw [mirN_len]; omega)]; simp
set_option maxRecDepth 100000 in
set_option maxHeartbeats 4000000 in
theorem signs_yes (q : Option Addr) (n c a b who : Nat) (at0 : Int) (s : List Nat) (w : World) (h1 : 4 ≤ a) (h2 : a ≤ 8) (h3 : 4 ≤ b) (h4 : b ≤ 8) (h5 : a % 2 = 0) (h6 : b % 2 = 0) (hn : n = a * b) (hw1 : 1 ≤ who) (hw2 : who ≤ 2) (hs : ∀ j, st s j ≤ 2) (ha1 : -9223372036854775808 ≤ at0) (ha2 : at0 ≤ 9223372036854775807) (hx : IntsIn w q n (asI s)) :
    Calls Try.prog 3 #[.agg #[.int .i64 a, .int .i64 b, .slice q n c], .int .i64 who, .int .i64 at0] w fun e w' => e = .returned (.bool true) ∧ Below w.heap.size w w' := by
  have hn100 : n ≤ 100 := by rw [hn]; exact Nat.mul_le_mul (show a ≤ 10 by omega) (show b ≤ 10 by omega)
  have hTl := places_len_le s a b who n
  have hPl : (placesN (mirN s a n) a b who n).length = (placesN s a b who n).length := by rw [hn]; exact places_mir_len s a b who (by omega)
  have hmem := Lib.hid (fun (x : Nat) (h : x ∈ placesN s a b who n) => (show mirP a x ∈ placesN (mirN s a n) a b who n by rw [hn] at h ⊢; exact places_mir_mem s a b who (by omega) h))
  have hpm := Lib.hid (places_mem s a b who n)
  have hB0 := Lib.hid ((Below.refl w.heap.size w).alloc (Nat.le_refl _) (.cells #[.int .i64 a, .int .i64 b, .slice q n c] 24))
  have e0 := heap_alloc_new w (.cells #[.int .i64 a, .int .i64 b, .slice q n c] 24)
  have hx0 := Lib.hid (hx.alloc (.cells #[.int .i64 a, .int .i64 b, .slice q n c] 24))
  have hsz : w.heap.size < (w.alloc (.cells #[.int .i64 a, .int .i64 b, .slice q n c] 24)).heap.size := by simp
  replace e0 := Lib.hid e0; replace hn := Lib.hid hn; replace h5 := Lib.hid h5; replace h6 := Lib.hid h6; replace hs := Lib.hid hs
  clear hx
  go_enter Try.func3, Try.ntmps3
  go_wp2_with fail
  generalize w.alloc (.cells #[.int .i64 a, .int .i64 b, .slice q n c] 24) = W0 at *
  refine (new4_any W0).mono ?_
  rintro e' w1 ⟨p1, rfl, hp1, hB1⟩
  have HP := Lib.hid (Places_four p1 (w1.alloc (.cells #[.int .i64 4, .int .i64 4, .slice p1 16 16] 24)) (hp1.alloc _))
  have hB2 := Lib.hid (hB0.out.trans ((hB1.alloc hB1.size (.cells #[.int .i64 4, .int .i64 4, .slice p1 16 16] 24)).mono hB0.out.size))
  have hx2 := Lib.hid ((hx0.out.below hB1).alloc (.cells #[.int .i64 4, .int .i64 4, .slice p1 16 16] 24))
  have e2 := Lib.hid (((hB1.block _ hsz).trans e0.out))
  have hs2 : w.heap.size < w1.heap.size := Nat.lt_of_lt_of_le hsz hB1.size
  have e3 := Lib.hid ((Below.heap_alloc w1 (.cells #[.int .i64 4, .int .i64 4, .slice p1 16 16] 24) _ hs2).trans e2.out)
  have hs3 : w.heap.size < (w1.alloc (.cells #[.int .i64 4, .int .i64 4, .slice p1 16 16] 24)).heap.size := by simp; omega
  clear hp1 hB1 hB0 hx0 e0 e2 hs2 hsz
  go_wp2_with fail
  generalize w1.alloc (.cells #[.int .i64 4, .int .i64 4, .slice p1 16 16] 24) = W1 at *
  refine HP.out.mono ?_
  rintro e' w2 ⟨p2, c2, rfl, hp2, hB⟩
  have hB3 := Lib.hid (hB2.out.trans (hB.mono hB2.out.size))
  have hx3 := Lib.hid (hx2.out.below hB)
  have e4 := Lib.hid ((hB.block _ hs3).trans e3.out)
  have hs4 : w.heap.size < w2.heap.size := Nat.lt_of_lt_of_le hs3 hB.size
  replace hp2 := Lib.hid hp2
  clear HP hB2 hx2 e3 hs3 hB
  go_wp2_with fail
  have HS := Lib.hid (same_four p2 (some ⟨w2.heap.size, 0, none⟩) c2 4 (w2.alloc (.cells #[.int .i64 1, .int .i64 4, .int .i64 11, .int .i64 14] 3)) (hp2.out.alloc _) (rows_four w2))
  have hB4 := Lib.hid (hB3.out.alloc (Nat.le_of_lt hs4) (.cells #[.int .i64 1, .int .i64 4, .int .i64 11, .int .i64 14] 3))
  have hx4 := Lib.hid (hx3.out.alloc (.cells #[.int .i64 1, .int .i64 4, .int .i64 11, .int .i64 14] 3))
  have e5 := Lib.hid ((Below.heap_alloc w2 (.cells #[.int .i64 1, .int .i64 4, .int .i64 11, .int .i64 14] 3) _ hs4).trans e4.out)
  have hs5 : w.heap.size < (w2.alloc (.cells #[.int .i64 1, .int .i64 4, .int .i64 11, .int .i64 14] 3)).heap.size := by simp; omega
  clear hp2 hB3 hx3 e4
  generalize w2.alloc (.cells #[.int .i64 1, .int .i64 4, .int .i64 11, .int .i64 14] 3) = W2 at *
  refine HS.out.mono ?_
  rintro e' w3 ⟨rfl, hB⟩
  have hB5 := Lib.hid (hB4.out.trans (hB.mono hB4.out.size))
  have hx5 := Lib.hid (hx4.out.below hB)
  have e6 := (hB.block _ hs5).trans e5.out
  have hs6 : w.heap.size < w3.heap.size := Nat.lt_of_lt_of_le hs5 hB.size
  have d0 : w3.cell? ⟨w.heap.size, 0, none⟩ = some (.int .i64 (a : Int)) := wcell (cs := [_, _, _]) e6 0
  have d1 : w3.cell? ⟨w.heap.size, 1, none⟩ = some (.int .i64 (b : Int)) := wcell (cs := [_, _, _]) e6 1
  have d2 : w3.cell? ⟨w.heap.size, 2, none⟩ = some (.slice q n c) := wcell (cs := [_, _, _]) e6 2
  clear HS hB4 hx4 e5 hs5 hB hs4
  replace e6 := Lib.hid e6
  have HY := Lib.hid (Places_yes q n c a b who s w3 (by omega) (by omega) (by omega) (by omega) h5.out h6.out hn.out hw1 hw2 hs.out hx5.out)
  go_wp2_with fail
  refine HY.out.mono ?_
  rintro e' w4 ⟨pT, cT, rfl, hpT, hB⟩
  have hB6 := Lib.hid (hB5.out.trans (hB.mono hB5.out.size))
  have hx6 := Lib.hid (hx5.out.below hB)
  have e7 := (hB.block _ hs6).trans e6.out
  have hs7 : w.heap.size < w4.heap.size := Nat.lt_of_lt_of_le hs6 hB.size
  replace d0 : w4.cell? ⟨w.heap.size, 0, none⟩ = some (.int .i64 (a : Int)) := wcell (cs := [_, _, _]) e7 0
  replace d1 : w4.cell? ⟨w.heap.size, 1, none⟩ = some (.int .i64 (b : Int)) := wcell (cs := [_, _, _]) e7 1
  replace d2 : w4.cell? ⟨w.heap.size, 2, none⟩ = some (.slice q n c) := wcell (cs := [_, _, _]) e7 2
  replace hpT := Lib.hid hpT
  replace e7 := Lib.hid e7
  have HM := Lib.hid (mirrored_any q n c a b s w4 (by omega) (by omega) (by omega) hn.out hx6.out)
  clear HY hB hB5 hx5 e6 hs6
  go_wp2_with fail
  refine HM.out.mono ?_
  rintro e' w5 ⟨pM, cM, rfl, hpM, hB⟩
  have hB7 := Lib.hid (hB6.out.trans (hB.mono hB6.out.size))
  have hx7 := Lib.hid (hx6.out.below hB)
  have hpT7 := Lib.hid (hpT.out.below hB)
  have e8 := (hB.block _ hs7).trans e7.out
  have hs8 : w.heap.size < w5.heap.size := Nat.lt_of_lt_of_le hs7 hB.size
  have HY := Lib.hid (Places_yes pM n cM a b who (mirN s a n) w5 (by omega) (by omega) (by omega) (by omega) h5.out h6.out hn.out hw1 hw2 (st_mir_le s a n hs.out) hpM)
  clear HM hB hB6 hx6 hpT e7 hs7 hpM d0 d1 d2
  replace e8 := Lib.hid e8
  go_wp2_with fail
  refine HY.out.mono ?_
  rintro e' w6 ⟨pQ, cQ, rfl, hpQ, hB⟩
  have hB8 := Lib.hid (hB7.out.trans (hB.mono hB7.out.size))
  have hx8 := Lib.hid (hx7.out.below hB)
  have hpT8 := Lib.hid (hpT7.out.below hB)
  have e9 := Lib.hid ((hB.block _ hs8).trans e8.out)
  have hs9 : w.heap.size < w6.heap.size := Nat.lt_of_lt_of_le hs8 hB.size
  clear HY hB hB7 hx7 hpT7 e8 hs8
  replace hpQ := Lib.hid hpQ
  rw [hPl] at hpQ ⊢
  replace hPl := Lib.hid hPl
  generalize hPd : placesN (mirN s a n) a b who n = P2 at *
  generalize hTd : placesN s a b who n = T at *
  replace hPd := Lib.hid hPd; replace hTd := Lib.hid hTd
  have hneq : ((T.length : Int) != (T.length : Int)) = false := by simp
  go_wp2_with fail
  have hPl := hPl.out
  replace hn := hn
  go_loopg [13, 14, 15, 16] T.length (fun gk iv v14 v15 v16 W' => ∃ (i r : Nat), i ≤ T.length ∧ gk = T.length - i ∧ iv = .int .i64 i ∧ w6.drewN r = W')
  case atStart => exact ⟨0, 0, by omega, by omega, rfl, rfl⟩
  case round =>
    obtain ⟨i, r, hi, hgk, rfl, rfl⟩ := hrel
    replace hgk := Lib.hid hgk
    by_cases hlt : i < T.length
    · obtain ⟨gb, go, rfl, hgb, hcx⟩ := hpT8.out.at (by omega)
      clear hcx
      have k1 : w6.cell? ⟨gb, go + i, none⟩ = some (.int .i64 (st T i : Nat)) := hpT8.out.cellN hlt
      have hxm : st T i ∈ T := by unfold st; rw [List.getElem?_eq_getElem hlt]; exact List.getElem_mem hlt
      have hxn : st T i < n := ((hpm.out _).1 hxm).1
      have hM2 := Lib.hid (hmem.out _ hxm)
      have hML : mirP a (st T i) < n := by rw [hn.out]; exact mirP_lt (by omega) (by rw [← hn.out]; exact hxn)
      have d0 : w6.cell? ⟨w.heap.size, 0, none⟩ = some (.int .i64 (a : Int)) := wcell (w := w6) (cs := [_, _, _]) e9.out 0
      generalize hxd : st T i = x at *
      replace hxd := Lib.hid hxd
      have hM : mirP a x = x / a * a + a - 1 - x % a := rfl
      have hr1 : x % a < a := Nat.mod_lt _ (by omega)
      have hdle : x / a ≤ x := Nat.div_le_self _ _
      have hmul : x / a * a ≤ x := Nat.div_mul_le_self x a
      have hdiv : (x : Int).tdiv (a : Int) = ((x / a : Nat) : Int) := by rw [Int.tdiv_eq_ediv_of_nonneg (by omega)]; push_cast; rfl
      have hdiv2 : (x : Int) / (a : Int) = ((x / a : Nat) : Int) := by push_cast; rfl
      have hmod : (x : Int).tmod (a : Int) = ((x % a : Nat) : Int) := by rw [Int.tmod_eq_emod_of_nonneg (by omega)]; push_cast; rfl
      have hmod2 : (x : Int) % (a : Int) = ((x % a : Nat) : Int) := by push_cast; rfl
      have hpr : ((x / a : Nat) : Int) * (a : Int) = ((x / a * a : Nat) : Int) := by push_cast; rfl
      generalize mirP a x = M at *
      generalize x / a * a = m at *
      generalize x / a = d at *
      generalize x % a = rr at *
      have haz : ((a : Int) == 0) = false := by simp; omega
      have haz2 : ¬ a = 0 := by omega
      have hlt' : (i : Int) < (T.length : Int) := by omega
      have hi0 : (0 : Int) ≤ (i : Int) := by omega
      have wd : IntKind.i64.wrap (d : Int) = (d : Int) := IntWalk.i64_in _ (by have := hdle; omega)
      have wr : IntKind.i64.wrap (rr : Int) = (rr : Int) := IntWalk.i64_in _ (by omega)
      have wA : IntKind.i64.wrap ((d : Int) * (a : Int)) = (m : Int) := by rw [hpr]; exact IntWalk.i64_in _ (by omega)
      have wB : IntKind.i64.wrap ((m : Int) + (a : Int)) = (m : Int) + (a : Int) := IntWalk.i64_in _ (by omega)
      have wC : IntKind.i64.wrap ((m : Int) + (a : Int) - 1) = (m : Int) + (a : Int) - 1 := IntWalk.i64_in _ (by omega)
      have wD : IntKind.i64.wrap ((m : Int) + (a : Int) - 1 - (rr : Int)) = (M : Int) := by rw [IntWalk.i64_in _ (by omega)]; omega
      replace hpr := Lib.hid hpr; replace hM := Lib.hid hM
      go_wp2_with fail
      go_quiet (fail)
      go_wp2_with fail
      clear wd wr wA wB wC wD hdiv hdiv2 hmod hmod2 haz haz2
      go_loopg [15, 16] T.length (fun gk v15 kv W' => ∃ (k r' : Nat) (B : Bool), k ≤ T.length ∧ gk = T.length - k ∧ kv = .int .i64 k ∧ v15 = .bool B ∧ B = decide (M ∈ P2.take k) ∧ w6.drewN r' = W')
      case atStart => exact ⟨0, _, false, by omega, by omega, rfl, rfl, by simp, (World.drewN_drewN ..).symm⟩
      case round =>
        obtain ⟨k, r', B, hk, hgk2, rfl, rfl, hBd, rfl⟩ := hrel
        replace hgk2 := Lib.hid hgk2
        replace hBd := Lib.hid hBd
        by_cases hkl : k < T.length
        · obtain ⟨qb, qo, rfl, hqb, hcx⟩ := hpQ.out.at (by omega)
          clear hcx
          have k2 : w6.cell? ⟨qb, qo + k, none⟩ = some (.int .i64 (st P2 k : Nat)) := hpQ.out.cellN hkl
          have hk0 : (0 : Int) ≤ (k : Int) := by omega
          have hkl' : (k : Int) < (T.length : Int) := by omega
          have hnx : Hid (decide (M ∈ P2.take (k + 1)) = (decide (M ∈ P2.take k) || decide (((st P2 k : Nat) : Int) = (M : Int)))) := by
            have hkp : k < P2.length := by rw [hPl]; exact hkl
            have : st P2 k = P2[k] := by unfold st; rw [List.getElem?_eq_getElem hkp]; rfl
            show _ = _
            rw [this, List.take_succ_eq_append_getElem hkp]
            simp only [List.mem_append, List.mem_singleton, Bool.decide_or]
            congr 1
            simp only [decide_eq_decide]
            omega
          generalize st P2 k = y at *
          cases B
          · go_wp2_with fail
            have hgk2 := hgk2.out
            go_roundg (T.length - (k + 1))
            case measure => omega
            case rel => exact ⟨k + 1, r', _, by omega, rfl, by go_num, rfl, by rw [hnx.out, ← hBd.out]; rfl, rfl⟩
          · go_wp2_with fail
            have hgk2 := hgk2.out
            go_roundg (T.length - (k + 1))
            case measure => omega
            case rel => exact ⟨k + 1, r', true, by omega, rfl, by go_num, rfl, by rw [hnx.out, ← hBd.out]; simp, rfl⟩
        · have hkn : k = T.length := by omega
          subst hkn
          have hB1 : B = true := by
            rw [hBd.out, List.take_of_length_le (by omega), decide_eq_true_eq]; exact hM2.out
          subst hB1
          go_wp2_with fail
          have hgk := hgk.out
          go_roundg (T.length - (i + 1))
          case measure => omega
          case rel => exact ⟨i + 1, r', by omega, rfl, by go_num, rfl⟩
    · have hin : i = T.length := by omega
      subst hin
      by_cases hT0 : T = []
      · subst hT0
        go_wp2_with fail
        go_ret
        exact ⟨rfl, below_drewN hB8.out _⟩
      · have hTp : 0 < T.length := List.length_pos_iff.2 hT0
        have hB9 := Lib.hid (below_drewN hB8.out r)
        have hx9 := Lib.hid (hx8.out.below (below_drewN (Below.refl _ w6) r))
        have hpT9 := Lib.hid (hpT8.out.below (below_drewN (Below.refl _ w6) r))
        have e10 : (w6.drewN r).heap[w.heap.size]? = some (.cells #[.int .i64 (a : Int), .int .i64 (b : Int), .slice q n c] 24) := e9.out
        have hs10 : w.heap.size < (w6.drewN r).heap.size := hs9
        clear hB8 hx8 hpT8 hpQ e9 hs9 hmem
        generalize w6.drewN r = W7 at *
        have hlz : ((T.length : Int) == 0) = false := by simp; omega
        have hpk := pick_lt at0 T.length hTp
        have HK := Lib.hid (fun W => picked_any at0 T.length W ha1 ha2 hTp (by omega) _ (Lib.hid rfl))
        generalize hid : pick at0 T.length = i at *
        obtain ⟨gb, go, rfl, hgb, hcx⟩ := hpT9.out.at (by omega)
        clear hcx
        have k1 : W7.cell? ⟨gb, go + i, none⟩ = some (.int .i64 (st T i : Nat)) := hpT9.out.cellN hpk
        have hxm : st T i ∈ T := by unfold st; rw [List.getElem?_eq_getElem hpk]; exact List.getElem_mem hpk
        obtain ⟨hxn, hxt⟩ := (hpm.out _).1 hxm
        have d0 : W7.cell? ⟨w.heap.size, 0, none⟩ = some (.int .i64 (a : Int)) := wcell (cs := [_, _, _]) e10 0
        have d1 : W7.cell? ⟨w.heap.size, 1, none⟩ = some (.int .i64 (b : Int)) := wcell (cs := [_, _, _]) e10 1
        have d2 : W7.cell? ⟨w.heap.size, 2, none⟩ = some (.slice q n c) := wcell (cs := [_, _, _]) e10 2
        replace e10 := Lib.hid e10
        have hpk' : (i : Int) < (T.length : Int) := by omega
        have hpk0 : (0 : Int) ≤ (i : Int) := by omega
        generalize st T i = x at *
        have HU := Lib.hid (Put_yes q n c a b who x s W7 (by omega) (by omega) (by omega) (by omega) h5.out h6.out hn.out hw1 hw2 hxn hs.out hxt hx9.out)
        obtain ⟨hx0, hcn⟩ := turned_cnt s a b who x hw2 hxt
        have hxh := Lib.hid hxt
        clear hxt
        replace hcn := Lib.hid hcn; replace hx0 := Lib.hid hx0
        go_wp2_with fail
        refine (HK.out _).mono ?_
        rintro e' w8 ⟨rfl, rfl⟩
        go_wp2_with fail
        refine HU.out.mono ?_
        rintro e' w8 ⟨pU, cU, rfl, hpU, hcU, hB⟩
        have hnp : 0 < n := by omega
        have hB10 := Lib.hid ((hB9.out.trans (hB.mono (Nat.le_of_lt hs10))).alloc (Nat.le_trans (Nat.le_of_lt hs10) hB.size) (.cells #[.int .i64 (a : Int), .int .i64 (b : Int), .slice pU n cU] 24))
        have hx10 := Lib.hid ((hx9.out.below hB).alloc (.cells #[.int .i64 (a : Int), .int .i64 (b : Int), .slice pU n cU] 24))
        have hU10 := Lib.hid (hpU.alloc (.cells #[.int .i64 (a : Int), .int .i64 (b : Int), .slice pU n cU] 24))
        have hs11 : w.heap.size < w8.heap.size := Nat.lt_of_lt_of_le hs10 hB.size
        have e11 := (Below.heap_alloc w8 (.cells #[.int .i64 (a : Int), .int .i64 (b : Int), .slice pU n cU] 24) _ hs11).trans ((hB.block _ hs10).trans e10.out)
        have e12 := heap_alloc_new w8 (.cells #[.int .i64 (a : Int), .int .i64 (b : Int), .slice pU n cU] 24)
        have hUl : s.length = a * b := by have := hx9.out.len; rw [asI_len] at this; rw [← hn.out]; exact this
        have hUst := Lib.hid (fun j => putS_st s a b who x j hUl (by rw [← hn.out]; exact hxn))
        have hTm := Lib.hid (turned_mem s a b who x)
        generalize putS s a b who x = U at *
        generalize turnedS s a b who x = R at *
        have hUx : st U x = who := by rw [hUst.out]; simp
        generalize hg8 : w8.heap.size = g8 at *
        clear HU HK hB hpU hx9 hpT9 e10 hB9 d0 d1 d2 k1 hs10 hgb
        generalize hW9 : w8.alloc (.cells #[.int .i64 (a : Int), .int .i64 (b : Int), .slice pU n cU] 24) = W9 at *
        obtain ⟨ub, uo, rfl, hub, hcx⟩ := hU10.out.at hnp
        clear hcx
        obtain ⟨vb, vo, rfl, hvb, hcx⟩ := hx10.out.at hnp
        clear hcx
        have f2 : W9.cell? ⟨g8, 2, none⟩ = some (.slice (some ⟨ub, uo, none⟩) n cU) := wcell (cs := [_, _, _]) e12 2
        have d2 : W9.cell? ⟨w.heap.size, 2, none⟩ = some (.slice (some ⟨vb, vo, none⟩) n c) := wcell (cs := [_, _, _]) e11 2
        have kx : W9.cell? ⟨ub, uo + x, none⟩ = some (.int .i64 (who : Int)) := by rw [hU10.out.cellN hxn, hUx]
        replace e11 := Lib.hid e11; replace e12 := Lib.hid e12
        have hnn : ((n : Int) != (n : Int)) = false := by simp
        have hww : ((who : Int) != (who : Int)) = false := by simp
        have hxn' : (x : Int) < (n : Int) := by omega
        have hxp : (0 : Int) ≤ (x : Int) := by omega
        go_wp2_with fail
        clear kx hUx hnn hww
        go_loopg [19, 20] n (fun gk v19 jv W' => ∃ (j r' : Nat), j ≤ n ∧ gk = n - j ∧ v19 = .int .i64 (turnCnt R x j : Nat) ∧ jv = .int .i64 j ∧ W9.drewN r' = W')
        case atStart => exact ⟨0, 0, by omega, by omega, rfl, rfl, rfl⟩
        case round =>
          obtain ⟨j, r', hj, hgk2, rfl, rfl, rfl⟩ := hrel
          replace hgk2 := Lib.hid hgk2
          have hcl := turnCnt_le R x j
          by_cases hjn : j < n
          · have k1 : W9.cell? ⟨ub, uo + j, none⟩ = some (.int .i64 (st U j : Nat)) := hU10.out.cellN hjn
            have k2 : W9.cell? ⟨vb, vo + j, none⟩ = some (.int .i64 (st s j : Nat)) := hx10.out.cellN hjn
            have hj0 : (0 : Int) ≤ (j : Int) := by omega
            have hjn' : (j : Int) < (n : Int) := by omega
            have hc1 : Hid (turnCnt R x (j + 1) = turnCnt R x j + if j ≠ x ∧ j ∈ R then 1 else 0) := rfl
            have hu := hUst.out j
            generalize turnCnt R x j = cnt at *
            by_cases hjx : j = x
            · rw [if_neg (fun h => h.1 hjx)] at hc1
              have hjx' : ((j : Int) == (x : Int)) = true := by rw [hjx]; simp
              generalize st U j = y at *
              generalize st s j = z at *
              replace hu := Lib.hid hu
              go_wp2_with fail
              go_quiet (fail)
              go_wp2_with fail
              have hgk2 := hgk2.out
              go_roundg (n - (j + 1))
              case measure => omega
              case rel => exact ⟨j + 1, _, by omega, rfl, by rw [hc1.out]; rfl, by go_num, rfl⟩
            · have hjx' : ((j : Int) == (x : Int)) = false := by simp; omega
              by_cases hR : j ∈ R
              · rw [if_pos ⟨hjx, hR⟩] at hc1
                rw [if_pos hR] at hu
                have hz := (hTm.out j hR).1
                rw [hu] at k1
                rw [hz] at k2
                have q1 : ((who : Int) == ((3 - who : Nat) : Int)) = false := by simp; omega
                have q2 : (((3 - who : Nat) : Int) != 3 - (who : Int)) = false := by simp; omega
                have q3 : ((who : Int) != (who : Int)) = false := by simp
                have q4 : IntKind.i64.wrap (3 - (who : Int)) = 3 - (who : Int) := IntWalk.i64_in _ (by omega)
                generalize hzz : 3 - who = z at *
                replace hzz := Lib.hid hzz
                go_wp2_with fail
                go_quiet (fail)
                go_wp2_with fail
                have hgk2 := hgk2.out
                go_roundg (n - (j + 1))
                case measure => omega
                case rel => exact ⟨j + 1, _, by omega, rfl, by rw [hc1.out]; go_num, by go_num, rfl⟩
              · rw [if_neg (fun h => hR h.2)] at hc1
                rw [if_neg hR, if_neg hjx] at hu
                rw [hu] at k1
                generalize st s j = z at *
                have q1 : ((z : Int) == (z : Int)) = true := by simp
                go_wp2_with fail
                go_quiet (fail)
                go_wp2_with fail
                have hgk2 := hgk2.out
                go_roundg (n - (j + 1))
                case measure => omega
                case rel => exact ⟨j + 1, _, by omega, rfl, by rw [hc1.out]; rfl, by go_num, rfl⟩
          · have hjn2 : j = n := by omega
            subst hjn2
            have kx : W9.cell? ⟨vb, vo + x, none⟩ = some (.int .i64 (0 : Int)) := by rw [hx10.out.cellN hxn, hx0.out]; rfl
            have hc1 : 1 ≤ turnCnt R x j := by rw [hn.out]; exact hcn.out
            generalize turnCnt R x j = cnt at *
            go_wp2_with fail
            go_ret
            exact ⟨rfl, below_drewN hB10.out _⟩
end Go.Proofs.Ytlhbbkjplecghaa
