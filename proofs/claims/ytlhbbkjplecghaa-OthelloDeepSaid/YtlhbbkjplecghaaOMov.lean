/- What othello.mover and lead compute; conditions: a board of 1 to 10 by 1 to 10 places whose signs are 0 to 2, who is 1 or 2. -/
import Derived.Test.YtlhbbkjplecghaaOSkS
namespace Go.Proofs.Ytlhbbkjplecghaa
open Go.RowKit

theorem index2 (x y : Int) : (∀ w, (Instr.index 52 (.agg #[.int .i64 x, .int .i64 y]) (.int .i64 0)).run Try.prog w = .ok (.int .i64 x) w) ∧ ∀ w, (Instr.index 52 (.agg #[.int .i64 x, .int .i64 y]) (.int .i64 1)).run Try.prog w = .ok (.int .i64 y) w :=
  ⟨fun w => by kernel_rfl, fun w => by kernel_rfl⟩
set_option maxRecDepth 20000 in
set_option maxHeartbeats 4000000 in
theorem mover_any (q : Option Addr) (n c a b who : Nat) (s : List Nat) (w : World) (ha1 : 1 ≤ a) (ha : a ≤ 10) (hb1 : 1 ≤ b) (hb : b ≤ 10) (hn : n = a * b) (hw1 : 1 ≤ who) (hw2 : who ≤ 2) (hs : ∀ j, st s j ≤ 2) (hx : IntsIn w q n (asI s)) :
    Calls Try.prog 21 #[.agg #[.int .i64 a, .int .i64 b, .slice q n c], .int .i64 who] w fun e w' => e = .returned (.int .i64 (moverS s a b who : Nat)) ∧ Below w.heap.size w w' := by
  have hn100 : n ≤ 100 := by rw [hn]; exact Nat.mul_le_mul ha hb
  obtain ⟨o, ho⟩ : ∃ o : Nat, o = 3 - who := ⟨_, rfl⟩
  have ho2 : 3 - (who : Int) = (o : Int) := by omega
  have hob1 : 1 ≤ o := by omega
  have hob2 : o ≤ 2 := by omega
  have HM : Hid (moverS s a b who = if placesN s a b who n ≠ [] then who else if placesN s a b o n ≠ [] then o else 0) := by show _ = _; rw [hn, ho]; rfl
  have e0 := heap_alloc_new w (.cells #[.int .i64 a, .int .i64 b, .slice q n c] 24)
  have hx0 := Lib.hid (hx.alloc (.cells #[.int .i64 a, .int .i64 b, .slice q n c] 24))
  have hB0 := Lib.hid ((Below.refl w.heap.size w).alloc (Nat.le_refl _) (.cells #[.int .i64 a, .int .i64 b, .slice q n c] 24))
  have hsz0 : w.heap.size < (w.alloc (.cells #[.int .i64 a, .int .i64 b, .slice q n c] 24)).heap.size := by simp
  have HP1 := Lib.hid (fun W hx => places_any q n c a b who s W ha1 ha hb1 hb hn hw1 hw2 hs hx)
  have HP2 := Lib.hid (fun W hx => places_any q n c a b o s W ha1 ha hb1 hb hn hob1 hob2 hs hx)
  replace hn := Lib.hid hn; replace e0 := Lib.hid e0; replace hs := Lib.hid hs; replace ho := Lib.hid ho
  clear hx
  obtain ⟨i0, i1⟩ := index2 (who : Int) (o : Int)
  go_enter Try.func21, Try.ntmps21
  go_wp2_with fail
  generalize w.alloc (.cells #[.int .i64 a, .int .i64 b, .slice q n c] 24) = W at *
  refine wp_loop_rounds 3 ?_
  rw [rounds_succ]
  have d0 : W.cell? ⟨w.heap.size, 0, none⟩ = some (.int .i64 (a : Int)) := wcell (cs := [_, _, _]) e0.out 0
  have d1 : W.cell? ⟨w.heap.size, 1, none⟩ = some (.int .i64 (b : Int)) := wcell (cs := [_, _, _]) e0.out 1
  have d2 : W.cell? ⟨w.heap.size, 2, none⟩ = some (.slice q n c) := wcell (cs := [_, _, _]) e0.out 2
  go_wp2_with fail
  refine (HP1.out _ hx0.out).mono ?_
  rintro e w1 ⟨p1, c1, rfl, _, hB⟩
  have hB1 := Lib.hid (hB0.out.trans (hB.mono hB0.out.size))
  have e1 := (hB.block _ hsz0).trans e0.out
  have hx1 := Lib.hid (hx0.out.below hB)
  clear hB d0 d1 d2 HP1
  by_cases h1 : placesN s a b who n = []
  · rw [if_neg (by simp [h1])] at HM
    rw [h1]
    have d0 : w1.cell? ⟨w.heap.size, 0, none⟩ = some (.int .i64 (a : Int)) := wcell (cs := [_, _, _]) e1 0
    have d1 : w1.cell? ⟨w.heap.size, 1, none⟩ = some (.int .i64 (b : Int)) := wcell (cs := [_, _, _]) e1 1
    have d2 : w1.cell? ⟨w.heap.size, 2, none⟩ = some (.slice q n c) := wcell (cs := [_, _, _]) e1 2
    replace h1 := Lib.hid h1; replace e1 := Lib.hid e1
    go_wp2_with fail
    rw [rounds_succ]
    go_wp2_with fail
    refine (HP2.out _ hx1.out).mono ?_
    rintro e w2 ⟨p2, c2, rfl, _, hB⟩
    have hB2 := Lib.hid (hB1.out.trans (hB.mono hB1.out.size))
    clear hB d0 d1 d2 HP2
    by_cases h2 : placesN s a b o n = []
    · rw [if_neg (by simp [h2])] at HM
      rw [h2]
      replace h2 := Lib.hid h2
      go_wp2_with fail
      rw [rounds_succ]
      go_wp2_with fail
      go_ret
      exact ⟨by rw [HM.out]; rfl, hB2.out⟩
    · rw [if_pos h2] at HM
      have hpos : 0 < (placesN s a b o n).length := List.length_pos_iff.2 h2
      have hposd : decide (((placesN s a b o n).length : Int) > 0) = true := by simp; omega
      replace h2 := Lib.hid h2
      go_wp2_with fail
      go_ret
      exact ⟨by rw [HM.out]; rfl, hB2.out⟩
  · rw [if_pos h1] at HM
    have hpos : 0 < (placesN s a b who n).length := List.length_pos_iff.2 h1
    have hposd : decide (((placesN s a b who n).length : Int) > 0) = true := by simp; omega
    replace h1 := Lib.hid h1; replace e1 := Lib.hid e1
    go_wp2_with fail
    go_ret
    exact ⟨by rw [HM.out]; rfl, hB1.out⟩

set_option maxRecDepth 20000 in
set_option maxHeartbeats 2000000 in
theorem lead_any (q : Option Addr) (n c a b who : Nat) (s : List Nat) (w : World) (hn : n = a * b) (hn100 : n ≤ 100) (hw1 : 1 ≤ who) (hw2 : who ≤ 2) (hx : IntsIn w q n (asI s)) (hs : ∀ j, st s j ≤ 2) :
    Calls Try.prog 22 #[.agg #[.int .i64 a, .int .i64 b, .slice q n c], .int .i64 who] w fun e w' => e = .returned (.int .i64 (leadN s who (a * b))) ∧ Below w.heap.size w w' := by
  obtain ⟨o, ho⟩ : ∃ o : Nat, o = 3 - who := ⟨_, rfl⟩
  have ho2 : 3 - (who : Int) = (o : Int) := by omega
  have hob2 : o ≤ 2 := by omega
  have how : o ≠ who := by omega
  have e0 := heap_alloc_new w (.cells #[.int .i64 a, .int .i64 b, .slice q n c] 24)
  have hx0 := Lib.hid (hx.alloc (.cells #[.int .i64 a, .int .i64 b, .slice q n c] 24))
  have hB0 := Lib.hid ((Below.refl w.heap.size w).alloc (Nat.le_refl _) (.cells #[.int .i64 a, .int .i64 b, .slice q n c] 24))
  rw [← hn]
  replace hn := Lib.hid hn; replace ho := Lib.hid ho; replace hs := Lib.hid hs
  clear hx
  go_enter Try.func22, Try.ntmps22
  have d2 : (w.alloc (.cells #[.int .i64 a, .int .i64 b, .slice q n c] 24)).cell? ⟨w.heap.size, 2, none⟩ = some (.slice q n c) := wcell (cs := [_, _, _]) e0 2
  replace e0 := Lib.hid e0
  go_wp2_with fail
  generalize w.alloc (.cells #[.int .i64 a, .int .i64 b, .slice q n c] 24) = W at *
  go_loopg [5, 11] n (fun gk lv jv W' => ∃ (j : Nat), j ≤ n ∧ gk = n - j ∧ jv = .int .i64 j ∧ lv = .int .i64 (leadN s who j) ∧ W = W')
  case atStart => exact ⟨0, by omega, by omega, rfl, rfl, rfl⟩
  case round =>
    obtain ⟨j, hj, hgk, rfl, rfl, rfl⟩ := hrel
    replace hgk := Lib.hid hgk
    obtain ⟨l1, l2⟩ := lead_le s who j
    by_cases hlt : j < n
    · have hN : Hid (leadN s who (j + 1) = leadN s who j + if st s j = who then 1 else if st s j = o then -1 else 0) := by show _ = _; rw [ho.out]; rfl
      obtain ⟨gb, go, rfl, hgb, hcx⟩ := hx0.out.at (by omega)
      clear hcx
      have k1 : W.cell? ⟨gb, go + j, none⟩ = some (.int .i64 (st s j : Nat)) := hx0.out.cellN hlt
      have hx2 := hs.out j
      generalize leadN s who j = L at *
      generalize st s j = x at *
      by_cases h1 : x = who
      · rw [if_pos h1] at hN
        subst h1
        go_wp2_with fail
        have hgk := hgk.out
        go_roundg (n - (j + 1))
        case measure => omega
        case rel => exact ⟨j + 1, by omega, rfl, by go_num, by rw [hN.out], rfl⟩
      · rw [if_neg h1] at hN
        have q1 : ((x : Int) == (who : Int)) = false := by simp; omega
        by_cases h2 : x = o
        · rw [if_pos h2] at hN
          subst h2
          go_wp2_with fail
          have hgk := hgk.out
          go_roundg (n - (j + 1))
          case measure => omega
          case rel => exact ⟨j + 1, by omega, rfl, by go_num, by rw [hN.out]; go_num, rfl⟩
        · rw [if_neg h2] at hN
          have q2 : ((x : Int) == (o : Int)) = false := by simp; omega
          go_wp2_with fail
          have hgk := hgk.out
          go_roundg (n - (j + 1))
          case measure => omega
          case rel => exact ⟨j + 1, by omega, rfl, by go_num, by rw [hN.out]; go_num, rfl⟩
    · obtain rfl : n = j := by omega
      go_wp2_with fail
      go_ret
      exact ⟨rfl, hB0.out⟩
end Go.Proofs.Ytlhbbkjplecghaa
