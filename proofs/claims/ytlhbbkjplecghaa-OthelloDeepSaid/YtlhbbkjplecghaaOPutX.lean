/- What othello.Put computes at a place where a move turns; conditions: a board of 4 to 8 by 4 to 8 places, both even, whose signs are 0 to 2. -/
import Derived.Test.YtlhbbkjplecghaaOPut
namespace Go.Proofs.Ytlhbbkjplecghaa
open Go.RowKit

set_option maxRecDepth 20000 in
set_option maxHeartbeats 4000000 in
theorem Put_yes (q : Option Addr) (n c a b who at0 : Nat) (s : List Nat) (w : World) (h1 : 4 ≤ a) (h2 : a ≤ 8) (h3 : 4 ≤ b) (h4 : b ≤ 8) (h5 : a % 2 = 0) (h6 : b % 2 = 0) (hn : n = a * b) (hw1 : 1 ≤ who) (hw2 : who ≤ 2) (hat : at0 < n) (hs : ∀ j, st s j ≤ 2) (hT : turnedS s a b who at0 ≠ []) (hx : IntsIn w q n (asI s)) :
    Calls Try.prog 10 #[.agg #[.int .i64 a, .int .i64 b, .slice q n c], .int .i64 who, .int .i64 at0] w fun e w' => ∃ p c', e = .returned (.tuple #[.agg #[.int .i64 a, .int .i64 b, .slice p n c'], .int .i64 0]) ∧ IntsIn w' p n (asI (putS s a b who at0)) ∧ n ≤ c' ∧ Below w.heap.size w w' := by
  have hn100 : n ≤ 100 := by rw [hn]; exact Nat.mul_le_mul (show a ≤ 10 by omega) (show b ≤ 10 by omega)
  have hl : s.length = a * b := by have := hx.len; rw [asI_len] at this; omega
  obtain ⟨a0, b0⟩ := heap2 w (.cells #[.int .i64 a, .int .i64 b, .slice q n c] 24) (.cells #[.int .i64 0, .int .i64 0, .slice none 0 0] 24)
  have hx0 := (hx.alloc (.cells #[.int .i64 a, .int .i64 b, .slice q n c] 24)).alloc (.cells #[.int .i64 0, .int .i64 0, .slice none 0 0] 24)
  have hB0 := Lib.hid (below2 w (.cells #[.int .i64 a, .int .i64 b, .slice q n c] 24) (.cells #[.int .i64 0, .int .i64 0, .slice none 0 0] 24))
  have hsz0 : w.heap.size + 1 < ((w.alloc (.cells #[.int .i64 a, .int .i64 b, .slice q n c] 24)).alloc (.cells #[.int .i64 0, .int .i64 0, .slice none 0 0] 24)).heap.size := by simp
  have HC := check_any q n c a b who (asI s) ((w.alloc (.cells #[.int .i64 a, .int .i64 b, .slice q n c] 24)).alloc (.cells #[.int .i64 0, .int .i64 0, .slice none 0 0] 24)) (by omega) (by omega) (by omega) (by omega) (by omega) (by omega) (by omega) hx0
  rw [chk_of h1 h2 h3 h4 h5 h6 hw1 hw2 hl hs] at HC
  have HT := Lib.hid (fun W hx => turned_any q n c a b who at0 s W (by omega) (by omega) (by omega) (by omega) hn hw1 hw2 hat hs hx)
  have HP := Lib.hid (fun W hx => put_any q n c a b who at0 s W (by omega) (by omega) (by omega) (by omega) hn hw1 hw2 hat hs hx)
  have hpos : 0 < (turnedS s a b who at0).length := List.length_pos_iff.2 hT
  have hTl := turned_len s a b who at0
  generalize turnedS s a b who at0 = T at *
  generalize putS s a b who at0 = U at *
  have z0 : ((T.length : Int) == 0) = false := by simp; omega
  have hd1 : decide ((at0 : Int) < 0) = false := by simp
  have hd2 : decide ((n : Int) ≤ (at0 : Int)) = false := by simp; omega
  replace HC := Lib.hid HC; replace hn := Lib.hid hn; replace hl := Lib.hid hl; replace hs := Lib.hid hs; replace hT := Lib.hid hT; replace h5 := Lib.hid h5; replace h6 := Lib.hid h6
  clear hx
  go_enter Try.func10, Try.ntmps10
  go_wp2_with fail
  generalize ((w.alloc (.cells #[.int .i64 a, .int .i64 b, .slice q n c] 24)).alloc (.cells #[.int .i64 0, .int .i64 0, .slice none 0 0] 24)) = W at *
  refine HC.out.mono ?_
  rintro e w1 ⟨rfl, hB⟩
  have hB1 := Lib.hid (hB0.out.trans (hB.mono hB0.out.size))
  have a1 := (hB.block _ (by omega)).trans a0
  have b1 := (hB.block _ (by omega)).trans b0
  have hsz1 := Nat.lt_of_lt_of_le hsz0 hB.size
  have hx1 := hx0.below hB
  clear hB hB0 a0 b0 hsz0 hx0 HC
  have d0 : w1.cell? ⟨w.heap.size, 0, none⟩ = some (.int .i64 (a : Int)) := wcell (cs := [_, _, _]) a1 0
  have d1 : w1.cell? ⟨w.heap.size, 1, none⟩ = some (.int .i64 (b : Int)) := wcell (cs := [_, _, _]) a1 1
  have d2 : w1.cell? ⟨w.heap.size, 2, none⟩ = some (.slice q n c) := wcell (cs := [_, _, _]) a1 2
  go_wp2_with fail
  refine (HT.out _ hx1).mono ?_
  rintro e w2 ⟨pT, cT, rfl, _, hB⟩
  have hB2 := Lib.hid (hB1.out.trans (hB.mono hB1.out.size))
  have a2 := (hB.block _ (by omega)).trans a1
  have b2 := (hB.block _ (by omega)).trans b1
  have hsz2 := Nat.lt_of_lt_of_le hsz1 hB.size
  have hx2 := hx1.below hB
  clear hB hB1 a1 b1 hsz1 hx1 HT d0 d1 d2
  have d0 : w2.cell? ⟨w.heap.size, 0, none⟩ = some (.int .i64 (a : Int)) := wcell (cs := [_, _, _]) a2 0
  have d1 : w2.cell? ⟨w.heap.size, 1, none⟩ = some (.int .i64 (b : Int)) := wcell (cs := [_, _, _]) a2 1
  have d2 : w2.cell? ⟨w.heap.size, 2, none⟩ = some (.slice q n c) := wcell (cs := [_, _, _]) a2 2
  go_wp2_with fail
  refine (HP.out _ hx2).mono ?_
  rintro e w3 ⟨p3, c3, rfl, hx3, hc3, hB⟩
  have hB3 := Lib.hid (hB2.out.trans (hB.mono hB2.out.size))
  have b3 := (hB.block _ (by omega)).trans b2
  have m0 : w3.cell? ⟨w.heap.size + 1, 0, none⟩ = some (.int .i64 0) := wcell (cs := [_, _, _]) b3 0
  have m1 : w3.cell? ⟨w.heap.size + 1, 1, none⟩ = some (.int .i64 0) := wcell (cs := [_, _, _]) b3 1
  have m2 : w3.cell? ⟨w.heap.size + 1, 2, none⟩ = some (.slice none 0 0) := wcell (cs := [_, _, _]) b3 2
  have f0 : w3.frozen? ⟨w.heap.size + 1, 0, none⟩ = false := wfree b3 0
  have f1 : w3.frozen? ⟨w.heap.size + 1, 1, none⟩ = false := wfree b3 1
  have f2 : w3.frozen? ⟨w.heap.size + 1, 2, none⟩ = false := wfree b3 2
  have z := wset (wset (wset b3 0 (.int .i64 (a : Int))) 1 (.int .i64 (b : Int))) 2 (.slice p3 n c3)
  have r0 := wcell (cs := [.int .i64 (a : Int), .int .i64 (b : Int), .slice p3 n c3]) (by simpa using z) 0
  have r1 := wcell (cs := [.int .i64 (a : Int), .int .i64 (b : Int), .slice p3 n c3]) (by simpa using z) 1
  have r2 := wcell (cs := [.int .i64 (a : Int), .int .i64 (b : Int), .slice p3 n c3]) (by simpa using z) 2
  have hB9 := Lib.hid (((hB3.out.setCell (p := ⟨w.heap.size + 1, 0, none⟩) (Nat.le_succ _) (.int .i64 (a : Int))).setCell (p := ⟨w.heap.size + 1, 1, none⟩) (Nat.le_succ _) (.int .i64 (b : Int))).setCell (p := ⟨w.heap.size + 1, 2, none⟩) (Nat.le_succ _) (.slice p3 n c3))
  have hx9 := Lib.hid (hx3.keep (w' := ((w3.setCell ⟨w.heap.size + 1, 0, none⟩ (.int .i64 (a : Int))).setCell ⟨w.heap.size + 1, 1, none⟩ (.int .i64 (b : Int))).setCell ⟨w.heap.size + 1, 2, none⟩ (.slice p3 n c3)) (by simp [World.setCell]) (fun bb o e => by
    have hne : bb ≠ w.heap.size + 1 := by
      rintro rfl
      obtain ⟨b', o', e', _, hc'⟩ := hx3.at (show 0 < n by omega)
      rw [e] at e'; cases e'
      have h9 := hc' 3 (by
        have := hn.out
        have := Nat.mul_le_mul h1 h3
        omega)
      rw [wcell (cs := [_, _, _]) b3] at h9
      simp at h9
    rw [wset_ne _ _ hne, wset_ne _ _ hne, wset_ne _ _ hne]))
  replace r0 := Lib.hid r0; replace r1 := Lib.hid r1; replace r2 := Lib.hid r2
  clear z b3 hx3 hB a2 b2 hx2 HP d0 d1 d2
  go_wp2_with fail
  refine bodyPost_ret (v := .tuple #[.agg #[.int .i64 (a : Int), .int .i64 (b : Int), .slice p3 n c3], .int .i64 0]) (by simp [results, Try.results10, go_sem, r0.out, r1.out, r2.out]) rfl ⟨p3, c3, rfl, hx9.out, hc3, hB9.out⟩
end Go.Proofs.Ytlhbbkjplecghaa
