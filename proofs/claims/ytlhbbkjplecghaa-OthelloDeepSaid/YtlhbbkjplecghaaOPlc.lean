/- What othello.places and Places compute, whatever the board; conditions: the numbers fit their kind. -/
import Derived.Test.YtlhbbkjplecghaaOTrn
import Derived.Test.YtlhbbkjplecghaaOChk
namespace Go.Proofs.Ytlhbbkjplecghaa
open Go.RowKit

theorem placesN_len (s : List Nat) (a b who : Nat) : ∀ j, (placesN s a b who j).length ≤ j := by
  intro j
  induction j with
  | zero => simp [placesN]
  | succ j ih =>
    rw [placesN, List.length_append]
    split <;> simp <;> omega

set_option maxRecDepth 20000 in
set_option maxHeartbeats 4000000 in
theorem places_any (q : Option Addr) (n c a b who : Nat) (s : List Nat) (w : World) (ha1 : 1 ≤ a) (ha : a ≤ 10) (hb1 : 1 ≤ b) (hb : b ≤ 10) (hn : n = a * b) (hw1 : 1 ≤ who) (hw2 : who ≤ 2) (hs : ∀ j, st s j ≤ 2) (hx : IntsIn w q n (asI s)) :
    Calls Try.prog 14 #[.agg #[.int .i64 a, .int .i64 b, .slice q n c], .int .i64 who] w fun e w' => ∃ p c', e = .returned (.slice p (placesN s a b who n).length c') ∧ IntsIn w' p (placesN s a b who n).length (asI (placesN s a b who n)) ∧ Below w.heap.size w w' := by
  have hn100 : n ≤ 100 := by rw [hn]; exact Nat.mul_le_mul ha hb
  have e0 := heap_alloc_new w (.cells #[.int .i64 a, .int .i64 b, .slice q n c] 24)
  have hx0 := Lib.hid (hx.alloc (.cells #[.int .i64 a, .int .i64 b, .slice q n c] 24))
  have hB0 := Lib.hid ((Below.refl w.heap.size w).alloc (Nat.le_refl _) (.cells #[.int .i64 a, .int .i64 b, .slice q n c] 24))
  have hsz0 : w.heap.size < (w.alloc (.cells #[.int .i64 a, .int .i64 b, .slice q n c] 24)).heap.size := by simp
  replace hn := Lib.hid hn; replace e0 := Lib.hid e0; replace hs := Lib.hid hs
  clear hx
  go_enter Try.func14, Try.ntmps14
  go_wp2_with fail
  generalize w.alloc (.cells #[.int .i64 a, .int .i64 b, .slice q n c] 24) = W at *
  go_loopg [5, 10] n (fun gk lv jv W' => ∃ (j k c' : Nat) (p : Option Addr), j ≤ n ∧ gk = n - j ∧ jv = .int .i64 j ∧ lv = .slice p k c' ∧ Own 3 W.heap.size W' p k c' (asI (placesN s a b who j)) ∧ Below W.heap.size W W' ∧ k ≤ j)
  case atStart => exact ⟨0, 0, 0, none, by omega, by omega, rfl, rfl, Own.nil _ _ _, Below.refl _ _, by omega⟩
  case round =>
    obtain ⟨j, k, c', p, hj, hgk, rfl, rfl, hO, hBr, hkj⟩ := hrel
    obtain ⟨W1, rfl⟩ : ∃ W1 : World, W1 = wr := ⟨_, rfl⟩
    replace hgk := Lib.hid hgk
    by_cases hlt : j < n
    · have hjd : decide ((j : Int) < (n : Int)) = true := by simp; omega
      have eb := (hBr.block _ hsz0).trans e0.out
      have d0 : W1.cell? ⟨w.heap.size, 0, none⟩ = some (.int .i64 (a : Int)) := wcell (cs := [_, _, _]) eb 0
      have d1 : W1.cell? ⟨w.heap.size, 1, none⟩ = some (.int .i64 (b : Int)) := wcell (cs := [_, _, _]) eb 1
      have d2 : W1.cell? ⟨w.heap.size, 2, none⟩ = some (.slice q n c) := wcell (cs := [_, _, _]) eb 2
      have HT := Lib.hid (turned_any q n c a b who j s W1 ha1 ha hb1 hb hn.out hw1 hw2 hlt hs.out (hx0.out.below hBr))
      have hpl : Hid (placesN s a b who (j + 1) = placesN s a b who j ++ if turnedS s a b who j = [] then [] else [j]) := rfl
      generalize turnedS s a b who j = T at *
      replace hO := Lib.hid hO; replace hBr := Lib.hid hBr
      clear eb
      go_wp2_with fail
      refine HT.out.mono ?_
      rintro e w2 ⟨p2, c2, rfl, _, hB2⟩
      have hO2 := Lib.hid (hO.out.below hB2 (Nat.le_refl _))
      have hB3 := Lib.hid (hBr.out.trans (hB2.mono hBr.out.size))
      have hz : W.heap.size ≤ w2.heap.size := hB3.out.size
      clear HT d0 d1 d2 hB2 hO hBr
      by_cases hT : T = []
      · have hnew : Hid (placesN s a b who (j + 1) = placesN s a b who j) := by show _ = _; rw [hpl.out, if_pos hT, List.append_nil]
        subst hT
        go_wp2_with fail
        have hgk := hgk.out
        go_roundg (n - (j + 1))
        case measure => omega
        case rel => exact ⟨j + 1, k, c', p, by omega, rfl, by go_num, rfl, by rw [hnew.out]; exact hO2.out, hB3.out, by omega⟩
      · have hpos : 0 < T.length := List.length_pos_iff.2 hT
        have hnew : Hid (placesN s a b who (j + 1) = placesN s a b who j ++ [j]) := by show _ = _; rw [hpl.out, if_neg hT]
        replace hT := Lib.hid hT
        have hposd : decide ((T.length : Int) > 0) = true := by simp; omega
        go_wp2_with (at_builtin; refine wp_append1 intG w2 rfl (.tmp 19) (.tmp 21) rfl W.heap.size p k c' _ rfl hO2.out (j : Int) rfl ?_ hz ?_; (omega); intro p6 c6 w6 hO7 hg6 hr6 hz6)
        have hB7 := Lib.hid (hB3.out.grown hg6 hz (fun x hx => by
          cases p with
          | none => cases hx
          | some y => simp at hx; subst hx; exact (hO2.out.block y rfl).1))
        have e7 : asI (placesN s a b who j) ++ [(j : Int)] = asI (placesN s a b who (j + 1)) := by rw [hnew.out]; simp [asI]
        rw [e7] at hO7
        replace hO7 := Lib.hid hO7
        clear hg6 hr6 hz6 e7
        go_wp2_with fail
        have hgk := hgk.out
        go_roundg (n - (j + 1))
        case measure => omega
        case rel => exact ⟨j + 1, k + 1, c6, p6, by omega, rfl, by go_num, rfl, hO7.out, hB7.out, by omega⟩
    · obtain rfl : n = j := by omega
      have hkl : k = (placesN s a b who n).length := by have := hO.len; rw [asI_len] at this; omega
      have hBB := Lib.hid (hB0.out.trans (hBr.mono hB0.out.size))
      replace hO := Lib.hid hO; replace hkl := Lib.hid hkl
      go_wp2_with fail
      go_ret
      exact ⟨p, c', by rw [← hkl.out]; rfl, by rw [← hkl.out]; exact hO.out.in, hBB.out⟩

theorem chk_yes {W H who : Int} {xs : List Int} (h : chkF W H xs who = 0) : ∃ (a b u : Nat) (s : List Nat), W = a ∧ H = b ∧ who = u ∧ xs = asI s ∧ 4 ≤ a ∧ a ≤ 8 ∧ 4 ≤ b ∧ b ≤ 8 ∧ a % 2 = 0 ∧ b % 2 = 0 ∧ 1 ≤ u ∧ u ≤ 2 ∧ s.length = a * b ∧ ∀ j, st s j ≤ 2 := by
  unfold chkF at h
  split at h
  · rename_i hm
    split at h
    · omega
    · rename_i ho
      split at h
      · omega
      · rename_i hw
        obtain ⟨a, b, s, rfl, rfl, rfl, _, _, _, _, h5, h6⟩ := mayG_yes hm
        unfold oddI at ho
        simp at ho
        exact ⟨a, b, who.toNat, s, rfl, rfl, by omega, rfl, by omega, by omega, by omega, by omega, by omega, by omega, by omega, by omega, h5, h6⟩
  · omega
theorem chk_of {a b u : Nat} {s : List Nat} (h1 : 4 ≤ a) (h2 : a ≤ 8) (h3 : 4 ≤ b) (h4 : b ≤ 8) (h5 : a % 2 = 0) (h6 : b % 2 = 0) (h7 : 1 ≤ u) (h8 : u ≤ 2) (hl : s.length = a * b) (hs : ∀ j, st s j ≤ 2) : chkF a b (asI s) u = 0 := by
  unfold chkF
  rw [if_pos (mayG_of (by omega) (by omega) (by omega) (by omega) hl hs)]
  have e1 : oddI (a : Int) = false := by unfold oddI; simp; omega
  have e2 : oddI (b : Int) = false := by unfold oddI; simp; omega
  rw [e1, e2, if_neg (by simp), if_neg (by omega)]

set_option maxHeartbeats 1000000 in
theorem Places_no (q : Option Addr) (n c : Nat) (W H who : Int) (xs : List Int) (w : World) (hn : n ≤ 9223372036854775807) (hW1 : -9223372036854775808 ≤ W) (hW2 : W ≤ 9223372036854775807) (hH1 : -9223372036854775808 ≤ H) (hH2 : H ≤ 9223372036854775807) (hw1 : -9223372036854775808 ≤ who) (hw2 : who ≤ 9223372036854775807) (hx : IntsIn w q n xs) (e : Int) (he : chkF W H xs who = e) (h0 : e ≠ 0) :
    Calls Try.prog 6 #[.agg #[.int .i64 W, .int .i64 H, .slice q n c], .int .i64 who] w fun e' w' => e' = .returned (.tuple #[.slice none 0 0, .int .i64 e]) ∧ Below w.heap.size w w' := by
  have HC := check_any q n c W H who xs (w.alloc (.cells #[.int .i64 W, .int .i64 H, .slice q n c] 24)) hn hW1 hW2 hH1 hH2 hw1 hw2 (hx.alloc _)
  rw [he] at HC
  have hB0 := Lib.hid ((Below.refl w.heap.size w).alloc (Nat.le_refl _) (.cells #[.int .i64 W, .int .i64 H, .slice q n c] 24))
  have z0 : (e != 0) = true := by simp [h0]
  replace HC := Lib.hid HC; replace he := Lib.hid he; replace h0 := Lib.hid h0
  clear hx
  go_enter Try.func6, Try.ntmps6
  go_wp2_with fail
  generalize w.alloc (.cells #[.int .i64 W, .int .i64 H, .slice q n c] 24) = W0 at *
  refine HC.out.mono ?_
  rintro e' w1 ⟨rfl, hB⟩
  have hB1 := Lib.hid (hB0.out.trans (hB.mono hB0.out.size))
  clear hB
  go_wp2_with fail
  go_ret2
  exact ⟨rfl, hB1.out⟩
set_option maxHeartbeats 1000000 in
theorem Places_yes (q : Option Addr) (n c a b who : Nat) (s : List Nat) (w : World) (h1 : 4 ≤ a) (h2 : a ≤ 8) (h3 : 4 ≤ b) (h4 : b ≤ 8) (h5 : a % 2 = 0) (h6 : b % 2 = 0) (hn : n = a * b) (hw1 : 1 ≤ who) (hw2 : who ≤ 2) (hs : ∀ j, st s j ≤ 2) (hx : IntsIn w q n (asI s)) :
    Calls Try.prog 6 #[.agg #[.int .i64 a, .int .i64 b, .slice q n c], .int .i64 who] w fun e' w' => ∃ p c', e' = .returned (.tuple #[.slice p (placesN s a b who n).length c', .int .i64 0]) ∧ IntsIn w' p (placesN s a b who n).length (asI (placesN s a b who n)) ∧ Below w.heap.size w w' := by
  have hn100 : n ≤ 100 := by rw [hn]; exact Nat.mul_le_mul (show a ≤ 10 by omega) (show b ≤ 10 by omega)
  have hl : s.length = a * b := by have := hx.len; rw [asI_len] at this; omega
  have HC := check_any q n c a b who (asI s) (w.alloc (.cells #[.int .i64 a, .int .i64 b, .slice q n c] 24)) (by omega) (by omega) (by omega) (by omega) (by omega) (by omega) (by omega) (hx.alloc _)
  rw [chk_of h1 h2 h3 h4 h5 h6 hw1 hw2 hl hs] at HC
  have hB0 := Lib.hid ((Below.refl w.heap.size w).alloc (Nat.le_refl _) (.cells #[.int .i64 a, .int .i64 b, .slice q n c] 24))
  have e0 := heap_alloc_new w (.cells #[.int .i64 a, .int .i64 b, .slice q n c] 24)
  have hx0 := hx.alloc (.cells #[.int .i64 a, .int .i64 b, .slice q n c] 24)
  have hsz : w.heap.size < (w.alloc (.cells #[.int .i64 a, .int .i64 b, .slice q n c] 24)).heap.size := by simp
  replace HC := Lib.hid HC; replace hl := Lib.hid hl; replace hn := Lib.hid hn; replace h5 := Lib.hid h5; replace h6 := Lib.hid h6; replace hs := Lib.hid hs
  clear hx
  go_enter Try.func6, Try.ntmps6
  go_wp2_with fail
  generalize w.alloc (.cells #[.int .i64 a, .int .i64 b, .slice q n c] 24) = W0 at *
  refine HC.out.mono ?_
  rintro e' w1 ⟨rfl, hB⟩
  have hB1 := Lib.hid (hB0.out.trans (hB.mono hB0.out.size))
  have e1 := (hB.block _ hsz).trans e0
  have HP := Lib.hid (places_any q n c a b who s w1 (by omega) (by omega) (by omega) (by omega) hn.out hw1 hw2 hs.out (hx0.below hB))
  have d0 : w1.cell? ⟨w.heap.size, 0, none⟩ = some (.int .i64 (a : Int)) := wcell (cs := [_, _, _]) e1 0
  have d1 : w1.cell? ⟨w.heap.size, 1, none⟩ = some (.int .i64 (b : Int)) := wcell (cs := [_, _, _]) e1 1
  have d2 : w1.cell? ⟨w.heap.size, 2, none⟩ = some (.slice q n c) := wcell (cs := [_, _, _]) e1 2
  clear hB hB0 e0 e1 hx0 hsz HC
  go_wp2_with fail
  refine HP.out.mono ?_
  rintro e' w2 ⟨p, c', rfl, hp, hB⟩
  have hB2 := Lib.hid (hB1.out.trans (hB.mono hB1.out.size))
  replace hp := Lib.hid hp
  clear hB d0 d1 d2
  go_wp2_with fail
  go_ret2
  exact ⟨p, c', rfl, hp.out, hB2.out⟩
end Go.Proofs.Ytlhbbkjplecghaa
