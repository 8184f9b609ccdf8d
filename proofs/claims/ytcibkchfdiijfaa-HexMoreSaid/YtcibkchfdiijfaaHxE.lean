import Derived.Test.YtcibkchfdiijfaaHxT
/- hex.check, hex.player, hex.Joined; conditions: numbers that an int holds. -/
namespace Go.Proofs.Ytcibkchfdiijfaa
open Go.RowKit Go.Shelf

def okH (W H : Int) (xs : List Int) : Bool := mayG W H xs && (W == H)
theorem okH_yes {W H : Int} {xs : List Int} (h : okH W H xs = true) : ∃ (n : Nat) (s : List Nat), W = n ∧ H = n ∧ xs = asI s ∧ 1 ≤ n ∧ n ≤ 10 ∧ s.length = n * n ∧ ∀ j, st s j ≤ 2 := by
  unfold okH at h
  rw [Bool.and_eq_true] at h
  obtain ⟨a, b, s, h1, h2, h3, h4, h5, h6, h7, h8, h9⟩ := mayG_yes h.1
  have h10 := h.2
  rw [h1, h2] at h10
  simp at h10
  obtain rfl : a = b := by omega
  exact ⟨a, s, h1, h2, h3, h4, h5, h8, h9⟩
theorem okH_of {n : Nat} {s : List Nat} (h1 : 1 ≤ n) (h2 : n ≤ 10) (hl : s.length = n * n) (hs : ∀ j, st s j ≤ 2) : okH n n (asI s) = true := by
  unfold okH
  rw [mayG_of h1 h2 h1 h2 hl hs]; simp
theorem check_any (q : Option Addr) (n c : Nat) (W H : Int) (xs : List Int) (w : World) (hn : n ≤ 9223372036854775807) (hW1 : -9223372036854775808 ≤ W) (hW2 : W ≤ 9223372036854775807) (hH1 : -9223372036854775808 ≤ H) (hH2 : H ≤ 9223372036854775807) (hx : IntsIn w q n xs) :
    Calls Try.prog 16 #[.agg #[.int .i64 W, .int .i64 H, .slice q n c]] w fun e w' => e = .returned (.int .i64 (if okH W H xs then 0 else 12)) ∧ Below w.heap.size w w' := by
  have hB0 : Below w.heap.size w (w.alloc (.cells #[.int .i64 W, .int .i64 H, .slice q n c] 24)) := (Below.refl _ w).alloc (Nat.le_refl _) _
  have HM := Lib.hid (may_any q n c W H xs (w.alloc (.cells #[.int .i64 W, .int .i64 H, .slice q n c] 24)) hn hW1 hW2 hH1 hH2 (hx.below hB0))
  have ha := heap_alloc_new w (.cells #[.int .i64 W, .int .i64 H, .slice q n c] 24)
  obtain ⟨w1, hw1⟩ : ∃ w1 : World, w1 = w.alloc (.cells #[.int .i64 W, .int .i64 H, .slice q n c] 24) := ⟨_, rfl⟩
  rw [← hw1] at HM hB0 ha
  have hs1 : w.heap.size < w1.heap.size := by rw [hw1]; simp
  have hok : okH W H xs = (mayG W H xs && (W == H)) := rfl
  rw [hok]
  replace hok := Lib.hid hok
  generalize mayG W H xs = M at *
  replace hB0 := Lib.hid hB0
  cases M with
  | false =>
    go_enter Try.func16, Try.ntmps16
    go_wp2_with (go_at_call 28; rw [← hw1]; (with_reducible refine HM.out.mono ?_); rintro e w2 ⟨rfl, hB⟩; replace hB := Lib.hid hB)
    go_ret
    exact ⟨by simp, hB0.out.trans (hB.out.mono (Nat.le_of_lt hs1))⟩
  | true =>
    by_cases hWH : W = H
    · have e1 : (W != H) = false := by rw [hWH]; simp
      have e2 : (W == H) = true := by rw [hWH]; simp
      replace hWH := Lib.hid hWH
      go_enter Try.func16, Try.ntmps16
      go_wp2_with (go_at_call 28; rw [← hw1]; (with_reducible refine HM.out.mono ?_); rintro e w2 ⟨rfl, hB⟩; have hb := (hB.block _ (lt_of_heap ha)).trans ha; have b0 := wcell (cs := [_, _, _]) hb 0; have b1 := wcell (cs := [_, _, _]) hb 1; simp only [List.getElem?_cons_zero, List.getElem?_cons_succ] at b0 b1; replace hb := Lib.hid hb; replace hB := Lib.hid hB)
      go_ret
      exact ⟨rfl, hB0.out.trans (hB.out.mono (Nat.le_of_lt hs1))⟩
    · have e1 : (W != H) = true := by simp [hWH]
      have e2 : (W == H) = false := by simp [hWH]
      replace hWH := Lib.hid hWH
      go_enter Try.func16, Try.ntmps16
      go_wp2_with (go_at_call 28; rw [← hw1]; (with_reducible refine HM.out.mono ?_); rintro e w2 ⟨rfl, hB⟩; have hb := (hB.block _ (lt_of_heap ha)).trans ha; have b0 := wcell (cs := [_, _, _]) hb 0; have b1 := wcell (cs := [_, _, _]) hb 1; simp only [List.getElem?_cons_zero, List.getElem?_cons_succ] at b0 b1; replace hb := Lib.hid hb; replace hB := Lib.hid hB)
      all_goals go_ret
      all_goals exact ⟨rfl, hB0.out.trans (hB.out.mono (Nat.le_of_lt hs1))⟩
theorem player_any (q : Option Addr) (n c who : Nat) (W H : Int) (xs : List Int) (w : World) (hn : n ≤ 9223372036854775807) (hW1 : -9223372036854775808 ≤ W) (hW2 : W ≤ 9223372036854775807) (hH1 : -9223372036854775808 ≤ H) (hH2 : H ≤ 9223372036854775807) (hx : IntsIn w q n xs) (hwho : who = 1 ∨ who = 2) :
    Calls Try.prog 12 #[.agg #[.int .i64 W, .int .i64 H, .slice q n c], .int .i64 (who : Int)] w fun e w' => e = .returned (.int .i64 (if okH W H xs then 0 else 12)) ∧ Below w.heap.size w w' := by
  have hB0 : Below w.heap.size w (w.alloc (.cells #[.int .i64 W, .int .i64 H, .slice q n c] 24)) := (Below.refl _ w).alloc (Nat.le_refl _) _
  have HM := Lib.hid (check_any q n c W H xs (w.alloc (.cells #[.int .i64 W, .int .i64 H, .slice q n c] 24)) hn hW1 hW2 hH1 hH2 (hx.below hB0))
  obtain ⟨w1, hw1⟩ : ∃ w1 : World, w1 = w.alloc (.cells #[.int .i64 W, .int .i64 H, .slice q n c] 24) := ⟨_, rfl⟩
  rw [← hw1] at HM hB0
  have hs1 : w.heap.size < w1.heap.size := by rw [hw1]; simp
  generalize okH W H xs = M at *
  replace hB0 := Lib.hid hB0
  cases M with
  | false =>
    rw [if_neg (by simp)] at HM ⊢
    go_enter Try.func12, Try.ntmps12
    go_wp2_with (go_at_call 16; rw [← hw1]; (with_reducible refine HM.out.mono ?_); rintro e w2 ⟨rfl, hB⟩; replace hB := Lib.hid hB)
    go_ret
    exact ⟨rfl, hB0.out.trans (hB.out.mono (Nat.le_of_lt hs1))⟩
  | true =>
    rw [if_pos rfl] at HM ⊢
    go_enter Try.func12, Try.ntmps12
    rcases hwho with rfl | rfl
    · go_wp2_with (go_at_call 16; rw [← hw1]; (with_reducible refine HM.out.mono ?_); rintro e w2 ⟨rfl, hB⟩; replace hB := Lib.hid hB)
      go_ret
      exact ⟨rfl, hB0.out.trans (hB.out.mono (Nat.le_of_lt hs1))⟩
    · go_wp2_with (go_at_call 16; rw [← hw1]; (with_reducible refine HM.out.mono ?_); rintro e w2 ⟨rfl, hB⟩; replace hB := Lib.hid hB)
      go_ret
      exact ⟨rfl, hB0.out.trans (hB.out.mono (Nat.le_of_lt hs1))⟩
theorem Joined_no (q : Option Addr) (n c : Nat) (W H : Int) (xs : List Int) (w : World) (hn : n ≤ 9223372036854775807) (hW1 : -9223372036854775808 ≤ W) (hW2 : W ≤ 9223372036854775807) (hH1 : -9223372036854775808 ≤ H) (hH2 : H ≤ 9223372036854775807) (hx : IntsIn w q n xs) (hno : okH W H xs = false) :
    Calls Try.prog 10 #[.agg #[.int .i64 W, .int .i64 H, .slice q n c]] w fun e w' => e = .returned (.tuple #[.int .i64 0, .slice none 0 0, .int .i64 12]) ∧ Below w.heap.size w w' := by
  have hB0 : Below w.heap.size w (w.alloc (.cells #[.int .i64 W, .int .i64 H, .slice q n c] 24)) := (Below.refl _ w).alloc (Nat.le_refl _) _
  have HM := Lib.hid (check_any q n c W H xs (w.alloc (.cells #[.int .i64 W, .int .i64 H, .slice q n c] 24)) hn hW1 hW2 hH1 hH2 (hx.below hB0))
  obtain ⟨w1, hw1⟩ : ∃ w1 : World, w1 = w.alloc (.cells #[.int .i64 W, .int .i64 H, .slice q n c] 24) := ⟨_, rfl⟩
  rw [← hw1] at HM hB0
  have hs1 : w.heap.size < w1.heap.size := by rw [hw1]; simp
  rw [hno, if_neg (by simp)] at HM
  replace hB0 := Lib.hid hB0
  go_enter Try.func10, Try.ntmps10
  go_wp2_with (go_at_call 16; rw [← hw1]; (with_reducible refine HM.out.mono ?_); rintro e w2 ⟨rfl, hB⟩; replace hB := Lib.hid hB)
  go_ret3
  exact ⟨rfl, hB0.out.trans (hB.out.mono (Nat.le_of_lt hs1))⟩
theorem Joined_yes (q : Option Addr) (n N c : Nat) (s : List Nat) (w : World) (hN : N = n * n) (h1 : 1 ≤ n) (h2 : n ≤ 10) (hs : s.length = N) (hx : IntsIn w q N (asI s)) (hs2 : ∀ j, st s j ≤ 2) :
    Calls Try.prog 10 #[.agg #[.int .i64 (n : Int), .int .i64 (n : Int), .slice q N c]] w fun e w' => ∃ (j : Nat) (p : Option Addr) (l cc : Nat), e = .returned (.tuple #[.int .i64 (j : Int), .slice p l cc, .int .i64 0]) ∧ JoinI n s j ∧ (j ≠ 0 → n ≤ l) ∧ l ≤ 10000 ∧ Below w.heap.size w w' := by
  have hB0 : Below w.heap.size w (w.alloc (.cells #[.int .i64 (n : Int), .int .i64 (n : Int), .slice q N c] 24)) := (Below.refl _ w).alloc (Nat.le_refl _) _
  have hN100 : N ≤ 100 := by rw [hN]; exact Nat.mul_le_mul h2 h2
  have HM := Lib.hid (check_any q N c (n : Int) (n : Int) (asI s) (w.alloc (.cells #[.int .i64 (n : Int), .int .i64 (n : Int), .slice q N c] 24)) (by omega) (by omega) (by omega) (by omega) (by omega) (hx.below hB0))
  have ha := heap_alloc_new w (.cells #[.int .i64 (n : Int), .int .i64 (n : Int), .slice q N c] 24)
  obtain ⟨w1, hw1⟩ : ∃ w1 : World, w1 = w.alloc (.cells #[.int .i64 (n : Int), .int .i64 (n : Int), .slice q N c] 24) := ⟨_, rfl⟩
  rw [← hw1] at HM hB0 ha
  have hs1 : w.heap.size < w1.heap.size := by rw [hw1]; simp
  rw [okH_of h1 h2 (by rw [hs, hN]) hs2, if_pos rfl] at HM
  have HJ : Hid (∀ w2 : World, Below w.heap.size w w2 → Calls Try.prog 14 #[.agg #[.int .i64 (n : Int), .int .i64 (n : Int), .slice q N c]] w2 fun e w' => ∃ (j : Nat) (p : Option Addr) (l cc : Nat), e = .returned (.tuple #[.int .i64 (j : Int), .slice p l cc]) ∧ JoinI n s j ∧ (j ≠ 0 → n ≤ l) ∧ l ≤ 10000 ∧ Below w2.heap.size w2 w') := fun w2 hB => by
    have := joined_any n q c s w2 h1 h2 (by rw [hs, hN]) (by rw [← hN]; exact hx.below hB) hs2
    rw [← hN] at this; exact this
  replace hB0 := Lib.hid hB0; replace hN := Lib.hid hN; replace hs := Lib.hid hs
  clear hx hs2
  go_enter Try.func10, Try.ntmps10
  go_wp2_with (first
    | (go_at_call 16; rw [← hw1]; (with_reducible refine HM.out.mono ?_); rintro e w2 ⟨rfl, hB⟩; have hb := (hB.block _ (lt_of_heap ha)).trans ha; have b0 := wcell (cs := [_, _, _]) hb 0; have b1 := wcell (cs := [_, _, _]) hb 1; have b2 := wcell (cs := [_, _, _]) hb 2; have hB2 := hB0.out.trans (hB.mono (Nat.le_of_lt hs1)); simp only [List.getElem?_cons_zero, List.getElem?_cons_succ] at b0 b1 b2; replace hb := Lib.hid hb; replace hB2 := Lib.hid hB2; replace hB := Lib.hid hB)
    | (go_at_call 14; (with_reducible refine (HJ.out _ hB2.out).mono ?_); rintro e w3 ⟨j, p, l, cc, rfl, hJI, hjl, hl4, hB3⟩; replace hB3 := Lib.hid hB3; replace hJI := Lib.hid hJI; replace hjl := Lib.hid hjl))
  go_ret3
  exact ⟨j, p, l, cc, rfl, hJI.out, hjl.out, hl4, hB2.out.trans (hB3.out.mono hB2.out.size)⟩
end Go.Proofs.Ytcibkchfdiijfaa
