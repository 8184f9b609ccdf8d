/- What othello.put and Put compute at a place where a move turns; conditions: a board of 4 to 8 by 4 to 8 places, both even, whose signs are 0 to 2. -/
import Derived.Test.YtlhbbkjplecghaaOPlc
import Derived.Lib.LazyBuf
namespace Go.Proofs.Ytlhbbkjplecghaa
open Go.RowKit

set_option maxHeartbeats 400000 in
theorem clone_any (p : Option Addr) (n c : Nat) (xs : List Int) (w : World) (hn : n < 1099511627776) (hx : IntsIn w p n xs) :
    Calls Try.prog 20 #[.slice p n c] w fun e w' => ∃ p' c', e = .returned (.slice p' n c') ∧ Own 3 w.heap.size w' p' n c' xs ∧ Below w.heap.size w w' := by
  have hl := hx.len
  have he := fun W : World => run_eql_slice_nil (P := Try.prog) W 22 3 p n c Try.underlying22
  cases p with
  | none =>
    have h0 : n = 0 := by
      rcases Nat.eq_zero_or_pos n with h | h
      · exact h
      · obtain ⟨b, o, e, _⟩ := hx.at h; cases e
    subst h0
    have hxs : Hid (xs = []) := List.eq_nil_of_length_eq_zero hl
    clear hx hl
    go_enter Try.func20, Try.ntmps20
    go_wp2
    go_ret
    exact ⟨none, 0, rfl, by rw [hxs.out]; exact Own.nil _ _ _, Below.refl _ _⟩
  | some ad =>
    have hin := Lib.hid (hx.alloc (.cells #[] 3))
    clear hx
    replace hl := Lib.hid hl
    go_enter Try.func20, Try.ntmps20
    go_wp2_with (at_builtin; refine wp_appendL intG _ rfl _ _ rfl w.heap.size _ 0 0 [] rfl (Own.empty 3 w) ad n c xs rfl hin.out (by omega) (by simp) ?_; intro p' c' w2 hO hg _ hz)
    have hB : Below w.heap.size w w2 := ((Below.refl _ w).alloc (Nat.le_refl _) _).grown hg (by simp) (fun x hx => by cases hx; exact Nat.le_refl _)
    replace hO := Lib.hid hO; replace hB := Lib.hid hB
    clear hg hz
    go_wp2
    go_ret
    exact ⟨p', c', by simp, by simpa using hO.out, hB.out⟩

theorem rayL_len (s : List Nat) (a b who : Nat) (dx dy : Int) : ∀ (f : Nat) (x y : Int) (acc : List Nat), (rayL s a b who dx dy f x y acc).length ≤ acc.length + f := by
  intro f
  induction f with
  | zero => intro x y acc; simp [rayL]
  | succ f ih =>
    intro x y acc
    rw [rayL]
    split
    · split
      · have := ih (x + dx) (y + dy) (acc ++ [pl a (x + dx) (y + dy)])
        rw [List.length_append, List.length_singleton] at this
        omega
      · split
        · omega
        · exact Nat.zero_le _
    · exact Nat.zero_le _
theorem turned_len (s : List Nat) (a b who at0 : Nat) : (turnedS s a b who at0).length ≤ 88 := by
  have hN : ∀ j, (turnedN s a b who at0 j).length ≤ 11 * j := by
    intro j
    induction j with
    | zero => simp [turnedN]
    | succ j ih =>
      have := rayL_len s a b who (dxs j) (dys j) 11 ((at0 % a : Nat) : Int) ((at0 / a : Nat) : Int) []
      rw [turnedN, List.length_append]
      unfold rayAt
      rw [List.length_nil, Nat.zero_add] at this
      omega
  unfold turnedS
  split
  · exact hN 8
  · simp
theorem setAll_snoc (who : Nat) : ∀ (l s : List Nat) (x : Nat), setAll who s (l ++ [x]) = (setAll who s l).set x who := by
  intro l
  induction l with
  | nil => intro s x; rfl
  | cons p l ih => intro s x; simp only [List.cons_append, setAll, ih]
theorem Own.putN {E B g n c : Nat} {w : World} {l : List Nat} (h : Own E B w (some ⟨g, 0, none⟩) n c (asI l)) (i : Nat) (v : Nat) : Own E B (w.setCell ⟨g, i, none⟩ (.int .i64 (v : Int))) (some ⟨g, 0, none⟩) n c (asI (l.set i v)) := by
  have h2 := OwnC.set (k := 1) h i (.int .i64 (v : Int))
  unfold Own
  rw [asI_set, List.map_set]
  exact h2
theorem Own.cellN {E B g n c : Nat} {w : World} {l : List Nat} (h : Own E B w (some ⟨g, 0, none⟩) n c (asI l)) {i : Nat} (hi : i < n) : w.cell? ⟨g, i, none⟩ = some (.int .i64 (st l i : Nat)) := by
  have := h.in.cellN hi
  rwa [Nat.zero_add] at this

set_option maxRecDepth 20000 in
set_option maxHeartbeats 4000000 in
theorem put_any (q : Option Addr) (n c a b who at0 : Nat) (s : List Nat) (w : World) (ha1 : 1 ≤ a) (ha : a ≤ 10) (hb1 : 1 ≤ b) (hb : b ≤ 10) (hn : n = a * b) (hw1 : 1 ≤ who) (hw2 : who ≤ 2) (hat : at0 < n) (hs : ∀ j, st s j ≤ 2) (hx : IntsIn w q n (asI s)) :
    Calls Try.prog 16 #[.agg #[.int .i64 a, .int .i64 b, .slice q n c], .int .i64 who, .int .i64 at0] w fun e w' => ∃ p c', e = .returned (.agg #[.int .i64 a, .int .i64 b, .slice p n c']) ∧ IntsIn w' p n (asI (putS s a b who at0)) ∧ n ≤ c' ∧ Below w.heap.size w w' := by
  have hn100 : n ≤ 100 := by rw [hn]; exact Nat.mul_le_mul ha hb
  obtain ⟨a0, b0⟩ := heap2 w (.cells #[.int .i64 a, .int .i64 b, .slice q n c] 24) (.cells #[.int .i64 0, .int .i64 0, .slice none 0 0] 24)
  have hx0 := (hx.alloc (.cells #[.int .i64 a, .int .i64 b, .slice q n c] 24)).alloc (.cells #[.int .i64 0, .int .i64 0, .slice none 0 0] 24)
  have hB0 := Lib.hid (below2 w (.cells #[.int .i64 a, .int .i64 b, .slice q n c] 24) (.cells #[.int .i64 0, .int .i64 0, .slice none 0 0] 24))
  have hsz0 : w.heap.size + 1 < ((w.alloc (.cells #[.int .i64 a, .int .i64 b, .slice q n c] 24)).alloc (.cells #[.int .i64 0, .int .i64 0, .slice none 0 0] 24)).heap.size := by simp
  have hl : s.length = n := by have := hx.len; rwa [asI_len] at this
  have hpu : Hid (putS s a b who at0 = setAll who (s.set at0 who) (turnedS s a b who at0)) := rfl
  have hmem := Lib.hid (turned_mem s a b who at0)
  have hTl := turned_len s a b who at0
  have HT := turned_any q n c a b who at0 s ((w.alloc (.cells #[.int .i64 a, .int .i64 b, .slice q n c] 24)).alloc (.cells #[.int .i64 0, .int .i64 0, .slice none 0 0] 24)) ha1 ha hb1 hb hn hw1 hw2 hat hs hx0
  generalize turnedS s a b who at0 = T at *
  replace HT := Lib.hid HT; replace hn := Lib.hid hn; replace hl := Lib.hid hl; replace hs := Lib.hid hs
  clear hx
  go_enter Try.func16, Try.ntmps16
  go_wp2_with fail
  generalize ((w.alloc (.cells #[.int .i64 a, .int .i64 b, .slice q n c] 24)).alloc (.cells #[.int .i64 0, .int .i64 0, .slice none 0 0] 24)) = W at *
  refine HT.out.mono ?_
  rintro e w1 ⟨pT, cT, rfl, hT, hB⟩
  have hB1 := Lib.hid (hB0.out.trans (hB.mono hB0.out.size))
  have a1 := (hB.block _ (by omega)).trans a0
  have b1 := (hB.block _ (by omega)).trans b0
  have hsz1 := Nat.lt_of_lt_of_le hsz0 hB.size
  have HC := Lib.hid (clone_any q n c (asI s) w1 (by omega) (hx0.below hB))
  have d2 : w1.cell? ⟨w.heap.size, 2, none⟩ = some (.slice q n c) := wcell (cs := [_, _, _]) a1 2
  replace hT := Lib.hid hT
  have hsz0' := Lib.hid hsz0
  clear hB hB0 a0 b0 hsz0 hx0 HT
  go_wp2_with fail
  refine HC.out.mono ?_
  rintro e w2 ⟨p2, c2, rfl, hO, hB⟩
  obtain ⟨g2, rfl, hg2a, hg2b, hnc2⟩ := Own.where hO (by omega)
  have hB2 := Lib.hid (hB1.out.trans (hB.mono hB1.out.size))
  have a2 := (hB.block _ (by omega)).trans a1
  have b2 := (hB.block _ (by omega)).trans b1
  have hT2 := Lib.hid (OwnC.below (k := 1) hT.out hB (Nat.le_refl _))
  have hWs : w.heap.size + 1 < W.heap.size := hsz0'.out
  have m2 : w2.cell? ⟨w.heap.size, 2, none⟩ = some (.slice q n c) := wcell (cs := [_, _, _]) a2 2
  have f2 : w2.frozen? ⟨w.heap.size, 2, none⟩ = false := wfree a2 2
  have a3 := wset a2 2 (.slice (some ⟨g2, 0, none⟩) n c2)
  have b3 := (wset_ne (p := ⟨w.heap.size, 2, none⟩) (w := w2) (.slice (some ⟨g2, 0, none⟩) n c2) (Nat.ne_of_gt (Nat.lt_succ_self w.heap.size))).trans b2
  have hB3 := Lib.hid (hB2.out.setCell (p := ⟨w.heap.size, 2, none⟩) (Nat.le_refl _) (.slice (some ⟨g2, 0, none⟩) n c2))
  have hO := OwnC.mono (k := 1) hO (show w.heap.size + 2 ≤ w1.heap.size by omega)
  have hO : Own 3 (w.heap.size + 2) w2 (some ⟨g2, 0, none⟩) n c2 (asI s) := hO
  have hTb : ∀ a, pT = some a → a.block < g2 := fun a ha => Nat.lt_of_lt_of_le (OwnC.block (k := 1) hT.out a ha).2 hg2a
  have hne : Hid (∀ gT : Nat, pT = some ⟨gT, 0, none⟩ → gT ≠ g2) := fun gT h => Nat.ne_of_lt (hTb _ h)
  have hO3 := hO.keep (w' := w2.setCell ⟨w.heap.size, 2, none⟩ (.slice (some ⟨g2, 0, none⟩) n c2)) (fun a ha => by cases ha; exact wset_ne _ _ (by show g2 ≠ w.heap.size; omega))
  have hT2 := Lib.hid (OwnC.mono (k := 1) hT2.out (show w.heap.size + 2 ≤ W.heap.size by omega))
  have hT3 := Lib.hid (OwnC.keep (k := 1) hT2.out (w' := w2.setCell ⟨w.heap.size, 2, none⟩ (.slice (some ⟨g2, 0, none⟩) n c2)) (fun a ha => wset_ne _ _ (by
    have := (OwnC.block (k := 1) hT2.out a ha).1
    show a.block ≠ w.heap.size
    omega)))
  replace hO3 := Lib.hid hO3; replace a3 := Lib.hid a3; replace b3 := Lib.hid b3
  have hsz3 : w.heap.size + 1 < (w2.setCell ⟨w.heap.size, 2, none⟩ (.slice (some ⟨g2, 0, none⟩) n c2)).heap.size := by simp [World.setCell]; have := hB2.out.size; exact Nat.lt_of_lt_of_le hsz1 hB.size
  have hg2c : g2 < (w2.setCell ⟨w.heap.size, 2, none⟩ (.slice (some ⟨g2, 0, none⟩) n c2)).heap.size := by simpa [World.setCell] using hg2b
  clear hB hB1 a1 b1 hT d2 HC hO a2 b2 hB2 hT2 hg2b
  have k0 := hO3.out.cellN hat
  have kf := Own.free hO3.out at0
  have hO4 := Lib.hid (hO3.out.putN at0 who)
  have a4 := Lib.hid ((wset_ne (p := ⟨g2, at0, none⟩) (w := (w2.setCell ⟨w.heap.size, 2, none⟩ (.slice (some ⟨g2, 0, none⟩) n c2))) (.int .i64 (who : Int)) (by show w.heap.size ≠ g2; omega)).trans a3.out)
  have b4 := Lib.hid ((wset_ne (p := ⟨g2, at0, none⟩) (w := (w2.setCell ⟨w.heap.size, 2, none⟩ (.slice (some ⟨g2, 0, none⟩) n c2))) (.int .i64 (who : Int)) (by show w.heap.size + 1 ≠ g2; omega)).trans b3.out)
  have hB4 := Lib.hid (hB3.out.setCell (p := ⟨g2, at0, none⟩) (by show w.heap.size ≤ g2; omega) (.int .i64 (who : Int)))
  have hT4 := Lib.hid (OwnC.keep (k := 1) hT3.out (w' := (w2.setCell ⟨w.heap.size, 2, none⟩ (.slice (some ⟨g2, 0, none⟩) n c2)).setCell ⟨g2, at0, none⟩ (.int .i64 (who : Int))) (fun a ha => wset_ne _ _ (by
    have := hTb a ha
    show a.block ≠ g2
    omega)))
  have hsz4 : w.heap.size + 1 < ((w2.setCell ⟨w.heap.size, 2, none⟩ (.slice (some ⟨g2, 0, none⟩) n c2)).setCell ⟨g2, at0, none⟩ (.int .i64 (who : Int))).heap.size := by simpa [World.setCell] using hsz3
  go_wp2_with fail
  generalize ((w2.setCell ⟨w.heap.size, 2, none⟩ (.slice (some ⟨g2, 0, none⟩) n c2)).setCell ⟨g2, at0, none⟩ (.int .i64 (who : Int))) = W4 at *
  clear k0 kf hO3 a3 b3 hB3 hT3 m2 f2 hsz3 hg2c hTb
  have hlT : (s.set at0 who).length = n := by rw [List.length_set]; exact hl.out
  go_loopg [25] T.length (fun gk jv W' => ∃ j : Nat, j ≤ T.length ∧ gk = T.length - j ∧ jv = .int .i64 j ∧ Own 3 (w.heap.size + 2) W' (some ⟨g2, 0, none⟩) n c2 (asI (setAll who (s.set at0 who) (T.take j))) ∧ Below w.heap.size w W' ∧ W'.heap[w.heap.size]? = some (.cells #[.int .i64 (a : Int), .int .i64 (b : Int), .slice (some ⟨g2, 0, none⟩) n c2] 24) ∧ W'.heap[w.heap.size + 1]? = some (.cells #[.int .i64 0, .int .i64 0, .slice none 0 0] 24) ∧ Own 3 (w.heap.size + 2) W' pT T.length cT (asI T))
  case atStart => exact ⟨0, by omega, by omega, rfl, hO4.out, hB4.out, by simpa using a4.out, b4.out, hT4.out⟩
  case round =>
    clear hO4 hB4 a4 b4 hT4 hsz4
    obtain ⟨j, hj, hgk, rfl, hO, hBr, ar, br, hTr⟩ := hrel
    obtain ⟨W1, rfl⟩ : ∃ W1 : World, W1 = wr := ⟨_, rfl⟩
    replace hgk := Lib.hid hgk
    by_cases hlt : j < T.length
    · obtain ⟨gT, rfl, hgTa, hgTb, _⟩ := OwnC.where (k := 1) hTr (by omega)
      have hp := hmem.out T[j] (List.getElem_mem hlt)
      have k1 : W1.cell? ⟨gT, j, none⟩ = some (.int .i64 ((T[j] : Nat) : Int)) := by
        have := Own.cellN hTr hlt
        unfold st at this
        rw [List.getElem?_eq_getElem hlt] at this
        exact this
      have hsn := setAll_snoc who (T.take j) (s.set at0 who) T[j]
      rw [← List.take_succ_eq_append_getElem hlt] at hsn
      generalize T[j] = P at *
      have hPn : P < n := by rw [hn.out]; exact hp.2
      have d2 : W1.cell? ⟨w.heap.size, 2, none⟩ = some (.slice (some ⟨g2, 0, none⟩) n c2) := wcell (cs := [_, _, _]) ar 2
      have k2 := hO.cellN hPn
      have k3 := Own.free hO P
      have hO5 := Lib.hid (hO.putN P who)
      rw [← hsn] at hO5
      have g2w : w.heap.size + 2 ≤ g2 := (OwnC.block (k := 1) hO _ rfl).1
      have ar5 := (wset_ne (p := ⟨g2, P, none⟩) (w := W1) (.int .i64 (who : Int)) (by show w.heap.size ≠ g2; omega)).trans ar
      have br5 := (wset_ne (p := ⟨g2, P, none⟩) (w := W1) (.int .i64 (who : Int)) (by show w.heap.size + 1 ≠ g2; omega)).trans br
      have hB5 := hBr.setCell (p := ⟨g2, P, none⟩) (by show w.heap.size ≤ g2; omega) (.int .i64 (who : Int))
      have hT5 := OwnC.keep (k := 1) hTr (w' := W1.setCell ⟨g2, P, none⟩ (.int .i64 (who : Int))) (fun a ha => wset_ne _ _ (by cases ha; exact hne.out gT rfl))
      replace ar5 := Lib.hid ar5; replace br5 := Lib.hid br5; replace hB5 := Lib.hid hB5; replace hT5 := Lib.hid hT5; replace hsn := Lib.hid hsn; replace hp := Lib.hid hp
      clear hO hBr ar br hTr
      go_wp2_with fail
      have hgk := hgk.out
      go_roundg (T.length - (j + 1))
      case measure => omega
      case rel => exact ⟨j + 1, by omega, rfl, by go_num, hO5.out, hB5.out, ar5.out, br5.out, hT5.out⟩
    · have hjT : T.take j = T := List.take_of_length_le (Nat.le_of_not_lt hlt)
      rw [hjT, ← hpu.out] at hO
      replace hjT := Lib.hid hjT
      have d0 : W1.cell? ⟨w.heap.size, 0, none⟩ = some (.int .i64 (a : Int)) := wcell (cs := [_, _, _]) ar 0
      have d1 : W1.cell? ⟨w.heap.size, 1, none⟩ = some (.int .i64 (b : Int)) := wcell (cs := [_, _, _]) ar 1
      have d2 : W1.cell? ⟨w.heap.size, 2, none⟩ = some (.slice (some ⟨g2, 0, none⟩) n c2) := wcell (cs := [_, _, _]) ar 2
      replace hO := Lib.hid hO; replace hTr := Lib.hid hTr; replace hBr := Lib.hid hBr
      have m0 : W1.cell? ⟨w.heap.size + 1, 0, none⟩ = some (.int .i64 0) := wcell (cs := [_, _, _]) br 0
      have m1 : W1.cell? ⟨w.heap.size + 1, 1, none⟩ = some (.int .i64 0) := wcell (cs := [_, _, _]) br 1
      have m2 : W1.cell? ⟨w.heap.size + 1, 2, none⟩ = some (.slice none 0 0) := wcell (cs := [_, _, _]) br 2
      have f0 : W1.frozen? ⟨w.heap.size + 1, 0, none⟩ = false := wfree br 0
      have f1 : W1.frozen? ⟨w.heap.size + 1, 1, none⟩ = false := wfree br 1
      have f2 : W1.frozen? ⟨w.heap.size + 1, 2, none⟩ = false := wfree br 2
      have z := wset (wset (wset br 0 (.int .i64 (a : Int))) 1 (.int .i64 (b : Int))) 2 (.slice (some ⟨g2, 0, none⟩) n c2)
      have r0 := wcell (cs := [.int .i64 (a : Int), .int .i64 (b : Int), .slice (some ⟨g2, 0, none⟩) n c2]) (by simpa using z) 0
      have r1 := wcell (cs := [.int .i64 (a : Int), .int .i64 (b : Int), .slice (some ⟨g2, 0, none⟩) n c2]) (by simpa using z) 1
      have r2 := wcell (cs := [.int .i64 (a : Int), .int .i64 (b : Int), .slice (some ⟨g2, 0, none⟩) n c2]) (by simpa using z) 2
      have hB9 := Lib.hid (((hBr.out.setCell (p := ⟨w.heap.size + 1, 0, none⟩) (Nat.le_succ _) (.int .i64 (a : Int))).setCell (p := ⟨w.heap.size + 1, 1, none⟩) (Nat.le_succ _) (.int .i64 (b : Int))).setCell (p := ⟨w.heap.size + 1, 2, none⟩) (Nat.le_succ _) (.slice (some ⟨g2, 0, none⟩) n c2))
      have g2w : w.heap.size + 2 ≤ g2 := (OwnC.block (k := 1) hO.out _ rfl).1
      have hx9 := Lib.hid (hO.out.in.keep (w' := ((W1.setCell ⟨w.heap.size + 1, 0, none⟩ (.int .i64 (a : Int))).setCell ⟨w.heap.size + 1, 1, none⟩ (.int .i64 (b : Int))).setCell ⟨w.heap.size + 1, 2, none⟩ (.slice (some ⟨g2, 0, none⟩) n c2)) (by simp [World.setCell]) (fun b o e => by
        cases e
        rw [wset_ne _ _ (by show g2 ≠ w.heap.size + 1; omega), wset_ne _ _ (by show g2 ≠ w.heap.size + 1; omega), wset_ne _ _ (by show g2 ≠ w.heap.size + 1; omega)]))
      replace r0 := Lib.hid r0; replace r1 := Lib.hid r1; replace r2 := Lib.hid r2
      clear z ar br
      go_wp2_with fail
      refine bodyPost_ret (v := .agg #[.int .i64 (a : Int), .int .i64 (b : Int), .slice (some ⟨g2, 0, none⟩) n c2]) (by simp [results, Try.results16, go_sem, r0.out, r1.out, r2.out]) rfl ⟨some ⟨g2, 0, none⟩, c2, rfl, hx9.out, hnc2, hB9.out⟩
end Go.Proofs.Ytlhbbkjplecghaa
