/- What stones.Put, stones.Group and gameroomkeep.free compute at boards that may be; conditions: a board of 1 to 10 by 1 to 10 places, signs 0 to 2. -/
import Derived.Test.YtefjliblaeadfaaPut
import Derived.Test.YtefjliblaeadfaaAPl
namespace Go.Proofs.Ytefjliblaeadfaa
open Go.RowKit

/-- what a stone that is put tells. -/
def PutP (a b n : Nat) (R : List Nat × Nat × Nat) (w : World) (e : Ending) (w' : World) : Prop :=
  (((R.2.2 = 6 ∨ R.2.2 = 8) ∧ e = .returned (.tuple #[.agg #[.int .i64 0, .int .i64 0, .slice none 0 0], .int .i64 0, .int .i64 (R.2.2 : Nat)])) ∨
    R.2.2 = 0 ∧ ∃ g' c', e = .returned (.tuple #[.agg #[.int .i64 (a : Int), .int .i64 (b : Int), .slice (some ⟨g', 0, none⟩) n c'], .int .i64 (R.2.1 : Nat), .int .i64 0]) ∧ Own 3 w.heap.size w' (some ⟨g', 0, none⟩) n c' (asI R.1)) ∧ Below w.heap.size w w'
theorem put_any (a b n c p : Nat) (q : Option Addr) (s : List Nat) (who : Nat) (w : World) (ha1 : 1 ≤ a) (ha : a ≤ 10) (hnab : Hid (n = a * b)) (hn : n ≤ 100) (hp : p < n) (hx : IntsIn w q n (asI s)) (hs : ∀ j, st s j ≤ 2) (hw : who = 1 ∨ who = 2) :
    Calls Try.prog 18 #[.agg #[.int .i64 (a : Int), .int .i64 (b : Int), .slice q n c], .int .i64 (who : Int), .int .i64 (p : Int)] w (PutP a b n (putS s a who p) w) := by
  by_cases h0 : st s p = 0
  · refine (put_main a b n c p q s who w ha1 ha hnab hn hp hx hs h0 hw).mono fun e w' h => ⟨?_, h.2⟩
    rcases h.1 with ⟨h1, h2⟩ | h1
    · exact .inl ⟨.inr h1, by rw [h1]; exact h2⟩
    · exact .inr h1
  · have hR : putS s a who p = ([], 0, 6) := by unfold putS; rw [if_pos h0]
    refine (put_twice a b n c p q s who w hn hp hx h0).mono fun e w' h => ⟨.inl ⟨.inl (by rw [hR]), by rw [hR]; exact h.1⟩, h.2⟩
theorem mayOk {a b n : Nat} {s : List Nat} (ha1 : 1 ≤ a) (ha : a ≤ 10) (hb1 : 1 ≤ b) (hb : b ≤ 10) (hn : n = a * b) (hl : s.length = n) (hs : ∀ j, st s j ≤ 2) : mayG a b (asI s) = true := mayG_of ha1 ha hb1 hb (by rw [hl, hn]) hs

set_option maxHeartbeats 4000000 in
set_option maxRecDepth 100000 in
theorem Put_any (a b n c p : Nat) (q : Option Addr) (s : List Nat) (who : Nat) (w : World) (ha1 : 1 ≤ a) (ha : a ≤ 10) (hb1 : 1 ≤ b) (hb : b ≤ 10) (hnab : Hid (n = a * b)) (hn : n ≤ 100) (hp : p < n) (hx : IntsIn w q n (asI s)) (hs : ∀ j, st s j ≤ 2) (hw : who = 1 ∨ who = 2) :
    Calls Try.prog 12 #[.agg #[.int .i64 (a : Int), .int .i64 (b : Int), .slice q n c], .int .i64 (who : Int), .int .i64 (p : Int)] w (PutP a b n (putS s a who p) w) := by
  have hsl : s.length = n := by have := hx.len; rwa [asI_len] at this
  have hmay := mayOk ha1 ha hb1 hb hnab.out hsl hs
  obtain ⟨W0, hW0⟩ : ∃ W0, W0 = (w.alloc (.cells #[.int .i64 (a : Int), .int .i64 (b : Int), .slice q n c] 24)).alloc (.cells #[.int .i64 0, .int .i64 0, .slice none 0 0] 24) := ⟨_, rfl⟩
  obtain ⟨e0, e1⟩ := heap2 w (.cells #[.int .i64 (a : Int), .int .i64 (b : Int), .slice q n c] 24) (.cells #[.int .i64 0, .int .i64 0, .slice none 0 0] 24)
  have hB0 := below2 w (.cells #[.int .i64 (a : Int), .int .i64 (b : Int), .slice q n c] 24) (.cells #[.int .i64 0, .int .i64 0, .slice none 0 0] 24)
  rw [← hW0] at e0 e1 hB0
  have HM := Lib.hid (may_any q n c a b (asI s) W0 (by omega) (by omega) (by omega) (by omega) (by omega) (hx.below hB0))
  have HP : Hid (∀ W', Below w.heap.size w W' → Calls Try.prog 18 #[.agg #[.int .i64 (a : Int), .int .i64 (b : Int), .slice q n c], .int .i64 (who : Int), .int .i64 (p : Int)] W' (PutP a b n (putS s a who p) W')) := fun W' h => put_any a b n c p q s who W' ha1 ha hnab hn hp (hx.below h) hs hw
  rw [hmay] at HM
  generalize putS s a who p = R at *
  have hw1 : ((who : Int) != 1 && (who : Int) != 2) = false := by rcases hw with rfl | rfl <;> rfl
  replace hB0 := Lib.hid hB0; replace hsl := Lib.hid hsl; replace hmay := Lib.hid hmay; replace hx := Lib.hid hx; replace hs := Lib.hid hs; replace e0 := Lib.hid e0; replace e1 := Lib.hid e1
  have hW0' := Lib.hid hW0
  subst hW0
  go_enter Try.func12, Try.ntmps12
  go_wp2_with fail
  refine HM.out.mono ?_
  rintro e w1 ⟨rfl, hB1⟩
  have hbl1 : Hid (Below w.heap.size w w1) := hB0.out.trans (hB1.mono hB0.out.size)
  have e01 := (hB1.block w.heap.size (lt_of_heap e0.out)).trans e0.out
  have e11 := (hB1.block (w.heap.size + 1) (lt_of_heap e1.out)).trans e1.out
  have d0 : w1.cell? ⟨w.heap.size, 0, none⟩ = some (.int .i64 (a : Int)) := wcell (cs := [_, _, _]) e01 0
  have d1 : w1.cell? ⟨w.heap.size, 1, none⟩ = some (.int .i64 (b : Int)) := wcell (cs := [_, _, _]) e01 1
  have d2 : w1.cell? ⟨w.heap.size, 2, none⟩ = some (.slice q n c) := wcell (cs := [_, _, _]) e01 2
  have HP1 := Lib.hid (HP.out w1 hbl1.out)
  replace e01 := Lib.hid e01; replace e11 := Lib.hid e11
  clear HM hB1 HP
  rcases hw with rfl | rfl
  all_goals
    go_wp2_with fail
    refine HP1.out.mono ?_
    rintro e w2 ⟨h2, hB2⟩
    have hbl2 : Hid (Below w.heap.size w w2) := hbl1.out.trans (hB2.mono hbl1.out.size)
    have e12 := (hB2.block (w.heap.size + 1) (lt_of_heap e11.out)).trans e11.out
    have r0 : w2.cell? ⟨w.heap.size + 1, 0, none⟩ = some (.int .i64 0) := wcell (cs := [_, _, _]) e12 0
    have r1 : w2.cell? ⟨w.heap.size + 1, 1, none⟩ = some (.int .i64 0) := wcell (cs := [_, _, _]) e12 1
    have r2 : w2.cell? ⟨w.heap.size + 1, 2, none⟩ = some (.slice none 0 0) := wcell (cs := [_, _, _]) e12 2
    have rf0 := wfree e12 0
    have rf1 := wfree e12 1
    have rf2 := wfree e12 2
    clear d0 d1 d2
    rcases h2 with ⟨hR, rfl⟩ | ⟨hR, g', c', rfl, hO⟩
    · have t0 := Lib.hid (wset (wset (wset e12 0 (.int .i64 0)) 1 (.int .i64 0)) 2 (.slice none 0 0))
      have u0 := Lib.hid (wcell (cs := [.int .i64 0, .int .i64 0, .slice none 0 0]) t0.out 0)
      have u1 := Lib.hid (wcell (cs := [.int .i64 0, .int .i64 0, .slice none 0 0]) t0.out 1)
      have u2 := Lib.hid (wcell (cs := [.int .i64 0, .int .i64 0, .slice none 0 0]) t0.out 2)
      replace hR := Lib.hid hR; replace e12 := Lib.hid e12
      clear hB2
      go_wp2_with fail
      refine bodyPost_ret (v := .tuple #[.agg #[.int .i64 0, .int .i64 0, .slice none 0 0], .int .i64 0, .int .i64 (R.2.2 : Nat)]) (by simp [results, Try.results12, go_sem, u0.out, u1.out, u2.out]) rfl ⟨.inl ⟨hR.out, rfl⟩, ?_⟩
      exact ((hbl2.out.setCell (p := ⟨w.heap.size + 1, 0, none⟩) (by simp) _).setCell (p := ⟨w.heap.size + 1, 1, none⟩) (by simp) _).setCell (p := ⟨w.heap.size + 1, 2, none⟩) (by simp) _
    · have t0 := Lib.hid (wset (wset (wset e12 0 (.int .i64 (a : Int))) 1 (.int .i64 (b : Int))) 2 (.slice (some ⟨g', 0, none⟩) n c'))
      have u0 := Lib.hid (wcell (cs := [.int .i64 (a : Int), .int .i64 (b : Int), .slice (some ⟨g', 0, none⟩) n c']) t0.out 0)
      have u1 := Lib.hid (wcell (cs := [.int .i64 (a : Int), .int .i64 (b : Int), .slice (some ⟨g', 0, none⟩) n c']) t0.out 1)
      have u2 := Lib.hid (wcell (cs := [.int .i64 (a : Int), .int .i64 (b : Int), .slice (some ⟨g', 0, none⟩) n c']) t0.out 2)
      have hsz1 := lt_of_heap e11.out
      replace hR := Lib.hid hR; replace e12 := Lib.hid e12; replace hO := Lib.hid hO
      clear hB2
      go_wp2_with fail
      refine bodyPost_ret (v := .tuple #[.agg #[.int .i64 (a : Int), .int .i64 (b : Int), .slice (some ⟨g', 0, none⟩) n c'], .int .i64 (R.2.1 : Nat), .int .i64 0]) (by simp [results, Try.results12, go_sem, u0.out, u1.out, u2.out]) rfl ⟨.inr ⟨hR.out, g', c', rfl, ?_⟩, ?_⟩
      · refine Own.mono (B' := w.heap.size) (hO.out.keep fun x hx => ?_) (by omega)
        have hg2' := (hO.out.block x hx).1
        exact (Below.heap_setCell _ _ _ _ (by simp; omega)).trans ((Below.heap_setCell _ _ _ _ (by simp; omega)).trans (Below.heap_setCell _ _ _ _ (by simp; omega)))
      · exact ((hbl2.out.setCell (p := ⟨w.heap.size + 1, 0, none⟩) (by simp) _).setCell (p := ⟨w.heap.size + 1, 1, none⟩) (by simp) _).setCell (p := ⟨w.heap.size + 1, 2, none⟩) (by simp) _
end Go.Proofs.Ytefjliblaeadfaa
