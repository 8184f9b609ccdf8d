/- What stones.Play tells of a board that may not be, and of too many moves; conditions: ints of 64 bits. -/
import Derived.Test.YtefjliblaeadfaaPla
namespace Go.Proofs.Ytefjliblaeadfaa
open Go.RowKit

/-- a refused play. -/
def PlayE (E : Int) (w : World) (e : Ending) (w' : World) : Prop :=
  e = .returned (.tuple #[.agg #[.int .i64 0, .int .i64 0, .slice none 0 0], .agg #[.int .i64 0, .int .i64 0], .int .i64 0, .int .i64 E]) ∧ Below w.heap.size w w'
/-- the results' boxes are written with nothing. -/
theorem fin_none {w W : World} {B : Nat} (h1 : W.heap[B + 1]? = some (.cells #[.int .i64 0, .int .i64 0, .slice none 0 0] 24 (0, 0))) (h2 : W.heap[B + 1 + 1]? = some (.cells #[.int .i64 0, .int .i64 0] 25 (0, 0))) (hb : Below B w W) :
    ((((((W.setCell ⟨B + 1, 0, none⟩ (.int .i64 0)).setCell ⟨B + 1, 1, none⟩ (.int .i64 0)).setCell ⟨B + 1, 2, none⟩ (.slice none 0 0)).setCell ⟨B + 1 + 1, 0, none⟩ (.int .i64 0)).setCell ⟨B + 1 + 1, 1, none⟩ (.int .i64 0)).drew).heap[B + 1]? = some (.cells #[.int .i64 0, .int .i64 0, .slice none 0 0] 24 (0, 0)) ∧
    ((((((W.setCell ⟨B + 1, 0, none⟩ (.int .i64 0)).setCell ⟨B + 1, 1, none⟩ (.int .i64 0)).setCell ⟨B + 1, 2, none⟩ (.slice none 0 0)).setCell ⟨B + 1 + 1, 0, none⟩ (.int .i64 0)).setCell ⟨B + 1 + 1, 1, none⟩ (.int .i64 0)).drew).heap[B + 1 + 1]? = some (.cells #[.int .i64 0, .int .i64 0] 25 (0, 0)) ∧
    Below B w (((((W.setCell ⟨B + 1, 0, none⟩ (.int .i64 0)).setCell ⟨B + 1, 1, none⟩ (.int .i64 0)).setCell ⟨B + 1, 2, none⟩ (.slice none 0 0)).setCell ⟨B + 1 + 1, 0, none⟩ (.int .i64 0)).setCell ⟨B + 1 + 1, 1, none⟩ (.int .i64 0)).drew := by
  have e1 := wset (wset (wset h1 0 (.int .i64 0)) 1 (.int .i64 0)) 2 (.slice none 0 0)
  have e2 : (((W.setCell ⟨B + 1, 0, none⟩ (.int .i64 0)).setCell ⟨B + 1, 1, none⟩ (.int .i64 0)).setCell ⟨B + 1, 2, none⟩ (.slice none 0 0)).heap[B + 1 + 1]? = some (.cells #[.int .i64 0, .int .i64 0] 25 (0, 0)) := by
    rw [wset_ne _ _ (by simp), wset_ne _ _ (by simp), wset_ne _ _ (by simp)]; exact h2
  have e3 := wset (wset e2 0 (.int .i64 0)) 1 (.int .i64 0)
  have hb2 := ((((hb.setCell (p := ⟨B + 1, 0, none⟩) (by simp) (.int .i64 0)).setCell (p := ⟨B + 1, 1, none⟩) (by simp) (.int .i64 0)).setCell (p := ⟨B + 1, 2, none⟩) (by simp) (.slice none 0 0)).setCell (p := ⟨B + 1 + 1, 0, none⟩) (by simp; omega) (.int .i64 0)).setCell (p := ⟨B + 1 + 1, 1, none⟩) (by simp; omega) (.int .i64 0)
  have g1 := (wset_ne (w := ((W.setCell ⟨B + 1, 0, none⟩ (.int .i64 0)).setCell ⟨B + 1, 1, none⟩ (.int .i64 0)).setCell ⟨B + 1, 2, none⟩ (.slice none 0 0)) (b := B + 1) ⟨B + 1 + 1, 0, none⟩ (.int .i64 0) (by simp)).trans e1
  have g2 := (wset_ne (w := (((W.setCell ⟨B + 1, 0, none⟩ (.int .i64 0)).setCell ⟨B + 1, 1, none⟩ (.int .i64 0)).setCell ⟨B + 1, 2, none⟩ (.slice none 0 0)).setCell ⟨B + 1 + 1, 0, none⟩ (.int .i64 0)) (b := B + 1) ⟨B + 1 + 1, 1, none⟩ (.int .i64 0) (by simp)).trans g1
  generalize ((((W.setCell ⟨B + 1, 0, none⟩ (.int .i64 0)).setCell ⟨B + 1, 1, none⟩ (.int .i64 0)).setCell ⟨B + 1, 2, none⟩ (.slice none 0 0)).setCell ⟨B + 1 + 1, 0, none⟩ (.int .i64 0)).setCell ⟨B + 1 + 1, 1, none⟩ (.int .i64 0) = U at *
  have g3 : U.heap[B + 1]? = some (.cells #[.int .i64 0, .int .i64 0, .slice none 0 0] 24 (0, 0)) := by simpa using g2
  have g4 : U.heap[B + 1 + 1]? = some (.cells #[.int .i64 0, .int .i64 0] 25 (0, 0)) := by simpa using e3
  exact ⟨g3, g4, Below.drew hb2⟩

set_option maxHeartbeats 4000000 in
set_option maxRecDepth 100000 in
theorem play_bad (W H : Int) (n c len lcap : Nat) (q lp : Option Addr) (xs : List Int) (w : World) (hn : n ≤ 9223372036854775807) (hW1 : -9223372036854775808 ≤ W) (hW2 : W ≤ 9223372036854775807) (hH1 : -9223372036854775808 ≤ H) (hH2 : H ≤ 9223372036854775807) (hx : IntsIn w q n xs)
    (E : Int) (hE : mayG W H xs = false ∧ E = 12 ∨ mayG W H xs = true ∧ 200 < len ∧ E = 11) :
    Calls Try.prog 6 #[.agg #[.int .i64 W, .int .i64 H, .slice q n c], .slice lp len lcap] w (PlayE E w) := by
  obtain ⟨W0, hW0⟩ : ∃ W0, W0 = (((w.alloc (.cells #[.int .i64 W, .int .i64 H, .slice q n c] 24)).alloc (.cells #[.int .i64 0, .int .i64 0, .slice none 0 0] 24)).alloc (.cells #[.int .i64 0, .int .i64 0] 25)).alloc (.cells #[.int .i64 0, .int .i64 0] 25) := ⟨_, rfl⟩
  obtain ⟨e0, e1, e2, e3⟩ := heap4 w (.cells #[.int .i64 W, .int .i64 H, .slice q n c] 24) (.cells #[.int .i64 0, .int .i64 0, .slice none 0 0] 24) (.cells #[.int .i64 0, .int .i64 0] 25) (.cells #[.int .i64 0, .int .i64 0] 25)
  have hB0 := below4 w (.cells #[.int .i64 W, .int .i64 H, .slice q n c] 24) (.cells #[.int .i64 0, .int .i64 0, .slice none 0 0] 24) (.cells #[.int .i64 0, .int .i64 0] 25) (.cells #[.int .i64 0, .int .i64 0] 25)
  rw [← hW0] at e0 e1 e2 e3 hB0
  have HM := Lib.hid (may_any q n c W H xs W0 hn hW1 hW2 hH1 hH2 (hx.below hB0))
  generalize mayG W H xs = ok at *
  replace hB0 := Lib.hid hB0; replace e0 := Lib.hid e0; replace e1 := Lib.hid e1; replace e2 := Lib.hid e2; replace e3 := Lib.hid e3
  have hW0' := Lib.hid hW0
  subst hW0
  clear hx
  rcases hE with ⟨rfl, rfl⟩ | ⟨rfl, hlen, rfl⟩
  all_goals
    go_enter Try.func6, Try.ntmps6
    go_wp2_with fail
    refine HM.out.mono ?_
    rintro e w1 ⟨rfl, hB1⟩
    have hbl1 : Hid (Below w.heap.size w w1) := hB0.out.trans (hB1.mono hB0.out.size)
    have f1 := (hB1.block _ (lt_of_heap e1.out)).trans e1.out
    have f2 := (hB1.block _ (lt_of_heap e2.out)).trans e2.out
    have f3 := (hB1.block _ (lt_of_heap e3.out)).trans e3.out
    have y0 : w1.cell? ⟨w.heap.size + 3, 0, none⟩ = some (.int .i64 0) := wcell (cs := [_, _]) f3 0
    have y1 : w1.cell? ⟨w.heap.size + 3, 1, none⟩ = some (.int .i64 0) := wcell (cs := [_, _]) f3 1
    have r0 : w1.cell? ⟨w.heap.size + 1, 0, none⟩ = some (.int .i64 0) := wcell (cs := [_, _, _]) f1 0
    have r1 : w1.cell? ⟨w.heap.size + 1, 1, none⟩ = some (.int .i64 0) := wcell (cs := [_, _, _]) f1 1
    have r2 : w1.cell? ⟨w.heap.size + 1, 2, none⟩ = some (.slice none 0 0) := wcell (cs := [_, _, _]) f1 2
    have r3 : w1.cell? ⟨w.heap.size + 2, 0, none⟩ = some (.int .i64 0) := wcell (cs := [_, _]) f2 0
    have r4 : w1.cell? ⟨w.heap.size + 2, 1, none⟩ = some (.int .i64 0) := wcell (cs := [_, _]) f2 1
    have v0 := wfree f1 0
    have v1 := wfree f1 1
    have v2 := wfree f1 2
    have v3 := wfree f2 0
    have v4 := wfree f2 1
    obtain ⟨t1, t2, t4⟩ := fin_none f1 f2 hbl1.out
    have u0 := Lib.hid (wcell (cs := [_, _, _]) t1 0)
    have u1 := Lib.hid (wcell (cs := [_, _, _]) t1 1)
    have u2 := Lib.hid (wcell (cs := [_, _, _]) t1 2)
    have u3 := Lib.hid (wcell (cs := [_, _]) t2 0)
    have u4 := Lib.hid (wcell (cs := [_, _]) t2 1)
    replace t4 := Lib.hid t4
    clear HM hB1 e0 e1 e2 e3 hB0 f1 f2 f3 t1 t2
    (try have hl200 : (len : Int) > 200 := by omega)
    go_wp2_with fail
    go_region
    go_wp2_with fail
    first
      | refine bodyPost_ret (v := .tuple #[.agg #[.int .i64 0, .int .i64 0, .slice none 0 0], .agg #[.int .i64 0, .int .i64 0], .int .i64 0, .int .i64 12]) (by simp [results, Try.results6, go_sem, u0.out, u1.out, u2.out, u3.out, u4.out]) rfl ⟨rfl, t4.out⟩
      | refine bodyPost_ret (v := .tuple #[.agg #[.int .i64 0, .int .i64 0, .slice none 0 0], .agg #[.int .i64 0, .int .i64 0], .int .i64 0, .int .i64 11]) (by simp [results, Try.results6, go_sem, u0.out, u1.out, u2.out, u3.out, u4.out]) rfl ⟨rfl, t4.out⟩
end Go.Proofs.Ytefjliblaeadfaa
