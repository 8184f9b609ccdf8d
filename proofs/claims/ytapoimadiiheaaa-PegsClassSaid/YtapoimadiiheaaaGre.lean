/- What pegs.great computes; conditions: a board of at most 1000 places. -/
import Derived.Test.YtapoimadiiheaaaMov
import Derived.StillTactics
import Derived.Deep.DeepCutAuto
import Derived.Deep.RegionHeld3
namespace Go.Proofs.Ytapoimadiiheaaa
open Go.RowKit

def grtS (s : List Nat) : Bool := decide (7 < s.countP (· == 1)) || decide (20 < s.countP (· == 1) + s.countP (· == 0))
set_option maxHeartbeats 4000000 in
theorem great_any (A H : Int) (n c : Nat) (q : Option Addr) (s : List Nat) (w : World) (hn : n ≤ 1000) (hx : IntsIn w q n (asI s)) :
    Calls Try.prog 15 #[.agg #[.int .i64 A, .int .i64 H, .slice q n c]] w fun e w' => e = .returned (.bool (grtS s)) ∧ Below w.heap.size w w' := by
  have hsl : s.length = n := by have := hx.len; rwa [asI_len] at this
  have l1 : s.countP (· == 1) ≤ 1000 := Nat.le_trans List.countP_le_length (by omega)
  have l0 : s.countP (· == 0) ≤ 1000 := Nat.le_trans List.countP_le_length (by omega)
  have e0 := heap_alloc_new w (.cells #[.int .i64 A, .int .i64 H, .slice q n c] 24)
  have hB0 := ((Below.refl w.heap.size w).alloc (Nat.le_refl _) (.cells #[.int .i64 A, .int .i64 H, .slice q n c] 24))
  have hx0 := Lib.hid (hx.alloc (.cells #[.int .i64 A, .int .i64 H, .slice q n c] 24))
  obtain ⟨w0, hw0⟩ : ∃ w0, w0 = w.alloc (.cells #[.int .i64 A, .int .i64 H, .slice q n c] 24) := ⟨_, rfl⟩
  rw [← hw0] at e0 hB0 hx0
  have hs0 : w0.heap.size = w.heap.size + 1 := by rw [hw0]; simp
  have M (v : Nat) (iv : Int) (hv : iv = (v : Int)) : Hid (∀ W : World, Below (w.heap.size + 1) w0 W → Calls Try.prog 19 #[.agg #[.int .i64 A, .int .i64 H, .slice q n c], .int .i64 iv] W fun e w' => e = .returned (.int .i64 ((s.countP (· == v) : Nat) : Int)) ∧ Below (w.heap.size + 1) w0 w') := fun W hW => by
    subst hv
    exact (many_any A H n c q s v W hn (hx0.out.below (by rw [hs0]; exact hW))).mono fun e w' ⟨h1, h2⟩ => ⟨h1, hW.trans (h2.mono (by have := hW.size; omega))⟩
  have M1 := M 1 1 rfl
  have M0 := M 0 0 rfl
  clear M
  have d0 : w0.cell? ⟨w.heap.size, 0, none⟩ = some (.int .i64 A) := wcell (cs := [_, _, _]) e0 0
  have d1 : w0.cell? ⟨w.heap.size, 1, none⟩ = some (.int .i64 H) := wcell (cs := [_, _, _]) e0 1
  have d2 : w0.cell? ⟨w.heap.size, 2, none⟩ = some (.slice q n c) := wcell (cs := [_, _, _]) e0 2
  have hgs : grtS s = (decide (7 < s.countP (· == 1)) || decide (20 < s.countP (· == 1) + s.countP (· == 0))) := rfl
  have hb : w.heap.size < w0.heap.size := by omega
  replace hgs := Lib.hid hgs; replace hsl := Lib.hid hsl; replace hs0 := Lib.hid hs0; replace hB0 := Lib.hid hB0; replace e0 := Lib.hid e0
  generalize s.countP (· == 1) = a at *
  generalize s.countP (· == 0) = b at *
  clear hx hx0
  subst hw0
  have hr : Hid (Below (w.heap.size + 1) (w.alloc (.cells #[.int .i64 A, .int .i64 H, .slice q n c] 24)) (w.alloc (.cells #[.int .i64 A, .int .i64 H, .slice q n c] 24))) := Below.refl _ _
  have hbl : w.heap.size < w.heap.size + 1 := by omega
  by_cases ha : 7 < a
  · have ha' : (7 : Int) < (a : Int) := by omega
    have hgt : Hid (grtS s = true) := by show _ = _; rw [hgs.out, decide_eq_true ha]; rfl
    go_enter Try.func15, Try.ntmps15
    go_wp2_with fail
    go_cut [2] (fun v wx => v = .bool true ∧ Below (w.heap.size + 1) (w.alloc (.cells #[.int .i64 A, .int .i64 H, .slice q n c] 24)) wx)
    case first =>
      go_region_with (go_at_call 19; (with_reducible refine (M1.out _ ?_).mono ?_); (with_reducible (first | exact hr.out | exact Below.drew hr.out | exact below_drewN hr.out 1)); rintro e w' ⟨rfl, hB1⟩)
      all_goals
        go_wp2_with fail
        go_meet
        exact ⟨rfl, hB1⟩
    case rest =>
      obtain ⟨rfl, hB2⟩ := hcut
      replace hB2 := Lib.hid hB2
      go_wp2_with fail
      go_ret
      exact ⟨ret_bool hgt.out.symm, hB0.out.trans (hB2.out.mono (by omega))⟩
  · have hgt : Hid (grtS s = decide (20 < a + b)) := by show _ = _; rw [hgs.out, decide_eq_false ha, Bool.false_or]
    replace hgs := Lib.hid hgs
    generalize grtS s = z at *
    rcases (show a = 0 ∨ a = 1 ∨ a = 2 ∨ a = 3 ∨ a = 4 ∨ a = 5 ∨ a = 6 ∨ a = 7 by omega) with rfl | rfl | rfl | rfl | rfl | rfl | rfl | rfl
    all_goals
      go_enter Try.func15, Try.ntmps15
      go_wp2_with fail
      go_cut [2] (fun v wx => v = .bool z ∧ Below (w.heap.size + 1) (w.alloc (.cells #[.int .i64 A, .int .i64 H, .slice q n c] 24)) wx)
      case first =>
        go_region_held3 (fun w' => w'.cell? ⟨w.heap.size, 0, none⟩ = some (.int .i64 A) ∧ w'.cell? ⟨w.heap.size, 1, none⟩ = some (.int .i64 H) ∧ w'.cell? ⟨w.heap.size, 2, none⟩ = some (.slice q n c)) (first | with_reducible exact ⟨d0', d1', d2'⟩ | with_reducible exact ⟨d0, d1, d2⟩ | go_keep)
          (first
          | (go_at_call 19; (with_reducible refine (M1.out _ ?_).mono ?_); (with_reducible (first | exact hr.out | exact Below.drew hr.out | exact below_drewN hr.out 1 | exact hB1 | exact Below.drew hB1 | exact below_drewN hB1 1)); rintro e w6 ⟨rfl, hB1⟩; have d0' : w6.cell? ⟨w.heap.size, 0, none⟩ = some (.int .i64 A) := (hB1.cell (p := ⟨w.heap.size, 0, none⟩) hbl).trans d0; have d1' : w6.cell? ⟨w.heap.size, 1, none⟩ = some (.int .i64 H) := (hB1.cell (p := ⟨w.heap.size, 1, none⟩) hbl).trans d1; have d2' : w6.cell? ⟨w.heap.size, 2, none⟩ = some (.slice q n c) := (hB1.cell (p := ⟨w.heap.size, 2, none⟩) hbl).trans d2)
          | (go_at_call 19; (with_reducible refine (M0.out _ ?_).mono ?_); (with_reducible (first | exact hr.out | exact Below.drew hr.out | exact below_drewN hr.out 1 | exact hB1 | exact Below.drew hB1 | exact below_drewN hB1 1)); rintro e w6 ⟨rfl, hB1⟩; have d0' : w6.cell? ⟨w.heap.size, 0, none⟩ = some (.int .i64 A) := (hB1.cell (p := ⟨w.heap.size, 0, none⟩) hbl).trans d0; have d1' : w6.cell? ⟨w.heap.size, 1, none⟩ = some (.int .i64 H) := (hB1.cell (p := ⟨w.heap.size, 1, none⟩) hbl).trans d1; have d2' : w6.cell? ⟨w.heap.size, 2, none⟩ = some (.slice q n c) := (hB1.cell (p := ⟨w.heap.size, 2, none⟩) hbl).trans d2))
        all_goals
          go_wp2_with fail
          go_meet
          refine ⟨?_, hB1⟩
          rw [hgt.out]
          congr 1
          refine decide_eq_decide.2 ?_
          (first | rw [IntWalk.i64_in _ (by omega)] | skip)
          omega
      case rest =>
        obtain ⟨rfl, hB2⟩ := hcut
        replace hB2 := Lib.hid hB2
        go_wp2_with fail
        go_ret
        exact ⟨rfl, hB0.out.trans (hB2.out.mono (by omega))⟩
end Go.Proofs.Ytapoimadiiheaaa
