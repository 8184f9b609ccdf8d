/- What the closure of domino.Rows computes at the map of the one piece (0, 1): two rows; conditions: the boxes lie as Rows lays them. -/
import Derived.Test.YtgnchgkiijncbaaOne
import Derived.Deep.DeepCutAuto
import Derived.Deep.RegionHeld3
namespace Go.Proofs.Ytgnchgkiijncbaa
open Go.RowKit Go.Maps
open Go.ChangeMaps (setBlock)

structure CSt (B b4 b7 r : Nat) (v : Int) (w : World) : Prop where
  m0 : w.heap[b4]? = some (.cells #[.map (some r)] 46 (0, 0))
  c0 : w.heap[b7]? = some (.cells #[.func (.func 17) #[] #[.pointer (some ⟨b4, 0, none⟩), .pointer (some ⟨b7, 0, none⟩)]] 22 (0, 0))
  one : One w r v
  o1 : B ≤ r
  o2 : r < b4
  o3 : b4 < b7
section
variable {B b4 b7 r : Nat} {v : Int} {w w' : World}
theorem CSt.below (h : CSt B b4 b7 r v w) (hb : Below w.heap.size w w') : CSt B b4 b7 r v w' :=
  ⟨(hb.block _ (lt_of_heap h.m0)).trans h.m0, (hb.block _ (lt_of_heap h.c0)).trans h.c0, (hb.block _ (lt_of_heap h.one)).trans h.one, h.o1, h.o2, h.o3⟩
theorem setBlock_ne (w : World) (r k : Nat) (o : Obj) (h : k ≠ r) : (setBlock w r o).heap[k]? = w.heap[k]? := by
  unfold setBlock; simp [Ne.symm h]
theorem setBlock_eq (w : World) (r : Nat) (o : Obj) (h : r < w.heap.size) : (setBlock w r o).heap[r]? = some o := by
  unfold setBlock; simp [h]
theorem setBlock_size (w : World) (r : Nat) (o : Obj) : (setBlock w r o).heap.size = w.heap.size := by unfold setBlock; simp
theorem below_setBlock (hB : B ≤ r) (o : Obj) : Below B w (setBlock w r o) :=
  ⟨rfl, rfl, rfl, by rw [setBlock_size]; exact Nat.le_refl _, fun k hk => setBlock_ne w r k o (by omega)⟩
theorem CSt.set (h : CSt B b4 b7 r v w) (x : Int) : CSt B b4 b7 r x (setBlock w r (.map #[⟨K2 0 1, .int .i64 x, 0⟩] 1)) := by
  have h1 := h.o2; have h2 := h.o3
  exact ⟨(setBlock_ne _ _ _ _ (by omega)).trans h.m0, (setBlock_ne _ _ _ _ (by omega)).trans h.c0, setBlock_eq _ _ _ (lt_of_heap h.one), h.o1, h1, h2⟩
end

set_option maxHeartbeats 400000 in
theorem cnt_zero (e : Int) (p q : Option Addr) (w : World) : Calls Try.prog 17 #[.int .i64 e, .int .i64 0, .pointer p, .pointer q] w fun r w' => r = .returned (.int .i64 1) ∧ w = w' := by
  go_enter Try.func17, Try.ntmps17
  go_wp2_with fail
  go_ret
  exact ⟨rfl, rfl⟩

/-- how many were told of the first i numbers, and of the first j behind them. -/
def nOf (i j : Nat) : Nat := min i 2 + if i = 0 then (if 1 < j then 1 else 0) else if i = 1 then (if 0 < j then 1 else 0) else 0
theorem nOf_end (i : Nat) : nOf i 10 = nOf (i + 1) 0 := by
  match i with
  | 0 => rfl
  | 1 => rfl
  | i + 2 => unfold nOf; simp

set_option maxHeartbeats 8000000 in
set_option maxRecDepth 100000 in
theorem cnt_one (B b4 b7 r : Nat) (w : World) (hS : CSt B b4 b7 r 1 w) (hB : B ≤ w.heap.size) :
    Calls Try.prog 17 #[.int .i64 (-1), .int .i64 1, .pointer (some ⟨b4, 0, none⟩), .pointer (some ⟨b7, 0, none⟩)] w fun e w' => e = .returned (.int .i64 2) ∧ Below B w w' := by
  replace hS := Lib.hid hS
  go_enter Try.func17, Try.ntmps17
  go_wp2_with fail
  go_loopg [7, 13] 10 (fun gk nv iv W' => ∃ i : Nat, i ≤ 10 ∧ gk = 10 - i ∧ iv = .int .i64 i ∧ nv = .int .i64 (nOf i 0 : Nat) ∧ CSt B b4 b7 r 1 W' ∧ Below B w W')
  case atStart => exact ⟨0, by omega, by omega, rfl, rfl, hS.out, Below.refl _ _⟩
  case round =>
    obtain ⟨i, hi, hgk, rfl, rfl, hS1, hB1⟩ := hrel
    obtain ⟨W1, rfl⟩ : ∃ W1 : World, W1 = wr := ⟨_, rfl⟩
    replace hgk := Lib.hid hgk
    replace hS1 := Lib.hid hS1; replace hB1 := Lib.hid hB1
    clear hS
    by_cases hlt : i < 10
    · have f1 : decide ((i : Int) < 10) = true := by simp; omega
      go_wp2_with fail
      go_loopg [7, 16] 10 (fun gk nv jv W' => ∃ j : Nat, j ≤ 10 ∧ gk = 10 - j ∧ jv = .int .i64 j ∧ nv = .int .i64 (nOf i j : Nat) ∧ CSt B b4 b7 r 1 W' ∧ Below B w W')
      case atStart => exact ⟨0, by omega, by omega, rfl, rfl, hS1.out, hB1.out⟩
      case round =>
        obtain ⟨j, hj, hgk2, rfl, rfl, hS2, hB2⟩ := hrel
        obtain ⟨W2, rfl⟩ : ∃ W2 : World, W2 = wr := ⟨_, rfl⟩
        replace hgk2 := Lib.hid hgk2
        clear hS1 hB1
        by_cases hlt2 : j < 10
        · have f2 : decide ((j : Int) < 10) = true := by simp; omega
          have hb4 := lt_of_heap hS2.m0
          have k0 : W2.cell? ⟨b4, 0, none⟩ = some (.map (some r)) := wcell (cs := [_]) hS2.m0 0
          rcases Nat.lt_trichotomy i j with hij | hij | hij
          · have g1 : (i : Int) < (j : Int) := by omega
            have g2 : ¬ (j : Int) < (i : Int) := by omega
            have g3 : (i : Int) ≤ (j : Int) := by omega
            by_cases h01 : i = 0 ∧ j = 1
            · obtain ⟨rfl, rfl⟩ := h01
              have hV1 := heap_alloc_new W2 (.cells #[.int .i64 0, .int .i64 1] 30)
              have hl := one_look (w := W2.alloc (.cells #[.int .i64 0, .int .i64 1] 30)) (r := r) (v := 1) ((Below.heap_alloc W2 _ r (lt_of_heap hS2.one)).trans hS2.one) (a := 0) (b := 1) (by omega) (by omega)
              rw [if_pos ⟨rfl, rfl⟩] at hl
              have hS3 : CSt B b4 b7 r 1 (W2.alloc (.cells #[.int .i64 0, .int .i64 1] 30)) := hS2.below ((Below.refl _ _).alloc (Nat.le_refl _) _)
              have hB3 : Hid (Below B w (W2.alloc (.cells #[.int .i64 0, .int .i64 1] 30))) := hB2.alloc (Nat.le_trans hB hB2.size) _
              unfold K2 at hl
              replace hl : (Instr.lookup 46 (.map (some r)) (.agg #[.int .i64 0, .int .i64 1]) false).run Try.prog (W2.alloc (.cells #[.int .i64 0, .int .i64 1] 30)) = .ok (.int .i64 1) (W2.alloc (.cells #[.int .i64 0, .int .i64 1] 30)) := hl
              replace hV1 := Lib.hid hV1
              replace hS2 := Lib.hid hS2; replace hB2 := Lib.hid hB2; replace hS3 := Lib.hid hS3
              go_upto_region 12 with fail
              have hGr : W2.heap.size ≠ r := by have := lt_of_heap hS2.out.one; omega
              have hNb : nOf 0 1 ≤ 20 := by decide
              generalize hGe : W2.heap.size = G at *
              generalize W2.alloc (.cells #[.int .i64 0, .int .i64 1] 30) = W3 at *
              clear hl k0 hGe
              have q0 : W3.cell? ⟨G, 0, none⟩ = some (.int .i64 0) := wcell (cs := [_, _]) hV1.out 0
              have q1 : W3.cell? ⟨G, 1, none⟩ = some (.int .i64 1) := wcell (cs := [_, _]) hV1.out 1
              have q2 : W3.cell? ⟨b4, 0, none⟩ = some (.map (some r)) := wcell (cs := [_]) hS3.out.m0 0
              have l1 : (Instr.lookup 46 (.map (some r)) (.agg #[.int .i64 0, .int .i64 1]) false).run Try.prog W3.drew = .ok (.int .i64 1) W3.drew := one_look (w := W3.drew) hS3.out.one (a := 0) (b := 1) (by omega) (by omega)
              have l2 : (Instr.mapEntry 46 (.map (some r)) (.agg #[.int .i64 0, .int .i64 1])).run Try.prog W3.drew = .ok (.tuple #[.int .i64 1, .int .i64 0]) W3.drew := one_entry (w := W3.drew) hS3.out.one
              have l3 : (Instr.entryStore 46 (.map (some r)) (.int .i64 0) (.int .i64 0)).run Try.prog W3.drew = .ok () (setBlock W3.drew r (.map #[⟨K2 0 1, .int .i64 0, 0⟩] 1)) := one_store (w := W3.drew) hS3.out.one 0
              have wr0 : IntKind.i64.wrap 0 = 0 := rfl
              have wr1 : IntKind.i64.wrap 1 = 1 := rfl
              go_region_law (fail)
              all_goals
                have hS4 := hS3.out.below (w' := W3.drew) ((Below.refl _ _).drew)
                have hV4 := (setBlock_ne W3.drew r G (.map #[⟨K2 0 1, .int .i64 0, 0⟩] 1) hGr).trans hV1.out
                have hB4 : Hid (Below B w (setBlock W3.drew r (.map #[⟨K2 0 1, .int .i64 0, 0⟩] 1))) := (hB3.out.drew).trans (below_setBlock hS4.o1 _)
                replace hS4 := hS4.set 0
                generalize setBlock W3.drew r (.map #[⟨K2 0 1, .int .i64 0, 0⟩] 1) = W4 at *
                clear q0 q1 q2 l1 l2 l3
                have q0 : W4.cell? ⟨G, 0, none⟩ = some (.int .i64 0) := wcell (cs := [_, _]) hV4 0
                have q1 : W4.cell? ⟨G, 1, none⟩ = some (.int .i64 1) := wcell (cs := [_, _]) hV4 1
                have q2 : W4.cell? ⟨b4, 0, none⟩ = some (.map (some r)) := wcell (cs := [_]) hS4.m0 0
                have q3 : W4.cell? ⟨b7, 0, none⟩ = some (.func (.func 17) #[] #[.pointer (some ⟨b4, 0, none⟩), .pointer (some ⟨b7, 0, none⟩)]) := wcell (cs := [_]) hS4.c0 0
                replace hS4 := Lib.hid hS4; replace hV4 := Lib.hid hV4
                go_wp2_with fail
                refine (cnt_zero _ _ _ _).mono ?_
                rintro e w' ⟨rfl, rfl⟩
                go_wp2_with fail
                have l1 : (Instr.lookup 46 (.map (some r)) (.agg #[.int .i64 0, .int .i64 1]) false).run Try.prog W4.drew = .ok (.int .i64 0) W4.drew := one_look (w := W4.drew) hS4.out.one (a := 0) (b := 1) (by omega) (by omega)
                have l2 : (Instr.mapEntry 46 (.map (some r)) (.agg #[.int .i64 0, .int .i64 1])).run Try.prog W4.drew = .ok (.tuple #[.int .i64 0, .int .i64 0]) W4.drew := one_entry (w := W4.drew) hS4.out.one
                have l3 : (Instr.entryStore 46 (.map (some r)) (.int .i64 0) (.int .i64 1)).run Try.prog W4.drew = .ok () (setBlock W4.drew r (.map #[⟨K2 0 1, .int .i64 1, 0⟩] 1)) := one_store (w := W4.drew) hS4.out.one 1
                go_region_law (fail)
                all_goals
                  have hS5 := hS4.out.below (w' := W4.drew) ((Below.refl _ _).drew)
                  have hB5 : Hid (Below B w (setBlock W4.drew r (.map #[⟨K2 0 1, .int .i64 1, 0⟩] 1))) := (hB4.out.drew).trans (below_setBlock hS5.o1 _)
                  replace hS5 := hS5.set 1
                  generalize setBlock W4.drew r (.map #[⟨K2 0 1, .int .i64 1, 0⟩] 1) = W5 at *
                  clear q0 q1 q2 q3 l1 l2 l3
                  replace hS5 := Lib.hid hS5
                  go_wp2_with fail
                  have hgk2 := hgk2.out
                  go_roundg (10 - (1 + 1))
                  case measure => omega
                  case rel => exact ⟨1 + 1, by omega, rfl, by go_num, rfl, hS5.out, hB5.out⟩
            · have hl := one_look (w := W2.alloc (.cells #[.int .i64 (i : Int), .int .i64 (j : Int)] 30)) (r := r) (v := 1) ((Below.heap_alloc W2 _ r (lt_of_heap hS2.one)).trans hS2.one) (a := i) (b := j) (by omega) (by omega)
              rw [if_neg (by omega)] at hl
              have hS3 : Hid (CSt B b4 b7 r 1 (W2.alloc (.cells #[.int .i64 (i : Int), .int .i64 (j : Int)] 30))) := hS2.below ((Below.refl _ _).alloc (Nat.le_refl _) _)
              have hB3 : Hid (Below B w (W2.alloc (.cells #[.int .i64 (i : Int), .int .i64 (j : Int)] 30))) := hB2.alloc (Nat.le_trans hB hB2.size) _
              have hn : Hid (nOf i (j + 1) = nOf i j) := by show _ = _; unfold nOf; split <;> (try split) <;> (try split) <;> (try split) <;> omega
              unfold K2 at hl
              replace hS2 := Lib.hid hS2; replace hB2 := Lib.hid hB2
              go_wp2_with fail
              have hgk2 := hgk2.out
              go_roundg (10 - (j + 1))
              case measure => omega
              case rel => exact ⟨j + 1, by omega, rfl, by go_num, by rw [hn.out], hS3.out, hB3.out⟩
          · subst hij
            have g3 : (i : Int) ≤ (i : Int) := by omega
            have hl := one_look (w := W2.alloc (.cells #[.int .i64 (i : Int), .int .i64 (i : Int)] 30)) (r := r) (v := 1) ((Below.heap_alloc W2 _ r (lt_of_heap hS2.one)).trans hS2.one) (a := i) (b := i) (by omega) (by omega)
            rw [if_neg (by omega)] at hl
            have hS3 : Hid (CSt B b4 b7 r 1 (W2.alloc (.cells #[.int .i64 (i : Int), .int .i64 (i : Int)] 30))) := hS2.below ((Below.refl _ _).alloc (Nat.le_refl _) _)
            have hB3 : Hid (Below B w (W2.alloc (.cells #[.int .i64 (i : Int), .int .i64 (i : Int)] 30))) := hB2.alloc (Nat.le_trans hB hB2.size) _
            have hn : Hid (nOf i (i + 1) = nOf i i) := by show _ = _; unfold nOf; split <;> (try split) <;> (try split) <;> (try split) <;> omega
            unfold K2 at hl
            replace hS2 := Lib.hid hS2; replace hB2 := Lib.hid hB2
            go_wp2_with fail
            have hgk2 := hgk2.out
            go_roundg (10 - (i + 1))
            case measure => omega
            case rel => exact ⟨i + 1, by omega, rfl, by go_num, by rw [hn.out], hS3.out, hB3.out⟩
          · have g1 : (j : Int) < (i : Int) := by omega
            have g2 : ¬ (i : Int) < (j : Int) := by omega
            have g3 : (j : Int) ≤ (i : Int) := by omega
            by_cases h01 : j = 0 ∧ i = 1
            · obtain ⟨rfl, rfl⟩ := h01
              have hV1 := heap_alloc_new W2 (.cells #[.int .i64 0, .int .i64 1] 30)
              have hl := one_look (w := W2.alloc (.cells #[.int .i64 0, .int .i64 1] 30)) (r := r) (v := 1) ((Below.heap_alloc W2 _ r (lt_of_heap hS2.one)).trans hS2.one) (a := 0) (b := 1) (by omega) (by omega)
              rw [if_pos ⟨rfl, rfl⟩] at hl
              have hS3 : CSt B b4 b7 r 1 (W2.alloc (.cells #[.int .i64 0, .int .i64 1] 30)) := hS2.below ((Below.refl _ _).alloc (Nat.le_refl _) _)
              have hB3 : Hid (Below B w (W2.alloc (.cells #[.int .i64 0, .int .i64 1] 30))) := hB2.alloc (Nat.le_trans hB hB2.size) _
              unfold K2 at hl
              replace hl : (Instr.lookup 46 (.map (some r)) (.agg #[.int .i64 0, .int .i64 1]) false).run Try.prog (W2.alloc (.cells #[.int .i64 0, .int .i64 1] 30)) = .ok (.int .i64 1) (W2.alloc (.cells #[.int .i64 0, .int .i64 1] 30)) := hl
              replace hV1 := Lib.hid hV1
              replace hS2 := Lib.hid hS2; replace hB2 := Lib.hid hB2; replace hS3 := Lib.hid hS3
              go_upto_region 12 with fail
              have hGr : W2.heap.size ≠ r := by have := lt_of_heap hS2.out.one; omega
              have hNb : nOf 1 0 ≤ 20 := by decide
              generalize hGe : W2.heap.size = G at *
              generalize W2.alloc (.cells #[.int .i64 0, .int .i64 1] 30) = W3 at *
              clear hl k0 hGe
              have q0 : W3.cell? ⟨G, 0, none⟩ = some (.int .i64 0) := wcell (cs := [_, _]) hV1.out 0
              have q1 : W3.cell? ⟨G, 1, none⟩ = some (.int .i64 1) := wcell (cs := [_, _]) hV1.out 1
              have q2 : W3.cell? ⟨b4, 0, none⟩ = some (.map (some r)) := wcell (cs := [_]) hS3.out.m0 0
              have l1 : (Instr.lookup 46 (.map (some r)) (.agg #[.int .i64 0, .int .i64 1]) false).run Try.prog W3.drew = .ok (.int .i64 1) W3.drew := one_look (w := W3.drew) hS3.out.one (a := 0) (b := 1) (by omega) (by omega)
              have l2 : (Instr.mapEntry 46 (.map (some r)) (.agg #[.int .i64 0, .int .i64 1])).run Try.prog W3.drew = .ok (.tuple #[.int .i64 1, .int .i64 0]) W3.drew := one_entry (w := W3.drew) hS3.out.one
              have l3 : (Instr.entryStore 46 (.map (some r)) (.int .i64 0) (.int .i64 0)).run Try.prog W3.drew = .ok () (setBlock W3.drew r (.map #[⟨K2 0 1, .int .i64 0, 0⟩] 1)) := one_store (w := W3.drew) hS3.out.one 0
              have wr0 : IntKind.i64.wrap 0 = 0 := rfl
              have wr1 : IntKind.i64.wrap 1 = 1 := rfl
              go_region_law (fail)
              all_goals
                have hS4 := hS3.out.below (w' := W3.drew) ((Below.refl _ _).drew)
                have hV4 := (setBlock_ne W3.drew r G (.map #[⟨K2 0 1, .int .i64 0, 0⟩] 1) hGr).trans hV1.out
                have hB4 : Hid (Below B w (setBlock W3.drew r (.map #[⟨K2 0 1, .int .i64 0, 0⟩] 1))) := (hB3.out.drew).trans (below_setBlock hS4.o1 _)
                replace hS4 := hS4.set 0
                generalize setBlock W3.drew r (.map #[⟨K2 0 1, .int .i64 0, 0⟩] 1) = W4 at *
                clear q0 q1 q2 l1 l2 l3
                have q0 : W4.cell? ⟨G, 0, none⟩ = some (.int .i64 0) := wcell (cs := [_, _]) hV4 0
                have q1 : W4.cell? ⟨G, 1, none⟩ = some (.int .i64 1) := wcell (cs := [_, _]) hV4 1
                have q2 : W4.cell? ⟨b4, 0, none⟩ = some (.map (some r)) := wcell (cs := [_]) hS4.m0 0
                have q3 : W4.cell? ⟨b7, 0, none⟩ = some (.func (.func 17) #[] #[.pointer (some ⟨b4, 0, none⟩), .pointer (some ⟨b7, 0, none⟩)]) := wcell (cs := [_]) hS4.c0 0
                replace hS4 := Lib.hid hS4; replace hV4 := Lib.hid hV4
                go_wp2_with fail
                refine (cnt_zero _ _ _ _).mono ?_
                rintro e w' ⟨rfl, rfl⟩
                go_wp2_with fail
                have l1 : (Instr.lookup 46 (.map (some r)) (.agg #[.int .i64 0, .int .i64 1]) false).run Try.prog W4.drew = .ok (.int .i64 0) W4.drew := one_look (w := W4.drew) hS4.out.one (a := 0) (b := 1) (by omega) (by omega)
                have l2 : (Instr.mapEntry 46 (.map (some r)) (.agg #[.int .i64 0, .int .i64 1])).run Try.prog W4.drew = .ok (.tuple #[.int .i64 0, .int .i64 0]) W4.drew := one_entry (w := W4.drew) hS4.out.one
                have l3 : (Instr.entryStore 46 (.map (some r)) (.int .i64 0) (.int .i64 1)).run Try.prog W4.drew = .ok () (setBlock W4.drew r (.map #[⟨K2 0 1, .int .i64 1, 0⟩] 1)) := one_store (w := W4.drew) hS4.out.one 1
                go_region_law (fail)
                all_goals
                  have hS5 := hS4.out.below (w' := W4.drew) ((Below.refl _ _).drew)
                  have hB5 : Hid (Below B w (setBlock W4.drew r (.map #[⟨K2 0 1, .int .i64 1, 0⟩] 1))) := (hB4.out.drew).trans (below_setBlock hS5.o1 _)
                  replace hS5 := hS5.set 1
                  generalize setBlock W4.drew r (.map #[⟨K2 0 1, .int .i64 1, 0⟩] 1) = W5 at *
                  clear q0 q1 q2 q3 l1 l2 l3
                  replace hS5 := Lib.hid hS5
                  go_wp2_with fail
                  have hgk2 := hgk2.out
                  go_roundg (10 - (0 + 1))
                  case measure => omega
                  case rel => exact ⟨0 + 1, by omega, rfl, by go_num, rfl, hS5.out, hB5.out⟩
            · have hl := one_look (w := W2.alloc (.cells #[.int .i64 (j : Int), .int .i64 (i : Int)] 30)) (r := r) (v := 1) ((Below.heap_alloc W2 _ r (lt_of_heap hS2.one)).trans hS2.one) (a := j) (b := i) (by omega) (by omega)
              rw [if_neg (by omega)] at hl
              have hS3 : Hid (CSt B b4 b7 r 1 (W2.alloc (.cells #[.int .i64 (j : Int), .int .i64 (i : Int)] 30))) := hS2.below ((Below.refl _ _).alloc (Nat.le_refl _) _)
              have hB3 : Hid (Below B w (W2.alloc (.cells #[.int .i64 (j : Int), .int .i64 (i : Int)] 30))) := hB2.alloc (Nat.le_trans hB hB2.size) _
              have hn : Hid (nOf i (j + 1) = nOf i j) := by show _ = _; unfold nOf; split <;> (try split) <;> (try split) <;> (try split) <;> omega
              unfold K2 at hl
              replace hS2 := Lib.hid hS2; replace hB2 := Lib.hid hB2
              go_wp2_with fail
              have hgk2 := hgk2.out
              go_roundg (10 - (j + 1))
              case measure => omega
              case rel => exact ⟨j + 1, by omega, rfl, by go_num, by rw [hn.out], hS3.out, hB3.out⟩
        · have hj10 : j = 10 := by omega
          have f2 : decide ((j : Int) < 10) = false := by simp; omega
          have hn : Hid (nOf i j = nOf (i + 1) 0) := by show _ = _; subst hj10; exact nOf_end i
          replace hS2 := Lib.hid hS2; replace hB2 := Lib.hid hB2; replace hj10 := Lib.hid hj10
          go_wp2_with fail
          have hgk := hgk.out
          go_roundg (10 - (i + 1))
          case measure => omega
          case rel => exact ⟨i + 1, by omega, rfl, by go_num, by rw [hn.out], hS2.out, hB2.out⟩
    · have hi10 : i = 10 := by omega
      have f1 : decide ((i : Int) < 10) = false := by simp; omega
      have hn : Hid (nOf i 0 = 2) := by show _ = _; subst hi10; rfl
      replace hi10 := Lib.hid hi10
      go_wp2_with fail
      go_ret
      exact ⟨by rw [hn.out]; rfl, hB1.out⟩
end Go.Proofs.Ytgnchgkiijncbaa
