/- What crib.jack computes; conditions: five cards below 52. -/
import Derived.Test.YtkakggagaplaiaaCrR
namespace Go.Proofs.Ytkakggagaplaiaa
open Go.RowKit

def jk1 (x y : Nat) : Bool := decide (pipN x = 11) && decide (x % 4 = y % 4)
set_option maxHeartbeats 2000000 in
theorem jack1_any (bx b o c x y : Nat) (w : World) (hx : x < 52) (hb : w.cell? ⟨bx, 0, none⟩ = some (.slice (some ⟨b, o, none⟩) 5 c)) (hy : w.cell? ⟨b, o + 4, none⟩ = some (.int .i64 (y : Nat))) :
    Calls Try.prog 106 #[.int .i64 x, .pointer (some ⟨bx, 0, none⟩)] w fun e w' => e = .returned (.bool (jk1 x y)) ∧ w = w' := by
  obtain ⟨R, hR⟩ : ∃ R, R = jk1 x y := ⟨_, rfl⟩
  rw [← hR]
  unfold jk1 at hR
  have HP := Lib.hid (pip_any x w (by omega))
  have hmod : ∀ x : Nat, (x : Int) % 4 = ((x % 4 : Nat) : Int) := fun x => by push_cast; rfl
  have hmod2 : ∀ x : Nat, (x : Int).tmod 4 = ((x % 4 : Nat) : Int) := fun x => by rw [Int.tmod_eq_emod_of_nonneg (by omega)]; exact hmod x
  have q0 := hmod2 x
  have q0' := hmod x
  have q4 := hmod2 y
  have q4' := hmod y
  clear hmod hmod2
  generalize pipN x = P at *
  generalize x % 4 = S at *
  generalize y % 4 = T at *
  by_cases hP : P = 11
  · subst hP
    by_cases hS : S = T
    · subst hS
      have hRe : Hid (R = true) := by show _ = _; rw [hR]; simp
      clear hR
      go_enter Try.func106, Try.ntmps106
      go_wp2_with fail
      refine HP.out.mono ?_
      rintro e w' ⟨rfl, rfl⟩
      go_wp2_with fail
      go_ret
      exact ⟨ret_bool hRe.out.symm, rfl⟩
    · have eb : ((S : Int) == (T : Int)) = false := by simp; omega
      have hRe : Hid (R = false) := by show _ = _; rw [hR]; simp [hS]
      clear hR
      go_enter Try.func106, Try.ntmps106
      go_wp2_with fail
      refine HP.out.mono ?_
      rintro e w' ⟨rfl, rfl⟩
      go_wp2_with fail
      go_ret
      exact ⟨ret_bool hRe.out.symm, rfl⟩
  · have eb : ((P : Int) == 11) = false := by simp; omega
    have hRe : Hid (R = false) := by show _ = _; rw [hR]; simp [hP]
    clear hR
    go_enter Try.func106, Try.ntmps106
    go_wp2_with fail
    refine HP.out.mono ?_
    rintro e w' ⟨rfl, rfl⟩
    go_wp2_with fail
    go_ret
    exact ⟨ret_bool hRe.out.symm, rfl⟩
set_option maxHeartbeats 2000000 in
theorem indexJ (bx b o c c2 : Nat) (l : List Nat) (w : World) (hl : ∀ i, i < 5 → st l i < 52) (hb : w.cell? ⟨bx, 0, none⟩ = some (.slice (some ⟨b, o, none⟩) 5 c)) (hcell : ∀ j, j < 5 → w.cell? ⟨b, o + j, none⟩ = some (.int .i64 (st l j : Nat))) :
    Calls Try.prog 81 #[.slice (some ⟨b, o, none⟩) 4 c2, .func (.func 106) #[] #[.pointer (some ⟨bx, 0, none⟩)]] w fun e w' => ((e = .returned (.int .i64 (-1)) ∧ ∀ j, j < 4 → jk1 (st l j) (st l 4) = false) ∨ ∃ i : Nat, e = .returned (.int .i64 i) ∧ i < 4 ∧ jk1 (st l i) (st l 4) = true) ∧ w = w' := by
  have HJ : Hid (∀ j, j < 5 → Calls Try.prog 106 #[.int .i64 (st l j : Nat), .pointer (some ⟨bx, 0, none⟩)] w fun e w' => e = .returned (.bool (jk1 (st l j) (st l 4))) ∧ w = w') := fun j hj => jack1_any bx b o c _ _ w (hl j hj) hb (hcell 4 (by omega))
  replace hcell := Lib.hid hcell; replace hl := Lib.hid hl
  clear hb
  go_enter Try.func81, Try.ntmps81
  go_wp2_with fail
  go_loopg [8] 4 (fun k i W => ∃ j : Nat, j ≤ 4 ∧ k = 4 - j ∧ i = .int .i64 j ∧ Hid (∀ t, t < j → jk1 (st l t) (st l 4) = false) ∧ w = W)
  case atStart => exact ⟨0, by omega, by omega, rfl, fun t ht => absurd ht (by omega), rfl⟩
  case round =>
    obtain ⟨j, hj, hk, rfl, hno, rfl⟩ := hrel
    replace hk := Lib.hid hk
    by_cases hlt : j < 4
    · have c0 := hcell.out j (by omega)
      have HO := Lib.hid (HJ.out j (by omega))
      obtain ⟨x, hxe⟩ : ∃ x, st l j = x := ⟨_, rfl⟩
      rw [hxe] at c0 HO
      cases hf : jk1 x (st l 4) with
      | true =>
        rw [hf] at HO
        have hf' : Hid (jk1 (st l j) (st l 4) = true) := by show _ = _; rw [hxe]; exact hf
        replace hxe := Lib.hid hxe
        clear hf
        go_wp2_with fail
        refine HO.out.mono ?_
        rintro e w' ⟨rfl, rfl⟩
        go_wp2_with fail
        go_ret
        exact ⟨.inr ⟨j, rfl, hlt, hf'.out⟩, rfl⟩
      | false =>
        rw [hf] at HO
        have hf' : Hid (jk1 (st l j) (st l 4) = false) := by show _ = _; rw [hxe]; exact hf
        replace hxe := Lib.hid hxe
        clear hf
        go_wp2_with fail
        refine HO.out.mono ?_
        rintro e w' ⟨rfl, rfl⟩
        go_wp2_with fail
        have hk := hk.out
        go_roundg (4 - (j + 1))
        case measure => omega
        case rel => exact ⟨j + 1, by omega, rfl, by go_num, fun t ht => by
          by_cases e : t = j
          · rw [e]; exact hf'.out
          · exact hno.out t (by omega), rfl⟩
    · obtain rfl : j = 4 := by omega
      go_wp2_with fail
      go_ret
      exact ⟨.inl ⟨rfl, hno.out⟩, rfl⟩
set_option maxHeartbeats 2000000 in
theorem containsJ (bx b o c c2 : Nat) (l : List Nat) (w : World) (hl : ∀ i, i < 5 → st l i < 52) (hb : w.cell? ⟨bx, 0, none⟩ = some (.slice (some ⟨b, o, none⟩) 5 c)) (hcell : ∀ j, j < 5 → w.cell? ⟨b, o + j, none⟩ = some (.int .i64 (st l j : Nat))) :
    Calls Try.prog 66 #[.slice (some ⟨b, o, none⟩) 4 c2, .func (.func 106) #[] #[.pointer (some ⟨bx, 0, none⟩)]] w fun e w' => e = .returned (.bool (jkB l 0 || jkB l 1 || jkB l 2 || jkB l 3)) ∧ w = w' := by
  have HI := Lib.hid (indexJ bx b o c c2 l w hl hb hcell)
  obtain ⟨R, hR⟩ : ∃ R, R = (jkB l 0 || jkB l 1 || jkB l 2 || jkB l 3) := ⟨_, rfl⟩
  rw [← hR]
  have hj : ∀ i, jk1 (st l i) (st l 4) = jkB l i := fun i => rfl
  replace hR := Lib.hid hR; replace hj := Lib.hid hj
  clear hb hcell hl
  go_enter Try.func66, Try.ntmps66
  go_wp2_with fail
  refine HI.out.mono ?_
  rintro e w' ⟨⟨rfl, hno⟩ | ⟨i, rfl, hi, hy⟩, rfl⟩
  · have hRe : Hid (R = false) := by
      show _ = _
      rw [hR.out, ← hj.out 0, ← hj.out 1, ← hj.out 2, ← hj.out 3, hno 0 (by omega), hno 1 (by omega), hno 2 (by omega), hno 3 (by omega)]; rfl
    clear hno HI
    go_wp2_with fail
    go_ret
    exact ⟨ret_bool hRe.out.symm, rfl⟩
  · have hRe : Hid (R = true) := by
      show _ = _
      rw [hj.out] at hy
      rw [hR.out]
      rcases (show i = 0 ∨ i = 1 ∨ i = 2 ∨ i = 3 by omega) with rfl | rfl | rfl | rfl <;> rw [hy] <;> simp
    have h0 : (0 : Int) ≤ (i : Int) := by omega
    clear hy HI
    go_wp2_with fail
    go_ret
    exact ⟨ret_bool hRe.out.symm, rfl⟩
set_option maxHeartbeats 2000000 in
theorem jack_any (p : Option Addr) (c : Nat) (cr : Bool) (l : List Nat) (w : World) (hc : 5 ≤ c) (hx : IntsIn w p 5 (asI l)) (hl : ∀ i, i < 5 → st l i < 52) :
    Calls Try.prog 88 #[.slice p 5 c, .bool cr] w fun e w' => e = .returned (.int .i64 (jkS l : Nat)) ∧ Below w.heap.size w w' := by
  obtain ⟨bb, oo, rfl, hbb, hcc⟩ := hx.at (by omega)
  have hB := (Below.refl w.heap.size w).alloc (Nat.le_refl _) (.cells #[.slice (some ⟨bb, oo, none⟩) 5 c] 22)
  have hcell : ∀ j, j < 5 → (w.alloc (.cells #[.slice (some ⟨bb, oo, none⟩) 5 c] 22)).cell? ⟨bb, oo + j, none⟩ = some (.int .i64 (st l j : Nat)) := fun j hj => by
    rw [hB.cell (p := ⟨bb, oo + j, none⟩) hbb, hcc j hj, asI_at]
  have hb : (w.alloc (.cells #[.slice (some ⟨bb, oo, none⟩) 5 c] 22)).cell? ⟨w.heap.size, 0, none⟩ = some (.slice (some ⟨bb, oo, none⟩) 5 c) := wcell (cs := [_]) (heap_alloc_new w _) 0
  have HC := Lib.hid (containsJ w.heap.size bb oo c c l _ hl hb hcell)
  obtain ⟨R, hR⟩ : ∃ R, R = jkS l := ⟨_, rfl⟩
  rw [← hR]
  unfold jkS at hR
  have i1 : (4 : Int) ≤ (c : Int) := by omega
  clear hcc hcell hx
  replace hB := Lib.hid hB
  go_enter Try.func88, Try.ntmps88
  go_wp2_with fail
  cases hJ : (jkB l 0 || jkB l 1 || jkB l 2 || jkB l 3) with
  | true =>
    rw [hJ] at HC hR
    refine HC.out.mono ?_
    rintro e w' ⟨rfl, rfl⟩
    replace hR := Lib.hid hR
    clear hJ HC
    go_wp2_with fail
    go_ret
    rw [hR.out]
    exact ⟨rfl, hB.out⟩
  | false =>
    rw [hJ] at HC hR
    refine HC.out.mono ?_
    rintro e w' ⟨rfl, rfl⟩
    replace hR := Lib.hid hR
    clear hJ HC
    go_wp2_with fail
    go_ret
    rw [hR.out]
    exact ⟨rfl, hB.out⟩
end Go.Proofs.Ytkakggagaplaiaa
