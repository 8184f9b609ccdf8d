/- What slices.Contains computes, and stones.vital, and whether a region touches a group; conditions: lists of at most 1000 places, parts as they lie. -/
import Derived.Test.YtefjliblaeadfaaPtM
namespace Go.Proofs.Ytefjliblaeadfaa
open Go.RowKit

theorem asI_get (l : List Nat) (j : Nat) : (asI l)[j]?.getD 0 = ((st l j : Nat) : Int) := asI_at l j
set_option maxHeartbeats 2000000 in
theorem has_any (q : Option Addr) (c : Nat) (l : List Nat) (x : Nat) (w : World) (hn : l.length ≤ 1000) (hx : IntsIn w q l.length (asI l)) :
    Calls Try.prog 29 #[.slice q l.length c, .int .i64 (x : Int)] w fun e w' => e = .returned (.bool (l.contains x)) ∧ w = w' := by
  have HI : Hid (Calls Try.prog 34 #[.slice q l.length c, .int .i64 (x : Int)] w fun e w' => (∃ k : Int, e = .returned (.int .i64 k) ∧ decide (0 ≤ k) = l.contains x ∧ -1 ≤ k) ∧ w = w') := by
    go_enter Try.func34, Try.ntmps34
    go_wp2_with fail
    go_loopg [8] l.length (fun k i W => ∃ j : Nat, j ≤ l.length ∧ k = l.length - j ∧ i = .int .i64 j ∧ (∀ i, i < j → st l i ≠ x) ∧ w = W)
    case atStart => exact ⟨0, by omega, by omega, rfl, fun i hi => absurd hi (by omega), rfl⟩
    case round =>
      obtain ⟨j, hj, hk, rfl, hno, rfl⟩ := hrel
      replace hk := Lib.hid hk; replace hno := Lib.hid hno
      by_cases hlt : j < l.length
      · obtain ⟨b, o, rfl, hb, hc⟩ := hx.at (by omega)
        have hcj := hc j hlt
        rw [asI_get] at hcj
        have hmem := Lib.hid (st_mem hlt)
        obtain ⟨y, hy⟩ : ∃ y, y = st l j := ⟨_, rfl⟩
        rw [← hy] at hcj hmem
        replace hy := Lib.hid hy
        clear hx hc
        by_cases hxy : x = y
        · subst hxy
          go_wp2_with fail
          go_ret
          refine ⟨⟨j, rfl, ?_, by omega⟩, rfl⟩
          rw [decide_eq_true (by omega)]
          symm; simpa using hmem.out
        · have hxi : ¬ (x : Int) = (y : Int) := by omega
          go_wp2_with fail
          have hk := hk.out
          go_roundg (l.length - (j + 1))
          case measure => omega
          case rel => exact ⟨j + 1, by omega, rfl, by go_num, fun i hi => by
            by_cases e : i = j
            · rw [e, ← hy.out]; exact fun h => hxy h.symm
            · exact hno.out i (by omega), rfl⟩
      · clear hx
        go_wp2_with fail
        go_ret
        refine ⟨⟨-1, rfl, ?_, by omega⟩, rfl⟩
        rw [decide_eq_false (by omega)]
        symm
        have : x ∉ l := fun hm => by
          obtain ⟨i, hi, e⟩ := mem_st hm
          exact hno.out i (by omega) e
        simpa using this
  clear hx
  generalize l.contains x = z at *
  go_enter Try.func29, Try.ntmps29
  go_wp2_with fail
  refine HI.out.mono ?_
  rintro e w' ⟨⟨k, rfl, hk, hk1⟩, rfl⟩
  replace hk := Lib.hid hk
  go_wp2_with fail
  go_ret
  exact ⟨ret_bool hk.out, rfl⟩
set_option maxHeartbeats 2000000 in
/-- does a function say yes of one of a list? -/
theorem conf28 (kb : Nat) (f : Nat → Bool) (q : Option Addr) (c : Nat) (l : List Nat) (w : World) (hn : l.length ≤ 1000) (hx : IntsIn w q l.length (asI l))
    (HF : ∀ v, v ∈ l → Calls Try.prog 28 #[.int .i64 ((v : Nat) : Int), .pointer (some ⟨kb, 0, none⟩)] w fun e w' => e = .returned (.bool (f v)) ∧ w = w') :
    Calls Try.prog 19 #[.slice q l.length c, .func (.func 28) #[] #[.pointer (some ⟨kb, 0, none⟩)]] w fun e w' => e = .returned (.bool (l.any f)) ∧ w = w' := by
  have HI : Hid (Calls Try.prog 32 #[.slice q l.length c, .func (.func 28) #[] #[.pointer (some ⟨kb, 0, none⟩)]] w fun e w' => (∃ k : Int, e = .returned (.int .i64 k) ∧ decide (0 ≤ k) = l.any f ∧ -1 ≤ k) ∧ w = w') := by
    have HF' := Lib.hid HF
    clear HF
    go_enter Try.func32, Try.ntmps32
    go_wp2_with fail
    go_loopg [8] l.length (fun k i W => ∃ j : Nat, j ≤ l.length ∧ k = l.length - j ∧ i = .int .i64 j ∧ (∀ i, i < j → f (st l i) = false) ∧ w = W)
    case atStart => exact ⟨0, by omega, by omega, rfl, fun i hi => absurd hi (by omega), rfl⟩
    case round =>
      obtain ⟨j, hj, hk, rfl, hno, rfl⟩ := hrel
      replace hk := Lib.hid hk; replace hno := Lib.hid hno
      by_cases hlt : j < l.length
      · obtain ⟨b, o, rfl, hb, hc⟩ := hx.at (by omega)
        have hcj := hc j hlt
        rw [asI_get] at hcj
        have hmem := Lib.hid (st_mem hlt)
        have HO := Lib.hid (HF'.out _ (st_mem hlt))
        obtain ⟨y, hy⟩ : ∃ y, y = st l j := ⟨_, rfl⟩
        rw [← hy] at hcj hmem HO
        replace hy := Lib.hid hy
        clear hx hc
        obtain ⟨z, hz⟩ : ∃ z, f y = z := ⟨_, rfl⟩
        rw [hz] at HO
        replace hz := Lib.hid hz
        go_wp2_with fail
        refine HO.out.mono ?_
        rintro e w' ⟨rfl, rfl⟩
        cases z with
        | true =>
          go_wp2_with fail
          go_ret
          refine ⟨⟨j, rfl, ?_, by omega⟩, rfl⟩
          rw [decide_eq_true (by omega)]
          symm
          exact List.any_eq_true.2 ⟨y, hmem.out, hz.out⟩
        | false =>
          go_wp2_with fail
          have hk := hk.out
          go_roundg (l.length - (j + 1))
          case measure => omega
          case rel => exact ⟨j + 1, by omega, rfl, by go_num, fun i hi => by
            by_cases e : i = j
            · rw [e, ← hy.out]; exact hz.out
            · exact hno.out i (by omega), rfl⟩
      · clear hx
        go_wp2_with fail
        go_ret
        refine ⟨⟨-1, rfl, ?_, by omega⟩, rfl⟩
        rw [decide_eq_false (by omega)]
        symm
        rw [List.any_eq_false]
        intro x hm
        obtain ⟨i, hi, e⟩ := mem_st hm
        have := hno.out i (by omega)
        rw [e] at this; simpa using this
  clear hx HF
  generalize l.any f = z at *
  go_enter Try.func19, Try.ntmps19
  go_wp2_with fail
  refine HI.out.mono ?_
  rintro e w' ⟨⟨k, rfl, hk, hk1⟩, rfl⟩
  replace hk := Lib.hid hk
  go_wp2_with fail
  go_ret
  exact ⟨ret_bool hk.out, rfl⟩
set_option maxHeartbeats 400000 in
theorem al1_any (kb x v : Nat) (w : World) (hc : w.cell? ⟨kb, 0, none⟩ = some (.int .i64 (x : Int))) : Calls Try.prog 25 #[.int .i64 (v : Int), .pointer (some ⟨kb, 0, none⟩)] w fun e w' => e = .returned (.bool (v == x)) ∧ w = w' := by
  go_enter Try.func25, Try.ntmps25
  go_wp2_with fail
  go_ret
  exact ⟨ret_bool (by rw [Bool.eq_iff_iff]; simp; omega), rfl⟩
set_option maxHeartbeats 400000 in
theorem al2_any (kb x v : Nat) (w : World) (hc : w.cell? ⟨kb, 0, none⟩ = some (.int .i64 (x : Int))) : Calls Try.prog 26 #[.int .i64 (v : Int), .pointer (some ⟨kb, 0, none⟩)] w fun e w' => e = .returned (.bool (v != x)) ∧ w = w' := by
  go_enter Try.func26, Try.ntmps26
  go_wp2_with fail
  go_ret
  exact ⟨ret_bool (by rw [Bool.eq_iff_iff]; simp; omega), rfl⟩
set_option maxHeartbeats 400000 in
theorem al3_any (kb bg v c1 : Nat) (q1 : Option Addr) (l1 : List Nat) (w : World) (hc : w.cell? ⟨kb, 0, none⟩ = some (.pointer (some ⟨bg, 0, none⟩))) (hg : w.cell? ⟨bg, 0, none⟩ = some (.slice q1 l1.length c1)) (hn : l1.length ≤ 1000) (hx : IntsIn w q1 l1.length (asI l1)) :
    Calls Try.prog 28 #[.int .i64 (v : Int), .pointer (some ⟨kb, 0, none⟩)] w fun e w' => e = .returned (.bool (l1.contains v)) ∧ w = w' := by
  have HC := Lib.hid (has_any q1 c1 l1 v w hn hx)
  clear hx
  generalize l1.contains v = z at *
  go_enter Try.func28, Try.ntmps28
  go_wp2_with fail
  refine HC.out.mono ?_
  rintro e w' ⟨rfl, rfl⟩
  go_wp2_with fail
  go_ret
  exact ⟨rfl, rfl⟩
end Go.Proofs.Ytefjliblaeadfaa
