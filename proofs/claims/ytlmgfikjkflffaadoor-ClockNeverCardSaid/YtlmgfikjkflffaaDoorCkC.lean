/- What check and newDevice compute of any control and any uses; conditions: the slice's length fits its kind. -/
import Derived.Test.YtlmgfikjkflffaaDoorNl
import Derived.Test.YtlmgfikjkflffaaDoorCkP
import Derived.IntWalk
namespace Go.Proofs.YtlmgfikjkflffaaDoor
open Go.RowKit

def farI (x : Int) : Bool := decide (x < 0) || decide (x > 36000000)
def fars (xs : List Int) : Bool := xs.any farI
theorem farI_no {x : Int} (h : farI x = false) : 0 ≤ x ∧ x ≤ 36000000 := by unfold farI at h; simp at h; omega
theorem fars_no {xs : List Int} (h : fars xs = false) : ∃ s : List Nat, xs = asI s ∧ ∀ j, st s j ≤ 36000000 := by
  have hx : ∀ x ∈ xs, 0 ≤ x ∧ x ≤ 36000000 := fun x hx => farI_no (by unfold fars at h; rw [List.any_eq_false] at h; simpa using h x hx)
  refine ⟨xs.map Int.toNat, ?_, fun j => ?_⟩
  · unfold asI
    rw [List.map_map]
    conv => lhs; rw [← List.map_id xs]
    apply List.map_congr_left
    intro x hx'
    have := hx x hx'
    simp; omega
  · unfold st
    by_cases hj : j < xs.length
    · have := hx xs[j] (List.getElem_mem hj)
      simp [hj]; omega
    · rw [List.getElem?_eq_none (by simpa using hj)]; simp
theorem fars_asI {s : List Nat} (h : ∀ j, st s j ≤ 36000000) : fars (asI s) = false := by
  unfold fars
  rw [List.any_eq_false]
  intro x hx
  obtain ⟨i, hi, rfl⟩ := List.mem_iff_getElem.1 hx
  have h5 := asI_at s i
  rw [List.getElem?_eq_getElem hi] at h5
  simp only [Option.getD_some] at h5
  have := h i
  rw [h5]
  unfold farI
  simp
  omega

set_option maxHeartbeats 400000 in
theorem far_any (x : Int) (w : World) : Calls Tryd.prog 15 #[.int .i64 x] w fun e w' => e = .returned (.bool (farI x)) ∧ w = w' := by
  by_cases h1 : x < 0
  · have e : Hid (farI x = true) := by show _ = _; unfold farI; simp [h1]
    go_enter Tryd.func15, Tryd.ntmps15
    go_wp2_with fail
    go_ret
    exact ⟨ret_bool (by rw [e.out]), rfl⟩
  · by_cases h2 : 36000000 < x
    · have e : Hid (farI x = true) := by show _ = _; unfold farI; simp [h2]
      go_enter Tryd.func15, Tryd.ntmps15
      go_wp2_with fail
      go_ret
      exact ⟨ret_bool (by rw [e.out]), rfl⟩
    · have e : Hid (farI x = false) := by show _ = _; unfold farI; simp; omega
      have h3 : x ≤ 36000000 := by omega
      go_enter Tryd.func15, Tryd.ntmps15
      go_wp2_with fail
      go_ret
      exact ⟨ret_bool (by rw [e.out]), rfl⟩

def idxO (xs : List Int) (j : Nat) : Prop := ∀ i, i < j → farI (xs[i]?.getD 0) = false
set_option maxHeartbeats 1000000 in
theorem contains_any (p : Option Addr) (n c : Nat) (xs : List Int) (w : World) (hn : n ≤ 9223372036854775807) (hx : IntsIn w p n xs) :
    Calls Tryd.prog 20 #[.slice p n c, .func (.func 15) #[] #[]] w fun e w' => e = .returned (.bool (fars xs)) ∧ w = w' := by
  have hl := hx.len
  have HI : Hid (Calls Tryd.prog 26 #[.slice p n c, .func (.func 15) #[] #[]] w fun e w' => (∃ k : Int, e = .returned (.int .i64 k) ∧ decide (0 ≤ k) = fars xs ∧ -1 ≤ k) ∧ w = w') := by
    replace hl := Lib.hid hl
    go_enter Tryd.func26, Tryd.ntmps26
    go_wp2_with fail
    go_loopg [8] n (fun k i W => ∃ j : Nat, j ≤ n ∧ k = n - j ∧ i = .int .i64 j ∧ idxO xs j ∧ w = W)
    case atStart => exact ⟨0, by omega, by omega, rfl, fun i hi => absurd hi (by omega), rfl⟩
    case round =>
      obtain ⟨j, hj, hk, rfl, hno, rfl⟩ := hrel
      replace hk := Lib.hid hk; replace hno := Lib.hid hno
      by_cases hlt : j < n
      · obtain ⟨b, o, rfl, hb, hc⟩ := hx.at (by omega)
        have hcj := hc j hlt
        obtain ⟨x, hxj⟩ : ∃ x, xs[j]?.getD 0 = x := ⟨_, rfl⟩
        rw [hxj] at hcj
        have HO := Lib.hid (far_any x w)
        obtain ⟨z, hz⟩ : ∃ z, farI x = z := ⟨_, rfl⟩
        rw [hz] at HO
        replace hz := Lib.hid hz; replace hxj := Lib.hid hxj
        clear hx hc
        go_wp2_with fail
        refine HO.out.mono ?_
        rintro e w' ⟨rfl, rfl⟩
        cases z with
        | true =>
          go_wp2_with fail
          go_ret
          refine ⟨⟨j, rfl, ?_, by omega⟩, rfl⟩
          rw [decide_eq_true (by omega)]
          symm
          unfold fars
          rw [List.any_eq_true]
          have hjl : j < xs.length := by have := hl.out; omega
          refine ⟨xs[j], List.getElem_mem hjl, ?_⟩
          have h5 := hxj.out
          rw [List.getElem?_eq_getElem hjl] at h5
          simp only [Option.getD_some] at h5
          rw [h5]; exact hz.out
        | false =>
          go_wp2_with fail
          have hk := hk.out
          go_roundg (n - (j + 1))
          case measure => omega
          case rel => exact ⟨j + 1, by omega, rfl, by go_num, fun i hi => by
            by_cases e : i = j
            · rw [e, hxj.out]; exact hz.out
            · exact hno.out i (by omega), rfl⟩
      · clear hx
        go_wp2_with fail
        go_ret
        refine ⟨⟨-1, rfl, ?_, by omega⟩, rfl⟩
        rw [decide_eq_false (by omega)]
        symm
        unfold fars
        rw [List.any_eq_false]
        intro x hx
        obtain ⟨i, hi, rfl⟩ := List.mem_iff_getElem.1 hx
        have := hno.out i (by have := hl.out; omega)
        rw [List.getElem?_eq_getElem hi] at this
        simpa using this
  clear hx
  go_enter Tryd.func20, Tryd.ntmps20
  go_wp2_with fail
  refine HI.out.mono ?_
  rintro e w' ⟨⟨k, rfl, hk, hk1⟩, rfl⟩
  replace hk := Lib.hid hk
  go_wp2_with fail
  go_ret
  exact ⟨ret_bool hk.out, rfl⟩

def chkE (b k n m r : Int) : Int := if farI b || farI n || farI r || decide (m < 0) || decide (m > 1000) then 3 else if k < 0 ∨ k > 3 then 4 else 0
def ctl (b k n m r : Int) : Value := .agg #[.int .i64 b, .int .i64 k, .int .i64 n, .int .i64 m, .int .i64 r]

set_option maxHeartbeats 2000000 in
theorem check_any (b k n m r : Int) (w : World) : Calls Tryd.prog 14 #[ctl b k n m r] w fun e w' => e = .returned (.int .i64 (chkE b k n m r)) ∧ Below w.heap.size w w' := by
  have hB := Lib.hid ((Below.refl w.heap.size w).alloc (Nat.le_refl _) (.cells #[.int .i64 b, .int .i64 k, .int .i64 n, .int .i64 m, .int .i64 r] 23))
  have he : Hid (chkE b k n m r = if farI b || farI n || farI r || decide (m < 0) || decide (m > 1000) then 3 else if k < 0 ∨ k > 3 then 4 else 0) := Lib.hid rfl
  have Hb := fun W => far_any b W
  have Hn := fun W => far_any n W
  have Hr := fun W => far_any r W
  replace Hb := Lib.hid Hb; replace Hn := Lib.hid Hn; replace Hr := Lib.hid Hr
  unfold ctl
  generalize farI b = fb at *
  generalize farI n = fn at *
  generalize farI r = fr at *
  generalize chkE b k n m r = res at *
  cases fb with
  | true =>
    have hr : Hid (res = 3) := by show res = 3; have := he.out; simpa using this
    go_enter Tryd.func14, Tryd.ntmps14
    go_wp2_with fail
    refine (Hb.out _).mono ?_
    rintro e w' ⟨rfl, rfl⟩
    go_wp2_with fail
    go_ret
    exact ⟨ret_int hr.out.symm, hB.out⟩
  | false =>
  cases fn with
  | true =>
    have hr : Hid (res = 3) := by show res = 3; have := he.out; simpa using this
    go_enter Tryd.func14, Tryd.ntmps14
    go_wp2_with fail
    refine (Hb.out _).mono ?_
    rintro e w' ⟨rfl, rfl⟩
    go_wp2_with fail
    refine (Hn.out _).mono ?_
    rintro e w' ⟨rfl, rfl⟩
    go_wp2_with fail
    go_ret
    exact ⟨ret_int hr.out.symm, hB.out⟩
  | false =>
  cases fr with
  | true =>
    have hr : Hid (res = 3) := by show res = 3; have := he.out; simpa using this
    go_enter Tryd.func14, Tryd.ntmps14
    go_wp2_with fail
    refine (Hb.out _).mono ?_
    rintro e w' ⟨rfl, rfl⟩
    go_wp2_with fail
    refine (Hn.out _).mono ?_
    rintro e w' ⟨rfl, rfl⟩
    go_wp2_with fail
    refine (Hr.out _).mono ?_
    rintro e w' ⟨rfl, rfl⟩
    go_wp2_with fail
    go_ret
    exact ⟨ret_int hr.out.symm, hB.out⟩
  | false =>
  by_cases h1 : m < 0
  · have hr : Hid (res = 3) := by show res = 3; have := he.out; simpa [h1] using this
    go_enter Tryd.func14, Tryd.ntmps14
    go_wp2_with fail
    refine (Hb.out _).mono ?_
    rintro e w' ⟨rfl, rfl⟩
    go_wp2_with fail
    refine (Hn.out _).mono ?_
    rintro e w' ⟨rfl, rfl⟩
    go_wp2_with fail
    refine (Hr.out _).mono ?_
    rintro e w' ⟨rfl, rfl⟩
    go_wp2_with fail
    go_ret
    exact ⟨ret_int hr.out.symm, hB.out⟩
  by_cases h2 : 1000 < m
  · have hr : Hid (res = 3) := by show res = 3; have := he.out; simpa [h2] using this
    go_enter Tryd.func14, Tryd.ntmps14
    go_wp2_with fail
    refine (Hb.out _).mono ?_
    rintro e w' ⟨rfl, rfl⟩
    go_wp2_with fail
    refine (Hn.out _).mono ?_
    rintro e w' ⟨rfl, rfl⟩
    go_wp2_with fail
    refine (Hr.out _).mono ?_
    rintro e w' ⟨rfl, rfl⟩
    go_wp2_with fail
    go_ret
    exact ⟨ret_int hr.out.symm, hB.out⟩
  have h1' : 0 ≤ m := by omega
  have h2' : m ≤ 1000 := by omega
  clear h1 h2
  by_cases h3 : k < 0
  · have hr : Hid (res = 4) := by
      have := he.out
      rw [if_neg (by simp; omega), if_pos (by omega)] at this
      exact this
    go_enter Tryd.func14, Tryd.ntmps14
    go_wp2_with fail
    refine (Hb.out _).mono ?_
    rintro e w' ⟨rfl, rfl⟩
    go_wp2_with fail
    refine (Hn.out _).mono ?_
    rintro e w' ⟨rfl, rfl⟩
    go_wp2_with fail
    refine (Hr.out _).mono ?_
    rintro e w' ⟨rfl, rfl⟩
    go_wp2_with fail
    go_ret
    exact ⟨ret_int hr.out.symm, hB.out⟩
  have h3' : 0 ≤ k := by omega
  clear h3
  by_cases h4 : 3 < k
  · have hr : Hid (res = 4) := by
      have := he.out
      rw [if_neg (by simp; omega), if_pos (by omega)] at this
      exact this
    go_enter Tryd.func14, Tryd.ntmps14
    go_wp2_with fail
    refine (Hb.out _).mono ?_
    rintro e w' ⟨rfl, rfl⟩
    go_wp2_with fail
    refine (Hn.out _).mono ?_
    rintro e w' ⟨rfl, rfl⟩
    go_wp2_with fail
    refine (Hr.out _).mono ?_
    rintro e w' ⟨rfl, rfl⟩
    go_wp2_with fail
    go_ret
    exact ⟨ret_int hr.out.symm, hB.out⟩
  have h4' : k ≤ 3 := by omega
  clear h4
  have hr : Hid (res = 0) := by
    have := he.out
    rw [if_neg (by simp; omega), if_neg (by omega)] at this
    exact this
  go_enter Tryd.func14, Tryd.ntmps14
  go_wp2_with fail
  refine (Hb.out _).mono ?_
  rintro e w' ⟨rfl, rfl⟩
  go_wp2_with fail
  refine (Hn.out _).mono ?_
  rintro e w' ⟨rfl, rfl⟩
  go_wp2_with fail
  refine (Hr.out _).mono ?_
  rintro e w' ⟨rfl, rfl⟩
  go_wp2_with fail
  go_ret
  exact ⟨ret_int hr.out.symm, hB.out⟩
end Go.Proofs.YtlmgfikjkflffaaDoor
