/- What rows.May computes of any board, and lists of small numbers as lists of ints; conditions: the slice's length fits its kind. -/
import Derived.Test.YtcibkchfdiijfaaGen
import Derived.Test.YtcibkchfdiijfaaPick
import Derived.IntWalk
namespace Go.Proofs.Ytcibkchfdiijfaa
open Go.RowKit

def st (s : List Nat) (i : Nat) : Nat := s[i]?.getD 0
def asI (s : List Nat) : List Int := s.map fun x : Nat => (x : Int)
theorem asI_at (s : List Nat) (j : Nat) : (asI s)[j]?.getD 0 = (st s j : Nat) := by
  unfold asI st
  by_cases h : j < s.length <;> simp [h]
theorem asI_len (s : List Nat) : (asI s).length = s.length := by simp [asI]
theorem asI_app (s t : List Nat) : asI (s ++ t) = asI s ++ asI t := by simp [asI]
theorem asI_set (s : List Nat) (i v : Nat) : asI (s.set i v) = (asI s).set i v := by simp [asI, List.map_set]
theorem asI_inj {s t : List Nat} (h : asI s = asI t) : s = t := by
  have := congrArg (List.map Int.toNat) h
  simpa [asI, Function.comp_def] using this
theorem intG : IntT Try.prog 22 3 := ⟨Try.underlying22, by kernel_rfl⟩
theorem IntsIn.cellN {w : World} {b o n : Nat} {s : List Nat} (h : IntsIn w (some ⟨b, o, none⟩) n (asI s)) {i : Nat} (hi : i < n) : w.cell? ⟨b, o + i, none⟩ = some (.int .i64 (st s i : Nat)) := by
  obtain ⟨b', o', e, _, hc⟩ := h.at (by omega)
  cases e
  rw [← asI_at, ← hc i hi]

def offI (x : Int) : Bool := decide (x < 0) || decide (x > 2)
def offs (xs : List Int) : Bool := xs.any offI
def mayG (W H : Int) (xs : List Int) : Bool := decide (1 ≤ W ∧ W ≤ 10 ∧ 1 ≤ H ∧ H ≤ 10 ∧ (xs.length : Int) = W * H) && !offs xs
theorem mayG_yes {W H : Int} {xs : List Int} (h : mayG W H xs = true) : ∃ (a b : Nat) (s : List Nat), W = a ∧ H = b ∧ xs = asI s ∧ 1 ≤ a ∧ a ≤ 10 ∧ 1 ≤ b ∧ b ≤ 10 ∧ s.length = a * b ∧ ∀ j, st s j ≤ 2 := by
  unfold mayG at h
  rw [Bool.and_eq_true, decide_eq_true_iff, Bool.not_eq_true'] at h
  obtain ⟨⟨h1, h2, h3, h4, h5⟩, h6⟩ := h
  have hx : ∀ x ∈ xs, 0 ≤ x ∧ x ≤ 2 := by
    intro x hx
    unfold offs at h6
    rw [List.any_eq_false] at h6
    have := h6 x hx
    unfold offI at this
    simp at this
    omega
  have hs : xs = asI (xs.map Int.toNat) := by
    unfold asI
    rw [List.map_map]
    conv => lhs; rw [← List.map_id xs]
    apply List.map_congr_left
    intro x hx'
    have := hx x hx'
    simp; omega
  refine ⟨W.toNat, H.toNat, xs.map Int.toNat, by omega, by omega, hs, by omega, by omega, by omega, by omega, ?_, fun j => ?_⟩
  · rw [List.length_map]
    have e1 : W = (W.toNat : Int) := by omega
    have e2 : H = (H.toNat : Int) := by omega
    rw [e1, e2] at h5
    exact_mod_cast h5
  · unfold st
    by_cases hj : j < xs.length
    · have := hx xs[j] (List.getElem_mem hj)
      simp [hj]; omega
    · rw [List.getElem?_eq_none (by simpa using hj)]; simp
theorem mayG_of {a b : Nat} {s : List Nat} (h1 : 1 ≤ a) (h2 : a ≤ 10) (h3 : 1 ≤ b) (h4 : b ≤ 10) (hl : s.length = a * b) (hs : ∀ j, st s j ≤ 2) : mayG a b (asI s) = true := by
  unfold mayG
  rw [Bool.and_eq_true, decide_eq_true_iff, Bool.not_eq_true']
  refine ⟨⟨by omega, by omega, by omega, by omega, by rw [asI_len, hl]; push_cast; rfl⟩, ?_⟩
  unfold offs
  rw [List.any_eq_false]
  intro x hx
  obtain ⟨i, hi, rfl⟩ := List.mem_iff_getElem.1 hx
  have h5 := asI_at s i
  rw [List.getElem?_eq_getElem hi] at h5
  simp only [Option.getD_some] at h5
  have := hs i
  rw [h5]
  unfold offI
  simp
  omega

set_option maxHeartbeats 400000 in
theorem off_any (x : Int) (w : World) : Calls Try.prog 35 #[.int .i64 x] w fun e w' => e = .returned (.bool (offI x)) ∧ w = w' := by
  by_cases h1 : x < 0
  · have e : Hid (offI x = true) := by show _ = _; unfold offI; simp [h1]
    go_enter Try.func35, Try.ntmps35
    go_wp2_with fail
    go_ret
    exact ⟨ret_bool (by rw [e.out]), rfl⟩
  · by_cases h2 : 2 < x
    · have e : Hid (offI x = true) := by show _ = _; unfold offI; simp [h2]
      go_enter Try.func35, Try.ntmps35
      go_wp2_with fail
      go_ret
      exact ⟨ret_bool (by rw [e.out]), rfl⟩
    · have e : Hid (offI x = false) := by show _ = _; unfold offI; simp; omega
      have h3 : x ≤ 2 := by omega
      go_enter Try.func35, Try.ntmps35
      go_wp2_with fail
      go_ret
      exact ⟨ret_bool (by rw [e.out]), rfl⟩

def idxO (xs : List Int) (j : Nat) : Prop := ∀ i, i < j → offI (xs[i]?.getD 0) = false
set_option maxHeartbeats 1000000 in
theorem contains_any (p : Option Addr) (n c : Nat) (xs : List Int) (w : World) (hn : n ≤ 9223372036854775807) (hx : IntsIn w p n xs) :
    Calls Try.prog 24 #[.slice p n c, .func (.func 35) #[] #[]] w fun e w' => e = .returned (.bool (offs xs)) ∧ w = w' := by
  have hl := hx.len
  have HI : Hid (Calls Try.prog 31 #[.slice p n c, .func (.func 35) #[] #[]] w fun e w' => (∃ k : Int, e = .returned (.int .i64 k) ∧ decide (0 ≤ k) = offs xs ∧ -1 ≤ k) ∧ w = w') := by
    replace hl := Lib.hid hl
    go_enter Try.func31, Try.ntmps31
    go_wp2_with fail
    go_loopg [8] n (fun k i W => ∃ j : Nat, j ≤ n ∧ k = n - j ∧ i = .int .i64 j ∧ idxO xs j ∧ w = W)
    case atStart => exact ⟨0, by omega, by omega, rfl, fun i hi => absurd hi (by omega), rfl⟩
    case round =>
      obtain ⟨j, hj, hk, rfl, hno, rfl⟩ := hrel
      replace hk := Lib.hid hk; replace hno := Lib.hid hno
      by_cases hlt : j < n
      · obtain ⟨b, o, rfl, hb, hc⟩ := hx.at (by omega)
        have hcj := hc j hlt
        obtain ⟨x, hxj⟩ : ∃ x, xs[j]?.getD 0 = x := ⟨_, rfl⟩
        rw [hxj] at hcj
        have HO := Lib.hid (off_any x w)
        obtain ⟨z, hz⟩ : ∃ z, offI x = z := ⟨_, rfl⟩
        rw [hz] at HO
        replace hz := Lib.hid hz; replace hxj := Lib.hid hxj
        clear hx hc
        go_wp2_with fail
        refine HO.out.mono ?_
        rintro e w' ⟨rfl, rfl⟩
        cases z with
        | true =>
          go_wp2_with fail
          go_ret
          refine ⟨⟨j, rfl, ?_, by omega⟩, rfl⟩
          rw [decide_eq_true (by omega)]
          symm
          unfold offs
          rw [List.any_eq_true]
          have hjl : j < xs.length := by have := hl.out; omega
          refine ⟨xs[j], List.getElem_mem hjl, ?_⟩
          have h5 := hxj.out
          rw [List.getElem?_eq_getElem hjl] at h5
          simp only [Option.getD_some] at h5
          rw [h5]; exact hz.out
        | false =>
          go_wp2_with fail
          have hk := hk.out
          go_roundg (n - (j + 1))
          case measure => omega
          case rel => exact ⟨j + 1, by omega, rfl, by go_num, fun i hi => by
            by_cases e : i = j
            · rw [e, hxj.out]; exact hz.out
            · exact hno.out i (by omega), rfl⟩
      · clear hx
        go_wp2_with fail
        go_ret
        refine ⟨⟨-1, rfl, ?_, by omega⟩, rfl⟩
        rw [decide_eq_false (by omega)]
        symm
        unfold offs
        rw [List.any_eq_false]
        intro x hx
        obtain ⟨i, hi, rfl⟩ := List.mem_iff_getElem.1 hx
        have := hno.out i (by have := hl.out; omega)
        rw [List.getElem?_eq_getElem hi] at this
        simpa using this
  clear hx
  go_enter Try.func24, Try.ntmps24
  go_wp2_with fail
  refine HI.out.mono ?_
  rintro e w' ⟨⟨k, rfl, hk, hk1⟩, rfl⟩
  replace hk := Lib.hid hk
  go_wp2_with fail
  go_ret
  exact ⟨ret_bool hk.out, rfl⟩

set_option maxHeartbeats 1000000 in
theorem may_any (q : Option Addr) (n c : Nat) (W H : Int) (xs : List Int) (w : World) (hn : n ≤ 9223372036854775807) (hW1 : -9223372036854775808 ≤ W) (hW2 : W ≤ 9223372036854775807) (hH1 : -9223372036854775808 ≤ H) (hH2 : H ≤ 9223372036854775807) (hx : IntsIn w q n xs) :
    Calls Try.prog 28 #[.agg #[.int .i64 W, .int .i64 H, .slice q n c]] w fun e w' => e = .returned (.bool (mayG W H xs)) ∧ Below w.heap.size w w' := by
  have hl := hx.len
  have hB := Lib.hid ((Below.refl w.heap.size w).alloc (Nat.le_refl _) (.cells #[.int .i64 W, .int .i64 H, .slice q n c] 24))
  by_cases hok : 1 ≤ W ∧ W ≤ 10 ∧ 1 ≤ H ∧ H ≤ 10 ∧ (n : Int) = W * H
  · have hm : Hid (mayG W H xs = !offs xs) := by show _ = _; unfold mayG; rw [hl, decide_eq_true hok]; rfl
    obtain ⟨h1, h2, h3, h4, h5⟩ := hok
    have hn9 : (n : Int) ≤ 100 := by
      obtain ⟨a, rfl⟩ : ∃ a : Nat, W = a := ⟨W.toNat, by omega⟩
      obtain ⟨b, rfl⟩ : ∃ b : Nat, H = b := ⟨H.toNat, by omega⟩
      have := Nat.mul_le_mul (show a ≤ 10 by omega) (show b ≤ 10 by omega)
      rw [h5]; exact_mod_cast this
    have hz : ((n : Int) == (n : Int)) = true := by simp
    have hmw : W * H = n := h5.symm
    have HC := Lib.hid (contains_any q n c xs (w.alloc (.cells #[.int .i64 W, .int .i64 H, .slice q n c] 24)) hn (hx.alloc _))
    clear hx h5 hl
    go_enter Try.func28, Try.ntmps28
    go_wp2_with fail
    refine HC.out.mono ?_
    rintro e w' ⟨rfl, rfl⟩
    go_wp2_with fail
    go_ret
    exact ⟨ret_bool (by rw [hm.out]), hB.out⟩
  · have hm : Hid (mayG W H xs = false) := by show _ = _; unfold mayG; rw [hl, decide_eq_false hok]; rfl
    clear hx hl
    by_cases h1 : W < 1
    · replace hok := Lib.hid hok
      go_enter Try.func28, Try.ntmps28
      go_wp2_with fail
      go_ret
      exact ⟨ret_bool hm.out.symm, hB.out⟩
    · by_cases h2 : 10 < W
      · replace hok := Lib.hid hok
        go_enter Try.func28, Try.ntmps28
        go_wp2_with fail
        go_ret
        exact ⟨ret_bool hm.out.symm, hB.out⟩
      · by_cases h3 : H < 1
        · have h1' : 1 ≤ W := by omega
          have h2' : W ≤ 10 := by omega
          clear h1 h2
          replace hok := Lib.hid hok
          go_enter Try.func28, Try.ntmps28
          go_wp2_with fail
          go_ret
          exact ⟨ret_bool hm.out.symm, hB.out⟩
        · by_cases h4 : 10 < H
          · have h1' : 1 ≤ W := by omega
            have h2' : W ≤ 10 := by omega
            have h3' : 1 ≤ H := by omega
            clear h1 h2 h3
            replace hok := Lib.hid hok
            go_enter Try.func28, Try.ntmps28
            go_wp2_with fail
            go_ret
            exact ⟨ret_bool hm.out.symm, hB.out⟩
          · have h1' : 1 ≤ W := by omega
            have h2' : W ≤ 10 := by omega
            have h3' : 1 ≤ H := by omega
            have h4' : H ≤ 10 := by omega
            obtain ⟨m, hmm, hm1⟩ : ∃ m : Nat, W * H = m ∧ m ≤ 100 := by
              obtain ⟨a, rfl⟩ : ∃ a : Nat, W = a := ⟨W.toNat, by omega⟩
              obtain ⟨b, rfl⟩ : ∃ b : Nat, H = b := ⟨H.toNat, by omega⟩
              exact ⟨a * b, by push_cast; rfl, Nat.mul_le_mul (show a ≤ 10 by omega) (show b ≤ 10 by omega)⟩
            have hne : ((n : Int) == (m : Int)) = false := by
              simp
              intro e
              exact hok ⟨h1', h2', h3', h4', by rw [hmm, e]⟩
            clear h1 h2 h3 h4
            replace hok := Lib.hid hok
            go_enter Try.func28, Try.ntmps28
            go_wp2_with fail
            go_ret
            exact ⟨ret_bool hm.out.symm, hB.out⟩
end Go.Proofs.Ytcibkchfdiijfaa
