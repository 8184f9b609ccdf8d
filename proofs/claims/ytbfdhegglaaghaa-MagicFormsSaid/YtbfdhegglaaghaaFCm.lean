/- What cmp.Compare, slices.Compare and slices.Equal tell of rows of ints; conditions: the rows' lengths fit their kind. -/
import Derived.Test.YtbfdhegglaaghaaFMem
import Derived.BigQuiet
import Derived.Deep.DeepCutAuto
namespace Go.Proofs.Ytbfdhegglaaghaa
open Go.RowKit

def c3 (x y : Int) : Int := if x < y then -1 else if y < x then 1 else 0
theorem cmp_any (x y : Int) (w : World) : Calls Try.prog 37 #[.int .i64 x, .int .i64 y] w fun e w' => e = .returned (.int .i64 (c3 x y)) ∧ w = w' := by
  have hc : Hid (∀ r, (x < y → r = -1) → (y < x → r = 1) → (x = y → r = 0) → r = c3 x y) := fun r h1 h2 h3 => by
    unfold c3
    rcases Int.lt_trichotomy x y with h | h | h
    · rw [if_pos h]; exact h1 h
    · rw [if_neg (by omega), if_neg (by omega)]; exact h3 h
    · rw [if_neg (by omega), if_pos h]; exact h2 h
  generalize c3 x y = r at *
  rcases Int.lt_trichotomy x y with h | h | h
  · have a1 : decide (x < y) = true := by simpa using h
    have hr := Lib.hid (hc.out (-1) (fun _ => rfl) (fun _ => by omega) (fun _ => by omega))
    clear hc h
    go_enter Try.func37, Try.ntmps37
    go_wp2
    go_ret
    exact ⟨ret_int hr.out, rfl⟩
  · subst h
    have a1 : decide (x < x) = false := by simp
    have hr := Lib.hid (hc.out 0 (fun _ => by omega) (fun _ => by omega) (fun _ => rfl))
    clear hc
    go_enter Try.func37, Try.ntmps37
    go_wp2
    go_ret
    exact ⟨ret_int hr.out, rfl⟩
  · have a1 : decide (x < y) = false := by simp; omega
    have a2 : decide (y < x) = true := by simpa using h
    have hr := Lib.hid (hc.out 1 (fun _ => by omega) (fun _ => rfl) (fun _ => by omega))
    clear hc h
    go_enter Try.func37, Try.ntmps37
    go_wp2
    go_ret
    exact ⟨ret_int hr.out, rfl⟩

def cmpL : List Int → List Int → Int
  | [], [] => 0
  | [], _ :: _ => -1
  | _ :: _, [] => 1
  | x :: xs, y :: ys => if c3 x y = 0 then cmpL xs ys else c3 x y
theorem drop_at' (l : List Int) (k : Nat) (h : k < l.length) : l.drop k = l[k]?.getD 0 :: l.drop (k + 1) := by
  rw [List.drop_eq_getElem_cons h]; simp [h]

set_option maxHeartbeats 1000000 in
theorem compare_any (p q : Option Addr) (n m c d : Nat) (xs ys : List Int) (w : World) (hn : n < 1099511627776) (hm : m < 1099511627776) (hx : IntsIn w p n xs) (hy : IntsIn w q m ys) :
    Calls Try.prog 26 #[.slice p n c, .slice q m d] w fun e w' => e = .returned (.int .i64 (cmpL xs ys)) ∧ w = w' := by
  have hxl := Lib.hid hx.len
  have hyl := Lib.hid hy.len
  replace hx := Lib.hid hx; replace hy := Lib.hid hy
  obtain ⟨R, hR⟩ : ∃ R, R = cmpL xs ys := ⟨_, rfl⟩
  rw [← hR]
  replace hR := Lib.hid hR
  go_enter Try.func26, Try.ntmps26
  go_wp2_with fail
  go_loopg [11] n (fun gk iv W' => ∃ k : Nat, k ≤ n ∧ k ≤ m ∧ gk = n - k ∧ iv = .int .i64 k ∧ Hid (R = cmpL (xs.drop k) (ys.drop k)) ∧ w = W')
  case atStart => exact ⟨0, by omega, by omega, by omega, rfl, by show R = _; simpa using hR.out, rfl⟩
  case round =>
    obtain ⟨k, hk, hkm, hgk, rfl, hRk, rfl⟩ := hrel
    replace hgk := Lib.hid hgk
    by_cases hlt : k < n
    · obtain ⟨b, o, rfl, _, hc⟩ := hx.out.at (by omega)
      have k0 := hc k hlt
      clear hc
      by_cases hlm : k < m
      · obtain ⟨b2, o2, rfl, _, hc2⟩ := hy.out.at (by omega)
        have k1 := hc2 k hlm
        clear hc2
        have e1 := drop_at' xs k (by rw [hxl.out]; exact hlt)
        have e2 := drop_at' ys k (by rw [hyl.out]; exact hlm)
        rw [e1, e2] at hRk
        obtain ⟨x, hxe⟩ : ∃ x, xs[k]?.getD 0 = x := ⟨_, rfl⟩
        obtain ⟨y, hye⟩ : ∃ y, ys[k]?.getD 0 = y := ⟨_, rfl⟩
        rw [hxe] at k0 hRk
        rw [hye] at k1 hRk
        clear hxe hye e1 e2
        have HC := Lib.hid (cmp_any x y w)
        have hRk := Lib.hid (show R = if c3 x y = 0 then cmpL (xs.drop (k + 1)) (ys.drop (k + 1)) else c3 x y from hRk.out)
        generalize c3 x y = r at *
        by_cases hr : r = 0
        · subst hr
          have hRk2 : Hid (R = cmpL (xs.drop (k + 1)) (ys.drop (k + 1))) := by show _ = _; rw [hRk.out, if_pos rfl]
          clear hRk
          go_wp2_with fail
          refine HC.out.mono ?_
          rintro e w' ⟨rfl, rfl⟩
          go_wp2_with fail
          have hgk := hgk.out
          go_roundg (n - (k + 1))
          case measure => omega
          case rel => exact ⟨k + 1, by omega, by omega, rfl, by go_num, hRk2, rfl⟩
        · have hr2 : (r != 0) = true := by simpa using hr
          have hRk2 : Hid (R = r) := by show _ = _; rw [hRk.out, if_neg hr]
          clear hRk hr
          go_wp2_with fail
          refine HC.out.mono ?_
          rintro e w' ⟨rfl, rfl⟩
          go_wp2_with fail
          go_ret
          exact ⟨ret_int hRk2.out.symm, rfl⟩
      · obtain rfl : k = m := by omega
        have e1 := drop_at' xs k (by rw [hxl.out]; exact hlt)
        have e2 : ys.drop k = [] := List.drop_eq_nil_of_le (by rw [hyl.out]; exact Nat.le_refl _)
        have hR1 : Hid (R = 1) := by show _ = _; rw [hRk.out, e1, e2]; rfl
        clear hRk e1 e2
        go_wp2_with fail
        go_ret
        exact ⟨ret_int hR1.out.symm, rfl⟩
    · obtain rfl : k = n := by omega
      have e1 : xs.drop k = [] := List.drop_eq_nil_of_le (by rw [hxl.out]; exact Nat.le_refl _)
      by_cases hlm : k < m
      · have e2 := drop_at' ys k (by rw [hyl.out]; exact hlm)
        have hR1 : Hid (R = -1) := by show _ = _; rw [hRk.out, e1, e2]; rfl
        clear hRk e1 e2
        go_wp2_with fail
        go_ret
        exact ⟨ret_int hR1.out.symm, rfl⟩
      · have e2 : ys.drop k = [] := List.drop_eq_nil_of_le (by rw [hyl.out]; omega)
        have hR1 : Hid (R = 0) := by show _ = _; rw [hRk.out, e1, e2]; rfl
        clear hRk e1 e2
        go_wp2_with fail
        go_ret
        exact ⟨ret_int hR1.out.symm, rfl⟩

def eqL (xs ys : List Int) : Bool := decide (xs = ys)
set_option maxHeartbeats 1000000 in
theorem equal_any (p q : Option Addr) (n c d : Nat) (xs ys : List Int) (w : World) (hn : n < 1099511627776) (hx : IntsIn w p n xs) (hy : IntsIn w q n ys) :
    Calls Try.prog 28 #[.slice p n c, .slice q n d] w fun e w' => e = .returned (.bool (eqL xs ys)) ∧ ∃ k, w' = w.drewN k := by
  have hxl := Lib.hid hx.len
  have hyl := Lib.hid hy.len
  obtain ⟨R, hR⟩ : ∃ R, R = eqL xs ys := ⟨_, rfl⟩
  rw [← hR]
  replace hR := Lib.hid hR
  replace hx := Lib.hid hx; replace hy := Lib.hid hy
  go_enter Try.func28, Try.ntmps28
  go_wp2_with fail
  go_loopg [13] n (fun gk iv W' => ∃ k r : Nat, k ≤ n ∧ gk = n - k ∧ iv = .int .i64 k ∧ Hid (∀ j, j < k → xs[j]?.getD 0 = ys[j]?.getD 0) ∧ w.drewN r = W')
  case atStart => exact ⟨0, 0, by omega, by omega, rfl, fun j h => absurd h (Nat.not_lt_zero j), rfl⟩
  case round =>
    obtain ⟨k, r, hk, hgk, rfl, hs, rfl⟩ := hrel
    replace hgk := Lib.hid hgk
    by_cases hlt : k < n
    · obtain ⟨b, o, rfl, _, hc⟩ := hx.out.at (by omega)
      obtain ⟨b2, o2, rfl, _, hc2⟩ := hy.out.at (by omega)
      have k0 : w.cell? ⟨b, o + k, none⟩ = _ := hc k hlt
      have k1 : w.cell? ⟨b2, o2 + k, none⟩ = _ := hc2 k hlt
      clear hc hc2
      obtain ⟨x, hxe⟩ : ∃ x, xs[k]?.getD 0 = x := ⟨_, rfl⟩
      obtain ⟨y, hye⟩ : ∃ y, ys[k]?.getD 0 = y := ⟨_, rfl⟩
      rw [hxe] at k0
      rw [hye] at k1
      replace hxe := Lib.hid hxe; replace hye := Lib.hid hye
      by_cases he : x = y
      · subst he
        go_wp2_with fail
        go_quiet (fail)
        go_wp2_with fail
        have hgk := hgk.out
        go_roundg (n - (k + 1))
        case measure => omega
        case rel => exact ⟨k + 1, _, by omega, rfl, by go_num, fun j h => by
          by_cases e : j = k
          · rw [e, hxe.out, hye.out]
          · exact hs.out j (by omega), rfl⟩
      · have hb : (x != y) = true := by simpa using he
        have hb2 : (x == y) = false := by simpa using he
        have hR1 : Hid (R = false) := by
          show _ = _
          rw [hR.out]; unfold eqL
          refine decide_eq_false fun e => he ?_
          rw [← hxe.out, ← hye.out, e]
        clear he
        go_wp2_with fail
        go_quiet (fail)
        go_wp2_with fail
        go_ret
        exact ⟨ret_bool hR1.out.symm, _, World.drewN_drewN _ _ _⟩
    · obtain rfl : k = n := by omega
      have hR1 : Hid (R = true) := by
        show _ = _
        rw [hR.out]; unfold eqL
        refine decide_eq_true (List.ext_getElem (by rw [hxl.out, hyl.out]) fun i h1 h2 => ?_)
        have := hs.out i (by rw [hxl.out] at h1; exact h1)
        simpa [h1, h2] using this
      go_wp2_with fail
      go_ret
      exact ⟨ret_bool hR1.out.symm, _, rfl⟩
end Go.Proofs.Ytbfdhegglaaghaa
