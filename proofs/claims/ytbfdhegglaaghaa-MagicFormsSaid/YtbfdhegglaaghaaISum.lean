/- What magic's sum computes at squares of up to twelve rows of numbers of at most a million; conditions: the slice reads as such a square. -/
import Derived.Test.YtbfdhegglaaghaaMSum
import Derived.Test.YtbfdhegglaaghaaISp
namespace Go.Proofs.Ytbfdhegglaaghaa
open Go.RowKit

set_option maxHeartbeats 1000000 in
theorem isum0 (b k n c : Nat) (p : Option Addr) (l : List Int) (w : World) (hn1 : 1 ≤ n) (hn : n ≤ 12) (hk : k < n) (hx : IntsIn w p (n * n) l) (hl : ∀ x ∈ l, -1000000 ≤ x ∧ x ≤ 1000000) (hb : Box w b k) :
    Calls Try.prog 22 #[.slice p (n * n) c, .int .i64 n, .func (.func 34) #[] #[.pointer (some ⟨b, 0, none⟩)]] w fun e w' => e = .returned (.int .i64 (sumI l n 0 k n)) ∧ Below w.heap.size w w' := by
  obtain ⟨g, o, rfl, hg, hc⟩ := hx.at (Nat.mul_pos hn1 hn1)
  replace hc := Lib.hid hc; replace hl := Lib.hid hl
  have hbd := Lib.hid (sumI_bd l n 0 k hl.out)
  clear hx
  go_enter Try.func22, Try.ntmps22
  go_wp2
  go_loopg [7, 12] n (fun gk sv iv W' => ∃ i : Nat, i ≤ n ∧ gk = n - i ∧ iv = .int .i64 i ∧ sv = .int .i64 (sumI l n 0 k i) ∧ ∃ d, W' = w.drewN d)
  case atStart => exact ⟨0, by omega, by omega, rfl, rfl, 0, rfl⟩
  case round =>
    obtain ⟨i, hi, hgk, rfl, rfl, d, rfl⟩ := hrel
    replace hgk := Lib.hid hgk
    have hsb := hbd.out i
    by_cases hlt : i < n
    · obtain ⟨xm, hxm⟩ : ∃ xm, px 0 k i % n = xm := ⟨_, rfl⟩
      obtain ⟨ym, hym⟩ : ∃ ym, py 0 n k i % n = ym := ⟨_, rfl⟩
      have hX : ((i : Int)) % (n : Int) = (xm : Int) := by rw [← hxm]; exact cmod _ _ _ (by simp [px])
      have hY : ((k : Int)) % (n : Int) = (ym : Int) := by rw [← hym]; exact cmod _ _ _ (by simp [py])
      have hxn : xm < n := by rw [← hxm]; exact Nat.mod_lt _ (by omega)
      have hyn : ym < n := by rw [← hym]; exact Nat.mod_lt _ (by omega)
      obtain ⟨q, hq⟩ : ∃ q, ym * n = q := ⟨_, rfl⟩
      have hQ : (ym : Int) * n = (q : Int) := by rw [← hq]; simp
      have hq2 : q + xm < n * n := by rw [← hq]; exact place_lt hyn hxn
      have hnn : n * n ≤ 12 * 12 := Nat.mul_le_mul hn hn
      have hq144 : q + xm < 144 := by omega
      have hcell := hc.out (q + xm) hq2
      change _ = some (Value.int .i64 (ist l (q + xm))) at hcell
      have hv := ist_le (m := 1000000) (by omega) hl.out (q + xm)
      have hsu : sumI l n 0 k (i + 1) = sumI l n 0 k i + ist l (q + xm) := by
        rw [sumI_succ]; unfold place; rw [hxm, hym, hq]
      generalize sumI l n 0 k i = S at *
      generalize ist l (q + xm) = V at *
      replace hsu := Lib.hid hsu; replace hxm := Lib.hid hxm; replace hym := Lib.hid hym; replace hq := Lib.hid hq; replace hnn := Lib.hid hnn
      have hq2' : (q : Int) + xm < ((n * n : Nat) : Int) := by omega
      generalize hNN : n * n = NN at *
      replace hNN := Lib.hid hNN; replace hq2 := Lib.hid hq2
      have HL := Lib.hid (line0 b k i (w.drewN d) (by omega) (by omega) (show Box (w.drewN d) b k from hb))
      go_wp2_with fail
      refine HL.out.mono ?_
      rintro e w' ⟨rfl, d2, rfl⟩
      go_wp2_with fail
      go_quiet (fail)
      go_wp2_with fail
      have hgk := hgk.out
      go_roundg (n - (i + 1))
      case measure => omega
      case rel => exact ⟨i + 1, by omega, rfl, by go_num, by rw [hsu.out], _, rfl⟩
    · have hie : i = n := by omega
      subst hie
      go_wp2_with fail
      go_ret
      exact ⟨rfl, below_drewN (Below.refl _ _) _⟩

set_option maxHeartbeats 1000000 in
theorem isum1 (b k n c : Nat) (p : Option Addr) (l : List Int) (w : World) (hn1 : 1 ≤ n) (hn : n ≤ 12) (hk : k < n) (hx : IntsIn w p (n * n) l) (hl : ∀ x ∈ l, -1000000 ≤ x ∧ x ≤ 1000000) (hb : Box w b k) :
    Calls Try.prog 22 #[.slice p (n * n) c, .int .i64 n, .func (.func 38) #[] #[.pointer (some ⟨b, 0, none⟩)]] w fun e w' => e = .returned (.int .i64 (sumI l n 1 k n)) ∧ Below w.heap.size w w' := by
  obtain ⟨g, o, rfl, hg, hc⟩ := hx.at (Nat.mul_pos hn1 hn1)
  replace hc := Lib.hid hc; replace hl := Lib.hid hl
  have hbd := Lib.hid (sumI_bd l n 1 k hl.out)
  clear hx
  go_enter Try.func22, Try.ntmps22
  go_wp2
  go_loopg [7, 12] n (fun gk sv iv W' => ∃ i : Nat, i ≤ n ∧ gk = n - i ∧ iv = .int .i64 i ∧ sv = .int .i64 (sumI l n 1 k i) ∧ ∃ d, W' = w.drewN d)
  case atStart => exact ⟨0, by omega, by omega, rfl, rfl, 0, rfl⟩
  case round =>
    obtain ⟨i, hi, hgk, rfl, rfl, d, rfl⟩ := hrel
    replace hgk := Lib.hid hgk
    have hsb := hbd.out i
    by_cases hlt : i < n
    · obtain ⟨xm, hxm⟩ : ∃ xm, px 1 k i % n = xm := ⟨_, rfl⟩
      obtain ⟨ym, hym⟩ : ∃ ym, py 1 n k i % n = ym := ⟨_, rfl⟩
      have hX : ((k : Int)) % (n : Int) = (xm : Int) := by rw [← hxm]; exact cmod _ _ _ (by simp [px])
      have hY : ((i : Int)) % (n : Int) = (ym : Int) := by rw [← hym]; exact cmod _ _ _ (by simp [py])
      have hxn : xm < n := by rw [← hxm]; exact Nat.mod_lt _ (by omega)
      have hyn : ym < n := by rw [← hym]; exact Nat.mod_lt _ (by omega)
      obtain ⟨q, hq⟩ : ∃ q, ym * n = q := ⟨_, rfl⟩
      have hQ : (ym : Int) * n = (q : Int) := by rw [← hq]; simp
      have hq2 : q + xm < n * n := by rw [← hq]; exact place_lt hyn hxn
      have hnn : n * n ≤ 12 * 12 := Nat.mul_le_mul hn hn
      have hq144 : q + xm < 144 := by omega
      have hcell := hc.out (q + xm) hq2
      change _ = some (Value.int .i64 (ist l (q + xm))) at hcell
      have hv := ist_le (m := 1000000) (by omega) hl.out (q + xm)
      have hsu : sumI l n 1 k (i + 1) = sumI l n 1 k i + ist l (q + xm) := by
        rw [sumI_succ]; unfold place; rw [hxm, hym, hq]
      generalize sumI l n 1 k i = S at *
      generalize ist l (q + xm) = V at *
      replace hsu := Lib.hid hsu; replace hxm := Lib.hid hxm; replace hym := Lib.hid hym; replace hq := Lib.hid hq; replace hnn := Lib.hid hnn
      have hq2' : (q : Int) + xm < ((n * n : Nat) : Int) := by omega
      generalize hNN : n * n = NN at *
      replace hNN := Lib.hid hNN; replace hq2 := Lib.hid hq2
      have HL := Lib.hid (line1 b k i (w.drewN d) (by omega) (by omega) (show Box (w.drewN d) b k from hb))
      go_wp2_with fail
      refine HL.out.mono ?_
      rintro e w' ⟨rfl, d2, rfl⟩
      go_wp2_with fail
      go_quiet (fail)
      go_wp2_with fail
      have hgk := hgk.out
      go_roundg (n - (i + 1))
      case measure => omega
      case rel => exact ⟨i + 1, by omega, rfl, by go_num, by rw [hsu.out], _, rfl⟩
    · have hie : i = n := by omega
      subst hie
      go_wp2_with fail
      go_ret
      exact ⟨rfl, below_drewN (Below.refl _ _) _⟩

set_option maxHeartbeats 1000000 in
theorem isum2 (b k n c : Nat) (p : Option Addr) (l : List Int) (w : World) (hn1 : 1 ≤ n) (hn : n ≤ 12) (hk : k < n) (hx : IntsIn w p (n * n) l) (hl : ∀ x ∈ l, -1000000 ≤ x ∧ x ≤ 1000000) (hb : Box w b k) :
    Calls Try.prog 22 #[.slice p (n * n) c, .int .i64 n, .func (.func 39) #[] #[.pointer (some ⟨b, 0, none⟩)]] w fun e w' => e = .returned (.int .i64 (sumI l n 2 k n)) ∧ Below w.heap.size w w' := by
  obtain ⟨g, o, rfl, hg, hc⟩ := hx.at (Nat.mul_pos hn1 hn1)
  replace hc := Lib.hid hc; replace hl := Lib.hid hl
  have hbd := Lib.hid (sumI_bd l n 2 k hl.out)
  clear hx
  go_enter Try.func22, Try.ntmps22
  go_wp2
  go_loopg [7, 12] n (fun gk sv iv W' => ∃ i : Nat, i ≤ n ∧ gk = n - i ∧ iv = .int .i64 i ∧ sv = .int .i64 (sumI l n 2 k i) ∧ ∃ d, W' = w.drewN d)
  case atStart => exact ⟨0, by omega, by omega, rfl, rfl, 0, rfl⟩
  case round =>
    obtain ⟨i, hi, hgk, rfl, rfl, d, rfl⟩ := hrel
    replace hgk := Lib.hid hgk
    have hsb := hbd.out i
    by_cases hlt : i < n
    · obtain ⟨xm, hxm⟩ : ∃ xm, px 2 k i % n = xm := ⟨_, rfl⟩
      obtain ⟨ym, hym⟩ : ∃ ym, py 2 n k i % n = ym := ⟨_, rfl⟩
      have hX : ((i : Int) + k) % (n : Int) = (xm : Int) := by rw [← hxm]; exact cmod _ _ _ (by simp [px])
      have hY : ((i : Int)) % (n : Int) = (ym : Int) := by rw [← hym]; exact cmod _ _ _ (by simp [py])
      have hxn : xm < n := by rw [← hxm]; exact Nat.mod_lt _ (by omega)
      have hyn : ym < n := by rw [← hym]; exact Nat.mod_lt _ (by omega)
      obtain ⟨q, hq⟩ : ∃ q, ym * n = q := ⟨_, rfl⟩
      have hQ : (ym : Int) * n = (q : Int) := by rw [← hq]; simp
      have hq2 : q + xm < n * n := by rw [← hq]; exact place_lt hyn hxn
      have hnn : n * n ≤ 12 * 12 := Nat.mul_le_mul hn hn
      have hq144 : q + xm < 144 := by omega
      have hcell := hc.out (q + xm) hq2
      change _ = some (Value.int .i64 (ist l (q + xm))) at hcell
      have hv := ist_le (m := 1000000) (by omega) hl.out (q + xm)
      have hsu : sumI l n 2 k (i + 1) = sumI l n 2 k i + ist l (q + xm) := by
        rw [sumI_succ]; unfold place; rw [hxm, hym, hq]
      generalize sumI l n 2 k i = S at *
      generalize ist l (q + xm) = V at *
      replace hsu := Lib.hid hsu; replace hxm := Lib.hid hxm; replace hym := Lib.hid hym; replace hq := Lib.hid hq; replace hnn := Lib.hid hnn
      have hq2' : (q : Int) + xm < ((n * n : Nat) : Int) := by omega
      generalize hNN : n * n = NN at *
      replace hNN := Lib.hid hNN; replace hq2 := Lib.hid hq2
      have HL := Lib.hid (line2 b k i (w.drewN d) (by omega) (by omega) (show Box (w.drewN d) b k from hb))
      go_wp2_with fail
      refine HL.out.mono ?_
      rintro e w' ⟨rfl, d2, rfl⟩
      go_wp2_with fail
      go_quiet (fail)
      go_wp2_with fail
      have hgk := hgk.out
      go_roundg (n - (i + 1))
      case measure => omega
      case rel => exact ⟨i + 1, by omega, rfl, by go_num, by rw [hsu.out], _, rfl⟩
    · have hie : i = n := by omega
      subst hie
      go_wp2_with fail
      go_ret
      exact ⟨rfl, below_drewN (Below.refl _ _) _⟩

set_option maxHeartbeats 1000000 in
theorem isum3 (b b2 k n c : Nat) (p : Option Addr) (l : List Int) (w : World) (hn1 : 1 ≤ n) (hn : n ≤ 12) (hk : k < n) (hx : IntsIn w p (n * n) l) (hl : ∀ x ∈ l, -1000000 ≤ x ∧ x ≤ 1000000) (hb : Box w b k) (hb2 : Box w b2 n) :
    Calls Try.prog 22 #[.slice p (n * n) c, .int .i64 n, .func (.func 41) #[] #[.pointer (some ⟨b, 0, none⟩), .pointer (some ⟨b2, 0, none⟩)]] w fun e w' => e = .returned (.int .i64 (sumI l n 3 k n)) ∧ Below w.heap.size w w' := by
  obtain ⟨g, o, rfl, hg, hc⟩ := hx.at (Nat.mul_pos hn1 hn1)
  replace hc := Lib.hid hc; replace hl := Lib.hid hl
  have hbd := Lib.hid (sumI_bd l n 3 k hl.out)
  clear hx
  go_enter Try.func22, Try.ntmps22
  go_wp2
  go_loopg [7, 12] n (fun gk sv iv W' => ∃ i : Nat, i ≤ n ∧ gk = n - i ∧ iv = .int .i64 i ∧ sv = .int .i64 (sumI l n 3 k i) ∧ ∃ d, W' = w.drewN d)
  case atStart => exact ⟨0, by omega, by omega, rfl, rfl, 0, rfl⟩
  case round =>
    obtain ⟨i, hi, hgk, rfl, rfl, d, rfl⟩ := hrel
    replace hgk := Lib.hid hgk
    have hsb := hbd.out i
    by_cases hlt : i < n
    · obtain ⟨xm, hxm⟩ : ∃ xm, px 3 k i % n = xm := ⟨_, rfl⟩
      obtain ⟨ym, hym⟩ : ∃ ym, py 3 n k i % n = ym := ⟨_, rfl⟩
      have hX : ((i : Int) + k) % (n : Int) = (xm : Int) := by rw [← hxm]; exact cmod _ _ _ (by simp [px])
      have hY : ((n : Int) - 1 - i) % (n : Int) = (ym : Int) := by rw [← hym]; exact cmod _ _ _ (by simp [py]; omega)
      have hxn : xm < n := by rw [← hxm]; exact Nat.mod_lt _ (by omega)
      have hyn : ym < n := by rw [← hym]; exact Nat.mod_lt _ (by omega)
      obtain ⟨q, hq⟩ : ∃ q, ym * n = q := ⟨_, rfl⟩
      have hQ : (ym : Int) * n = (q : Int) := by rw [← hq]; simp
      have hq2 : q + xm < n * n := by rw [← hq]; exact place_lt hyn hxn
      have hnn : n * n ≤ 12 * 12 := Nat.mul_le_mul hn hn
      have hq144 : q + xm < 144 := by omega
      have hcell := hc.out (q + xm) hq2
      change _ = some (Value.int .i64 (ist l (q + xm))) at hcell
      have hv := ist_le (m := 1000000) (by omega) hl.out (q + xm)
      have hsu : sumI l n 3 k (i + 1) = sumI l n 3 k i + ist l (q + xm) := by
        rw [sumI_succ]; unfold place; rw [hxm, hym, hq]
      generalize sumI l n 3 k i = S at *
      generalize ist l (q + xm) = V at *
      replace hsu := Lib.hid hsu; replace hxm := Lib.hid hxm; replace hym := Lib.hid hym; replace hq := Lib.hid hq; replace hnn := Lib.hid hnn
      have hq2' : (q : Int) + xm < ((n * n : Nat) : Int) := by omega
      generalize hNN : n * n = NN at *
      replace hNN := Lib.hid hNN; replace hq2 := Lib.hid hq2
      have HL := Lib.hid (line3 b b2 k i n (w.drewN d) (by omega) (by omega) (by omega) (show Box (w.drewN d) b k from hb) (show Box (w.drewN d) b2 n from hb2))
      go_wp2_with fail
      refine HL.out.mono ?_
      rintro e w' ⟨rfl, d2, rfl⟩
      go_wp2_with fail
      go_quiet (fail)
      go_wp2_with fail
      have hgk := hgk.out
      go_roundg (n - (i + 1))
      case measure => omega
      case rel => exact ⟨i + 1, by omega, rfl, by go_num, by rw [hsu.out], _, rfl⟩
    · have hie : i = n := by omega
      subst hie
      go_wp2_with fail
      go_ret
      exact ⟨rfl, below_drewN (Below.refl _ _) _⟩
end Go.Proofs.Ytbfdhegglaaghaa
