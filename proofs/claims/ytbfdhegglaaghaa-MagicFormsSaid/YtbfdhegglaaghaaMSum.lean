/- What magic's lines, sum and alike compute at squares of up to twelve rows of numbers up to 1000; conditions: the slice reads as such a square. -/
import Derived.Test.YtbfdhegglaaghaaPick
import Derived.Test.YtbfdhegglaaghaaGen
import Derived.Test.YtbfdhegglaaghaaMagicSpec
namespace Go.Proofs.Ytbfdhegglaaghaa
open Go.RowKit

def asI (s : List Nat) : List Int := s.map fun x : Nat => (x : Int)
theorem asI_at (s : List Nat) (j : Nat) : (asI s)[j]?.getD 0 = (st s j : Nat) := by
  unfold asI st
  by_cases h : j < s.length <;> simp [h]
theorem asI_len (s : List Nat) : (asI s).length = s.length := by simp [asI]
theorem asI_app (s t : List Nat) : asI (s ++ t) = asI s ++ asI t := by simp [asI]
theorem asI_set (s : List Nat) (i v : Nat) : asI (s.set i v) = (asI s).set i v := by simp [asI, List.map_set]
theorem st_le {l : List Nat} {m : Nat} (h : ∀ x ∈ l, x ≤ m) (i : Nat) : st l i ≤ m := by
  unfold st
  by_cases hi : i < l.length
  · simp [hi]; exact h _ (List.getElem_mem hi)
  · simp [hi]
theorem cmod (X : Int) (x n : Nat) (h : X = x) : X % (n : Int) = ((x % n : Nat) : Int) := by subst h; rfl
theorem place_lt {n a b : Nat} (ha : a < n) (hb : b < n) : a * n + b < n * n :=
  calc a * n + b < a * n + n := by omega
    _ = (a + 1) * n := by rw [Nat.add_mul, Nat.one_mul]
    _ ≤ n * n := Nat.mul_le_mul_right _ ha
def Box (w : World) (b : Nat) (v : Int) : Prop := w.heap[b]? = some (.cells #[.int .i64 v] 3 (0, 0))
theorem Box.cell {w : World} {b : Nat} {v : Int} (h : Box w b v) : w.cell? ⟨b, 0, none⟩ = some (.int .i64 v) := wcell (cs := [_]) h 0
theorem Box.below {w w' : World} {b B : Nat} {v : Int} (h : Box w b v) (hB : Below B w w') (hb : b < B) : Box w' b v := (hB.block b hb).trans h
theorem Box.lt {w : World} {b : Nat} {v : Int} (h : Box w b v) : b < w.heap.size := lt_of_heap h
theorem Box.new (w : World) (v : Int) : Box (w.alloc (.cells #[.int .i64 v] 3)) w.heap.size v := heap_alloc_new w _

theorem sumS_bd (l : List Nat) (n kd k : Nat) (h : ∀ x ∈ l, x ≤ 1000) : ∀ j, sumS l n kd k j ≤ 1000 * j := by
  intro j
  induction j with
  | zero => simp [sumS]
  | succ j ih =>
    rw [sumS_succ]
    have := st_le h (place kd n k j)
    omega

set_option maxHeartbeats 400000 in
theorem line0 (b k i : Nat) (w : World) (_hi : i ≤ 100) (_hk : k ≤ 100) (hb : Box w b k) :
    Calls Try.prog 34 #[.int .i64 i, .pointer (some ⟨b, 0, none⟩)] w fun e w' => e = .returned (.tuple #[.int .i64 ((i : Int)), .int .i64 ((k : Int))]) ∧ ∃ d, w' = w.drewN d := by
  have c0 := hb.cell
  skip
  clear hb
  go_enter Try.func34, Try.ntmps34
  go_wp2
  go_quiet (fail)
  go_wp2
  go_ret2
  exact ⟨rfl, _, rfl⟩

set_option maxHeartbeats 1000000 in
theorem sum0 (b k n c : Nat) (p : Option Addr) (l : List Nat) (w : World) (hn1 : 1 ≤ n) (hn : n ≤ 12) (hk : k < n) (hx : IntsIn w p (n * n) (asI l)) (hl : ∀ x ∈ l, x ≤ 1000) (hb : Box w b k) :
    Calls Try.prog 22 #[.slice p (n * n) c, .int .i64 n, .func (.func 34) #[] #[.pointer (some ⟨b, 0, none⟩)]] w fun e w' => e = .returned (.int .i64 (sumS l n 0 k n)) ∧ Below w.heap.size w w' := by
  obtain ⟨g, o, rfl, hg, hc⟩ := hx.at (Nat.mul_pos hn1 hn1)
  replace hc := Lib.hid hc; replace hl := Lib.hid hl
  have hbd := Lib.hid (sumS_bd l n 0 k hl.out)
  clear hx
  go_enter Try.func22, Try.ntmps22
  go_wp2
  go_loopg [7, 12] n (fun gk sv iv W' => ∃ i : Nat, i ≤ n ∧ gk = n - i ∧ iv = .int .i64 i ∧ sv = .int .i64 (sumS l n 0 k i) ∧ ∃ d, W' = w.drewN d)
  case atStart => exact ⟨0, by omega, by omega, rfl, rfl, 0, rfl⟩
  case round =>
    obtain ⟨i, hi, hgk, rfl, rfl, d, rfl⟩ := hrel
    replace hgk := Lib.hid hgk
    have hsb := hbd.out i
    by_cases hlt : i < n
    · obtain ⟨xm, hxm⟩ : ∃ xm, px 0 k i % n = xm := ⟨_, rfl⟩
      obtain ⟨ym, hym⟩ : ∃ ym, py 0 n k i % n = ym := ⟨_, rfl⟩
      have hX : ((i : Int)) % (n : Int) = (xm : Int) := by rw [← hxm]; exact cmod _ _ _ (by simp [px])
      have hY : ((k : Int)) % (n : Int) = (ym : Int) := by rw [← hym]; exact cmod _ _ _ (by simp [py])
      have hxn : xm < n := by rw [← hxm]; exact Nat.mod_lt _ (by omega)
      have hyn : ym < n := by rw [← hym]; exact Nat.mod_lt _ (by omega)
      obtain ⟨q, hq⟩ : ∃ q, ym * n = q := ⟨_, rfl⟩
      have hQ : (ym : Int) * n = (q : Int) := by rw [← hq]; simp
      have hq2 : q + xm < n * n := by rw [← hq]; exact place_lt hyn hxn
      have hnn : n * n ≤ 12 * 12 := Nat.mul_le_mul hn hn
      have hq144 : q + xm < 144 := by omega
      have hcell := hc.out (q + xm) hq2
      rw [asI_at] at hcell
      have hv := st_le hl.out (q + xm)
      have hsu : sumS l n 0 k (i + 1) = sumS l n 0 k i + st l (q + xm) := by
        rw [sumS_succ]; unfold place; rw [hxm, hym, hq]
      generalize sumS l n 0 k i = S at *
      generalize st l (q + xm) = V at *
      replace hsu := Lib.hid hsu; replace hxm := Lib.hid hxm; replace hym := Lib.hid hym; replace hq := Lib.hid hq; replace hnn := Lib.hid hnn
      have hq2' : (q : Int) + xm < ((n * n : Nat) : Int) := by omega
      generalize hNN : n * n = NN at *
      replace hNN := Lib.hid hNN; replace hq2 := Lib.hid hq2
      have HL := Lib.hid (line0 b k i (w.drewN d) (by omega) (by omega) (show Box (w.drewN d) b k from hb))
      go_wp2_with fail
      refine HL.out.mono ?_
      rintro e w' ⟨rfl, d2, rfl⟩
      go_wp2_with fail
      go_quiet (fail)
      go_wp2_with fail
      have hgk := hgk.out
      go_roundg (n - (i + 1))
      case measure => omega
      case rel => exact ⟨i + 1, by omega, rfl, by go_num, by rw [hsu.out]; go_num, _, rfl⟩
    · have hie : i = n := by omega
      subst hie
      go_wp2_with fail
      go_ret
      exact ⟨rfl, below_drewN (Below.refl _ _) _⟩

set_option maxHeartbeats 400000 in
theorem line1 (b k i : Nat) (w : World) (_hi : i ≤ 100) (_hk : k ≤ 100) (hb : Box w b k) :
    Calls Try.prog 38 #[.int .i64 i, .pointer (some ⟨b, 0, none⟩)] w fun e w' => e = .returned (.tuple #[.int .i64 ((k : Int)), .int .i64 ((i : Int))]) ∧ ∃ d, w' = w.drewN d := by
  have c0 := hb.cell
  skip
  clear hb
  go_enter Try.func38, Try.ntmps38
  go_wp2
  go_ret2
  exact ⟨rfl, 0, rfl⟩

set_option maxHeartbeats 1000000 in
theorem sum1 (b k n c : Nat) (p : Option Addr) (l : List Nat) (w : World) (hn1 : 1 ≤ n) (hn : n ≤ 12) (hk : k < n) (hx : IntsIn w p (n * n) (asI l)) (hl : ∀ x ∈ l, x ≤ 1000) (hb : Box w b k) :
    Calls Try.prog 22 #[.slice p (n * n) c, .int .i64 n, .func (.func 38) #[] #[.pointer (some ⟨b, 0, none⟩)]] w fun e w' => e = .returned (.int .i64 (sumS l n 1 k n)) ∧ Below w.heap.size w w' := by
  obtain ⟨g, o, rfl, hg, hc⟩ := hx.at (Nat.mul_pos hn1 hn1)
  replace hc := Lib.hid hc; replace hl := Lib.hid hl
  have hbd := Lib.hid (sumS_bd l n 1 k hl.out)
  clear hx
  go_enter Try.func22, Try.ntmps22
  go_wp2
  go_loopg [7, 12] n (fun gk sv iv W' => ∃ i : Nat, i ≤ n ∧ gk = n - i ∧ iv = .int .i64 i ∧ sv = .int .i64 (sumS l n 1 k i) ∧ ∃ d, W' = w.drewN d)
  case atStart => exact ⟨0, by omega, by omega, rfl, rfl, 0, rfl⟩
  case round =>
    obtain ⟨i, hi, hgk, rfl, rfl, d, rfl⟩ := hrel
    replace hgk := Lib.hid hgk
    have hsb := hbd.out i
    by_cases hlt : i < n
    · obtain ⟨xm, hxm⟩ : ∃ xm, px 1 k i % n = xm := ⟨_, rfl⟩
      obtain ⟨ym, hym⟩ : ∃ ym, py 1 n k i % n = ym := ⟨_, rfl⟩
      have hX : ((k : Int)) % (n : Int) = (xm : Int) := by rw [← hxm]; exact cmod _ _ _ (by simp [px])
      have hY : ((i : Int)) % (n : Int) = (ym : Int) := by rw [← hym]; exact cmod _ _ _ (by simp [py])
      have hxn : xm < n := by rw [← hxm]; exact Nat.mod_lt _ (by omega)
      have hyn : ym < n := by rw [← hym]; exact Nat.mod_lt _ (by omega)
      obtain ⟨q, hq⟩ : ∃ q, ym * n = q := ⟨_, rfl⟩
      have hQ : (ym : Int) * n = (q : Int) := by rw [← hq]; simp
      have hq2 : q + xm < n * n := by rw [← hq]; exact place_lt hyn hxn
      have hnn : n * n ≤ 12 * 12 := Nat.mul_le_mul hn hn
      have hq144 : q + xm < 144 := by omega
      have hcell := hc.out (q + xm) hq2
      rw [asI_at] at hcell
      have hv := st_le hl.out (q + xm)
      have hsu : sumS l n 1 k (i + 1) = sumS l n 1 k i + st l (q + xm) := by
        rw [sumS_succ]; unfold place; rw [hxm, hym, hq]
      generalize sumS l n 1 k i = S at *
      generalize st l (q + xm) = V at *
      replace hsu := Lib.hid hsu; replace hxm := Lib.hid hxm; replace hym := Lib.hid hym; replace hq := Lib.hid hq; replace hnn := Lib.hid hnn
      have hq2' : (q : Int) + xm < ((n * n : Nat) : Int) := by omega
      generalize hNN : n * n = NN at *
      replace hNN := Lib.hid hNN; replace hq2 := Lib.hid hq2
      have HL := Lib.hid (line1 b k i (w.drewN d) (by omega) (by omega) (show Box (w.drewN d) b k from hb))
      go_wp2_with fail
      refine HL.out.mono ?_
      rintro e w' ⟨rfl, d2, rfl⟩
      go_wp2_with fail
      go_quiet (fail)
      go_wp2_with fail
      have hgk := hgk.out
      go_roundg (n - (i + 1))
      case measure => omega
      case rel => exact ⟨i + 1, by omega, rfl, by go_num, by rw [hsu.out]; go_num, _, rfl⟩
    · have hie : i = n := by omega
      subst hie
      go_wp2_with fail
      go_ret
      exact ⟨rfl, below_drewN (Below.refl _ _) _⟩

set_option maxHeartbeats 400000 in
theorem line2 (b k i : Nat) (w : World) (_hi : i ≤ 100) (_hk : k ≤ 100) (hb : Box w b k) :
    Calls Try.prog 39 #[.int .i64 i, .pointer (some ⟨b, 0, none⟩)] w fun e w' => e = .returned (.tuple #[.int .i64 ((i : Int) + k), .int .i64 ((i : Int))]) ∧ ∃ d, w' = w.drewN d := by
  have c0 := hb.cell
  skip
  clear hb
  go_enter Try.func39, Try.ntmps39
  go_wp2
  go_ret2
  exact ⟨rfl, 0, rfl⟩

set_option maxHeartbeats 1000000 in
theorem sum2 (b k n c : Nat) (p : Option Addr) (l : List Nat) (w : World) (hn1 : 1 ≤ n) (hn : n ≤ 12) (hk : k < n) (hx : IntsIn w p (n * n) (asI l)) (hl : ∀ x ∈ l, x ≤ 1000) (hb : Box w b k) :
    Calls Try.prog 22 #[.slice p (n * n) c, .int .i64 n, .func (.func 39) #[] #[.pointer (some ⟨b, 0, none⟩)]] w fun e w' => e = .returned (.int .i64 (sumS l n 2 k n)) ∧ Below w.heap.size w w' := by
  obtain ⟨g, o, rfl, hg, hc⟩ := hx.at (Nat.mul_pos hn1 hn1)
  replace hc := Lib.hid hc; replace hl := Lib.hid hl
  have hbd := Lib.hid (sumS_bd l n 2 k hl.out)
  clear hx
  go_enter Try.func22, Try.ntmps22
  go_wp2
  go_loopg [7, 12] n (fun gk sv iv W' => ∃ i : Nat, i ≤ n ∧ gk = n - i ∧ iv = .int .i64 i ∧ sv = .int .i64 (sumS l n 2 k i) ∧ ∃ d, W' = w.drewN d)
  case atStart => exact ⟨0, by omega, by omega, rfl, rfl, 0, rfl⟩
  case round =>
    obtain ⟨i, hi, hgk, rfl, rfl, d, rfl⟩ := hrel
    replace hgk := Lib.hid hgk
    have hsb := hbd.out i
    by_cases hlt : i < n
    · obtain ⟨xm, hxm⟩ : ∃ xm, px 2 k i % n = xm := ⟨_, rfl⟩
      obtain ⟨ym, hym⟩ : ∃ ym, py 2 n k i % n = ym := ⟨_, rfl⟩
      have hX : ((i : Int) + k) % (n : Int) = (xm : Int) := by rw [← hxm]; exact cmod _ _ _ (by simp [px])
      have hY : ((i : Int)) % (n : Int) = (ym : Int) := by rw [← hym]; exact cmod _ _ _ (by simp [py])
      have hxn : xm < n := by rw [← hxm]; exact Nat.mod_lt _ (by omega)
      have hyn : ym < n := by rw [← hym]; exact Nat.mod_lt _ (by omega)
      obtain ⟨q, hq⟩ : ∃ q, ym * n = q := ⟨_, rfl⟩
      have hQ : (ym : Int) * n = (q : Int) := by rw [← hq]; simp
      have hq2 : q + xm < n * n := by rw [← hq]; exact place_lt hyn hxn
      have hnn : n * n ≤ 12 * 12 := Nat.mul_le_mul hn hn
      have hq144 : q + xm < 144 := by omega
      have hcell := hc.out (q + xm) hq2
      rw [asI_at] at hcell
      have hv := st_le hl.out (q + xm)
      have hsu : sumS l n 2 k (i + 1) = sumS l n 2 k i + st l (q + xm) := by
        rw [sumS_succ]; unfold place; rw [hxm, hym, hq]
      generalize sumS l n 2 k i = S at *
      generalize st l (q + xm) = V at *
      replace hsu := Lib.hid hsu; replace hxm := Lib.hid hxm; replace hym := Lib.hid hym; replace hq := Lib.hid hq; replace hnn := Lib.hid hnn
      have hq2' : (q : Int) + xm < ((n * n : Nat) : Int) := by omega
      generalize hNN : n * n = NN at *
      replace hNN := Lib.hid hNN; replace hq2 := Lib.hid hq2
      have HL := Lib.hid (line2 b k i (w.drewN d) (by omega) (by omega) (show Box (w.drewN d) b k from hb))
      go_wp2_with fail
      refine HL.out.mono ?_
      rintro e w' ⟨rfl, d2, rfl⟩
      go_wp2_with fail
      go_quiet (fail)
      go_wp2_with fail
      have hgk := hgk.out
      go_roundg (n - (i + 1))
      case measure => omega
      case rel => exact ⟨i + 1, by omega, rfl, by go_num, by rw [hsu.out]; go_num, _, rfl⟩
    · have hie : i = n := by omega
      subst hie
      go_wp2_with fail
      go_ret
      exact ⟨rfl, below_drewN (Below.refl _ _) _⟩

set_option maxHeartbeats 400000 in
theorem line3 (b b2 k i n : Nat) (w : World) (_hi : i ≤ 100) (_hk : k ≤ 100) (hn : n ≤ 100) (hb : Box w b k) (hb2 : Box w b2 n) :
    Calls Try.prog 41 #[.int .i64 i, .pointer (some ⟨b, 0, none⟩), .pointer (some ⟨b2, 0, none⟩)] w fun e w' => e = .returned (.tuple #[.int .i64 ((i : Int) + k), .int .i64 ((n : Int) - 1 - i)]) ∧ ∃ d, w' = w.drewN d := by
  have c0 := hb.cell
  have c1 := hb2.cell
  clear hb hb2
  go_enter Try.func41, Try.ntmps41
  go_wp2
  go_quiet (fail)
  go_wp2
  go_ret2
  exact ⟨rfl, _, rfl⟩

set_option maxHeartbeats 1000000 in
theorem sum3 (b b2 k n c : Nat) (p : Option Addr) (l : List Nat) (w : World) (hn1 : 1 ≤ n) (hn : n ≤ 12) (hk : k < n) (hx : IntsIn w p (n * n) (asI l)) (hl : ∀ x ∈ l, x ≤ 1000) (hb : Box w b k) (hb2 : Box w b2 n) :
    Calls Try.prog 22 #[.slice p (n * n) c, .int .i64 n, .func (.func 41) #[] #[.pointer (some ⟨b, 0, none⟩), .pointer (some ⟨b2, 0, none⟩)]] w fun e w' => e = .returned (.int .i64 (sumS l n 3 k n)) ∧ Below w.heap.size w w' := by
  obtain ⟨g, o, rfl, hg, hc⟩ := hx.at (Nat.mul_pos hn1 hn1)
  replace hc := Lib.hid hc; replace hl := Lib.hid hl
  have hbd := Lib.hid (sumS_bd l n 3 k hl.out)
  clear hx
  go_enter Try.func22, Try.ntmps22
  go_wp2
  go_loopg [7, 12] n (fun gk sv iv W' => ∃ i : Nat, i ≤ n ∧ gk = n - i ∧ iv = .int .i64 i ∧ sv = .int .i64 (sumS l n 3 k i) ∧ ∃ d, W' = w.drewN d)
  case atStart => exact ⟨0, by omega, by omega, rfl, rfl, 0, rfl⟩
  case round =>
    obtain ⟨i, hi, hgk, rfl, rfl, d, rfl⟩ := hrel
    replace hgk := Lib.hid hgk
    have hsb := hbd.out i
    by_cases hlt : i < n
    · obtain ⟨xm, hxm⟩ : ∃ xm, px 3 k i % n = xm := ⟨_, rfl⟩
      obtain ⟨ym, hym⟩ : ∃ ym, py 3 n k i % n = ym := ⟨_, rfl⟩
      have hX : ((i : Int) + k) % (n : Int) = (xm : Int) := by rw [← hxm]; exact cmod _ _ _ (by simp [px])
      have hY : ((n : Int) - 1 - i) % (n : Int) = (ym : Int) := by rw [← hym]; exact cmod _ _ _ (by simp [py]; omega)
      have hxn : xm < n := by rw [← hxm]; exact Nat.mod_lt _ (by omega)
      have hyn : ym < n := by rw [← hym]; exact Nat.mod_lt _ (by omega)
      obtain ⟨q, hq⟩ : ∃ q, ym * n = q := ⟨_, rfl⟩
      have hQ : (ym : Int) * n = (q : Int) := by rw [← hq]; simp
      have hq2 : q + xm < n * n := by rw [← hq]; exact place_lt hyn hxn
      have hnn : n * n ≤ 12 * 12 := Nat.mul_le_mul hn hn
      have hq144 : q + xm < 144 := by omega
      have hcell := hc.out (q + xm) hq2
      rw [asI_at] at hcell
      have hv := st_le hl.out (q + xm)
      have hsu : sumS l n 3 k (i + 1) = sumS l n 3 k i + st l (q + xm) := by
        rw [sumS_succ]; unfold place; rw [hxm, hym, hq]
      generalize sumS l n 3 k i = S at *
      generalize st l (q + xm) = V at *
      replace hsu := Lib.hid hsu; replace hxm := Lib.hid hxm; replace hym := Lib.hid hym; replace hq := Lib.hid hq; replace hnn := Lib.hid hnn
      have hq2' : (q : Int) + xm < ((n * n : Nat) : Int) := by omega
      generalize hNN : n * n = NN at *
      replace hNN := Lib.hid hNN; replace hq2 := Lib.hid hq2
      have HL := Lib.hid (line3 b b2 k i n (w.drewN d) (by omega) (by omega) (by omega) (show Box (w.drewN d) b k from hb) (show Box (w.drewN d) b2 n from hb2))
      go_wp2_with fail
      refine HL.out.mono ?_
      rintro e w' ⟨rfl, d2, rfl⟩
      go_wp2_with fail
      go_quiet (fail)
      go_wp2_with fail
      have hgk := hgk.out
      go_roundg (n - (i + 1))
      case measure => omega
      case rel => exact ⟨i + 1, by omega, rfl, by go_num, by rw [hsu.out]; go_num, _, rfl⟩
    · have hie : i = n := by omega
      subst hie
      go_wp2_with fail
      go_ret
      exact ⟨rfl, below_drewN (Below.refl _ _) _⟩
end Go.Proofs.Ytbfdhegglaaghaa
