/- What magic's makers of lines, alike and kind compute at squares of up to twelve rows of numbers up to 1000; conditions: the slice reads as such a square. -/
import Derived.Test.YtbfdhegglaaghaaMSum
namespace Go.Proofs.Ytbfdhegglaaghaa
open Go.RowKit

theorem Box.new2 (w : World) (u v : Int) : Box ((w.alloc (.cells #[.int .i64 u] 3)).alloc (.cells #[.int .i64 v] 3)) (w.heap.size + 1) v := (heap2 w _ _).2
theorem bbox {w W : World} (h : Below w.heap.size w W) (v : Int) : Below w.heap.size w (W.alloc (.cells #[.int .i64 v] 3)) := h.alloc h.size _

theorem mk0 (k : Int) (w : World) : Calls Try.prog 23 #[.int .i64 k] w fun e w' => e = .returned (.func (.func 34) #[] #[.pointer (some ⟨w.heap.size, 0, none⟩)]) ∧ w' = w.alloc (.cells #[.int .i64 k] 3) := by
  go_enter Try.func23, Try.ntmps23
  go_wp2
  go_ret
  exact ⟨rfl, rfl⟩

set_option maxHeartbeats 1000000 in
theorem alike0 (n c want : Nat) (p : Option Addr) (l : List Nat) (w : World) (hn1 : 1 ≤ n) (hn : n ≤ 12) (hx : IntsIn w p (n * n) (asI l)) (hl : ∀ x ∈ l, x ≤ 1000) :
    Calls Try.prog 30 #[.slice p (n * n) c, .int .i64 n, .int .i64 want, .func (.func 23) #[] #[]] w fun e w' => e = .returned (.bool (alikeS l n want 0)) ∧ Below w.heap.size w w' := by
  replace hx := Lib.hid hx; replace hl := Lib.hid hl
  skip
  skip
  have hyes := Lib.hid (fun h => alikeS_yes (l := l) (n := n) (want := want) (kd := 0) h)
  have hno := Lib.hid (fun k hk h => alikeS_no (l := l) (n := n) (want := want) (kd := 0) (k := k) hk h)
  go_enter Try.func30, Try.ntmps30
  go_wp2
  go_loopg [11] n (fun gk kv W' => ∃ k : Nat, k ≤ n ∧ gk = n - k ∧ kv = .int .i64 k ∧ (∀ t, t < k → sumS l n 0 t n = want) ∧ Below w.heap.size w W')
  case atStart => exact ⟨0, by omega, by omega, rfl, fun t ht => absurd ht (by omega), Below.refl _ _⟩
  case round =>
    obtain ⟨k, hk, hgk, rfl, hall, hB⟩ := hrel
    obtain ⟨W1, rfl⟩ : ∃ W1 : World, W1 = wr := ⟨_, rfl⟩
    replace hgk := Lib.hid hgk; replace hall := Lib.hid hall
    by_cases hlt : k < n
    · have hx1 := hx.out.below hB
      skip
      have HS := Lib.hid (sum0 W1.heap.size k n c p l (W1.alloc (.cells #[.int .i64 k] 3)) hn1 hn hlt (hx1.alloc _) hl.out (Box.new W1 k))
      have hBa := bbox hB k
      replace hBa := Lib.hid hBa; replace hx1 := Lib.hid hx1; replace hB := Lib.hid hB
      skip
      generalize hS : sumS l n 0 k n = S at *
      replace hS := Lib.hid hS
      go_wp2_with fail
      refine (mk0 _ _).mono ?_
      rintro e w' ⟨rfl, rfl⟩
      go_wp2_with fail
      by_cases he : S = want
      · have g0 : ((S : Int) != (want : Int)) = false := by simp [he]
        refine HS.out.mono ?_
        rintro e W2 ⟨rfl, hB2⟩
        have hB3 := Lib.hid (hBa.out.trans (hB2.mono hBa.out.size))
        replace he := Lib.hid he
        clear hB2 HS
        go_wp2_with fail
        have hgk := hgk.out
        go_roundg (n - (k + 1))
        case measure => omega
        case rel => exact ⟨k + 1, by omega, rfl, by go_num, fun t ht => by
          by_cases e : t = k
          · rw [e, hS.out]; exact he.out
          · exact hall.out t (by omega), hB3.out⟩
      · have g0 : ((S : Int) != (want : Int)) = true := by simp; omega
        refine HS.out.mono ?_
        rintro e W2 ⟨rfl, hB2⟩
        have hB3 := Lib.hid (hBa.out.trans (hB2.mono hBa.out.size))
        have hres := Lib.hid (hno.out k hlt (by rw [hS.out]; exact he))
        replace he := Lib.hid he
        clear hB2 HS
        go_wp2_with fail
        go_ret
        exact ⟨ret_bool hres.out.symm, hB3.out⟩
    · have hres := Lib.hid (hyes.out (fun t ht => hall.out t (by omega)))
      replace hB := Lib.hid hB
      go_wp2_with fail
      go_ret
      exact ⟨ret_bool hres.out.symm, hB.out⟩

theorem mk1 (k : Int) (w : World) : Calls Try.prog 31 #[.int .i64 k] w fun e w' => e = .returned (.func (.func 38) #[] #[.pointer (some ⟨w.heap.size, 0, none⟩)]) ∧ w' = w.alloc (.cells #[.int .i64 k] 3) := by
  go_enter Try.func31, Try.ntmps31
  go_wp2
  go_ret
  exact ⟨rfl, rfl⟩

set_option maxHeartbeats 1000000 in
theorem alike1 (n c want : Nat) (p : Option Addr) (l : List Nat) (w : World) (hn1 : 1 ≤ n) (hn : n ≤ 12) (hx : IntsIn w p (n * n) (asI l)) (hl : ∀ x ∈ l, x ≤ 1000) :
    Calls Try.prog 30 #[.slice p (n * n) c, .int .i64 n, .int .i64 want, .func (.func 31) #[] #[]] w fun e w' => e = .returned (.bool (alikeS l n want 1)) ∧ Below w.heap.size w w' := by
  replace hx := Lib.hid hx; replace hl := Lib.hid hl
  skip
  skip
  have hyes := Lib.hid (fun h => alikeS_yes (l := l) (n := n) (want := want) (kd := 1) h)
  have hno := Lib.hid (fun k hk h => alikeS_no (l := l) (n := n) (want := want) (kd := 1) (k := k) hk h)
  go_enter Try.func30, Try.ntmps30
  go_wp2
  go_loopg [11] n (fun gk kv W' => ∃ k : Nat, k ≤ n ∧ gk = n - k ∧ kv = .int .i64 k ∧ (∀ t, t < k → sumS l n 1 t n = want) ∧ Below w.heap.size w W')
  case atStart => exact ⟨0, by omega, by omega, rfl, fun t ht => absurd ht (by omega), Below.refl _ _⟩
  case round =>
    obtain ⟨k, hk, hgk, rfl, hall, hB⟩ := hrel
    obtain ⟨W1, rfl⟩ : ∃ W1 : World, W1 = wr := ⟨_, rfl⟩
    replace hgk := Lib.hid hgk; replace hall := Lib.hid hall
    by_cases hlt : k < n
    · have hx1 := hx.out.below hB
      skip
      have HS := Lib.hid (sum1 W1.heap.size k n c p l (W1.alloc (.cells #[.int .i64 k] 3)) hn1 hn hlt (hx1.alloc _) hl.out (Box.new W1 k))
      have hBa := bbox hB k
      replace hBa := Lib.hid hBa; replace hx1 := Lib.hid hx1; replace hB := Lib.hid hB
      skip
      generalize hS : sumS l n 1 k n = S at *
      replace hS := Lib.hid hS
      go_wp2_with fail
      refine (mk1 _ _).mono ?_
      rintro e w' ⟨rfl, rfl⟩
      go_wp2_with fail
      by_cases he : S = want
      · have g0 : ((S : Int) != (want : Int)) = false := by simp [he]
        refine HS.out.mono ?_
        rintro e W2 ⟨rfl, hB2⟩
        have hB3 := Lib.hid (hBa.out.trans (hB2.mono hBa.out.size))
        replace he := Lib.hid he
        clear hB2 HS
        go_wp2_with fail
        have hgk := hgk.out
        go_roundg (n - (k + 1))
        case measure => omega
        case rel => exact ⟨k + 1, by omega, rfl, by go_num, fun t ht => by
          by_cases e : t = k
          · rw [e, hS.out]; exact he.out
          · exact hall.out t (by omega), hB3.out⟩
      · have g0 : ((S : Int) != (want : Int)) = true := by simp; omega
        refine HS.out.mono ?_
        rintro e W2 ⟨rfl, hB2⟩
        have hB3 := Lib.hid (hBa.out.trans (hB2.mono hBa.out.size))
        have hres := Lib.hid (hno.out k hlt (by rw [hS.out]; exact he))
        replace he := Lib.hid he
        clear hB2 HS
        go_wp2_with fail
        go_ret
        exact ⟨ret_bool hres.out.symm, hB3.out⟩
    · have hres := Lib.hid (hyes.out (fun t ht => hall.out t (by omega)))
      replace hB := Lib.hid hB
      go_wp2_with fail
      go_ret
      exact ⟨ret_bool hres.out.symm, hB.out⟩

theorem mk2 (k : Int) (w : World) : Calls Try.prog 32 #[.int .i64 k] w fun e w' => e = .returned (.func (.func 39) #[] #[.pointer (some ⟨w.heap.size, 0, none⟩)]) ∧ w' = w.alloc (.cells #[.int .i64 k] 3) := by
  go_enter Try.func32, Try.ntmps32
  go_wp2
  go_ret
  exact ⟨rfl, rfl⟩

set_option maxHeartbeats 1000000 in
theorem alike2 (n c want : Nat) (p : Option Addr) (l : List Nat) (w : World) (hn1 : 1 ≤ n) (hn : n ≤ 12) (hx : IntsIn w p (n * n) (asI l)) (hl : ∀ x ∈ l, x ≤ 1000) :
    Calls Try.prog 30 #[.slice p (n * n) c, .int .i64 n, .int .i64 want, .func (.func 32) #[] #[]] w fun e w' => e = .returned (.bool (alikeS l n want 2)) ∧ Below w.heap.size w w' := by
  replace hx := Lib.hid hx; replace hl := Lib.hid hl
  skip
  skip
  have hyes := Lib.hid (fun h => alikeS_yes (l := l) (n := n) (want := want) (kd := 2) h)
  have hno := Lib.hid (fun k hk h => alikeS_no (l := l) (n := n) (want := want) (kd := 2) (k := k) hk h)
  go_enter Try.func30, Try.ntmps30
  go_wp2
  go_loopg [11] n (fun gk kv W' => ∃ k : Nat, k ≤ n ∧ gk = n - k ∧ kv = .int .i64 k ∧ (∀ t, t < k → sumS l n 2 t n = want) ∧ Below w.heap.size w W')
  case atStart => exact ⟨0, by omega, by omega, rfl, fun t ht => absurd ht (by omega), Below.refl _ _⟩
  case round =>
    obtain ⟨k, hk, hgk, rfl, hall, hB⟩ := hrel
    obtain ⟨W1, rfl⟩ : ∃ W1 : World, W1 = wr := ⟨_, rfl⟩
    replace hgk := Lib.hid hgk; replace hall := Lib.hid hall
    by_cases hlt : k < n
    · have hx1 := hx.out.below hB
      skip
      have HS := Lib.hid (sum2 W1.heap.size k n c p l (W1.alloc (.cells #[.int .i64 k] 3)) hn1 hn hlt (hx1.alloc _) hl.out (Box.new W1 k))
      have hBa := bbox hB k
      replace hBa := Lib.hid hBa; replace hx1 := Lib.hid hx1; replace hB := Lib.hid hB
      skip
      generalize hS : sumS l n 2 k n = S at *
      replace hS := Lib.hid hS
      go_wp2_with fail
      refine (mk2 _ _).mono ?_
      rintro e w' ⟨rfl, rfl⟩
      go_wp2_with fail
      by_cases he : S = want
      · have g0 : ((S : Int) != (want : Int)) = false := by simp [he]
        refine HS.out.mono ?_
        rintro e W2 ⟨rfl, hB2⟩
        have hB3 := Lib.hid (hBa.out.trans (hB2.mono hBa.out.size))
        replace he := Lib.hid he
        clear hB2 HS
        go_wp2_with fail
        have hgk := hgk.out
        go_roundg (n - (k + 1))
        case measure => omega
        case rel => exact ⟨k + 1, by omega, rfl, by go_num, fun t ht => by
          by_cases e : t = k
          · rw [e, hS.out]; exact he.out
          · exact hall.out t (by omega), hB3.out⟩
      · have g0 : ((S : Int) != (want : Int)) = true := by simp; omega
        refine HS.out.mono ?_
        rintro e W2 ⟨rfl, hB2⟩
        have hB3 := Lib.hid (hBa.out.trans (hB2.mono hBa.out.size))
        have hres := Lib.hid (hno.out k hlt (by rw [hS.out]; exact he))
        replace he := Lib.hid he
        clear hB2 HS
        go_wp2_with fail
        go_ret
        exact ⟨ret_bool hres.out.symm, hB3.out⟩
    · have hres := Lib.hid (hyes.out (fun t ht => hall.out t (by omega)))
      replace hB := Lib.hid hB
      go_wp2_with fail
      go_ret
      exact ⟨ret_bool hres.out.symm, hB.out⟩

theorem mk3 (k : Int) (b1 : Nat) (w : World) : Calls Try.prog 40 #[.int .i64 k, .pointer (some ⟨b1, 0, none⟩)] w fun e w' => e = .returned (.func (.func 41) #[] #[.pointer (some ⟨w.heap.size, 0, none⟩), .pointer (some ⟨b1, 0, none⟩)]) ∧ w' = w.alloc (.cells #[.int .i64 k] 3) := by
  go_enter Try.func40, Try.ntmps40
  go_wp2
  go_ret
  exact ⟨rfl, rfl⟩
theorem mkUp (k : Int) (w : World) : Calls Try.prog 33 #[.int .i64 k] w fun e w' => e = .returned (.func (.func 40) #[] #[.pointer (some ⟨w.heap.size, 0, none⟩)]) ∧ w' = w.alloc (.cells #[.int .i64 k] 3) := by
  go_enter Try.func33, Try.ntmps33
  go_wp2
  go_ret
  exact ⟨rfl, rfl⟩

set_option maxHeartbeats 1000000 in
theorem alike3 (b1 : Nat) (n c want : Nat) (p : Option Addr) (l : List Nat) (w : World) (hn1 : 1 ≤ n) (hn : n ≤ 12) (hx : IntsIn w p (n * n) (asI l)) (hl : ∀ x ∈ l, x ≤ 1000) (hb1 : Box w b1 n) :
    Calls Try.prog 30 #[.slice p (n * n) c, .int .i64 n, .int .i64 want, .func (.func 40) #[] #[.pointer (some ⟨b1, 0, none⟩)]] w fun e w' => e = .returned (.bool (alikeS l n want 3)) ∧ Below w.heap.size w w' := by
  replace hx := Lib.hid hx; replace hl := Lib.hid hl
  have hb1l := hb1.lt
  replace hb1 := Lib.hid hb1
  have hyes := Lib.hid (fun h => alikeS_yes (l := l) (n := n) (want := want) (kd := 3) h)
  have hno := Lib.hid (fun k hk h => alikeS_no (l := l) (n := n) (want := want) (kd := 3) (k := k) hk h)
  go_enter Try.func30, Try.ntmps30
  go_wp2
  go_loopg [11] n (fun gk kv W' => ∃ k : Nat, k ≤ n ∧ gk = n - k ∧ kv = .int .i64 k ∧ (∀ t, t < k → sumS l n 3 t n = want) ∧ Below w.heap.size w W')
  case atStart => exact ⟨0, by omega, by omega, rfl, fun t ht => absurd ht (by omega), Below.refl _ _⟩
  case round =>
    obtain ⟨k, hk, hgk, rfl, hall, hB⟩ := hrel
    obtain ⟨W1, rfl⟩ : ∃ W1 : World, W1 = wr := ⟨_, rfl⟩
    replace hgk := Lib.hid hgk; replace hall := Lib.hid hall
    by_cases hlt : k < n
    · have hx1 := hx.out.below hB
      have hb1b := Box.below hb1.out hB hb1l
      have HS := Lib.hid (sum3 W1.heap.size b1 k n c p l (W1.alloc (.cells #[.int .i64 k] 3)) hn1 hn hlt (hx1.alloc _) hl.out (Box.new W1 k) (Box.below hb1b ((Below.refl _ _).alloc (Nat.le_refl _) _) hb1b.lt))
      have hBa := bbox hB k
      replace hBa := Lib.hid hBa; replace hx1 := Lib.hid hx1; replace hB := Lib.hid hB
      replace hb1b := Lib.hid hb1b
      generalize hS : sumS l n 3 k n = S at *
      replace hS := Lib.hid hS
      go_wp2_with fail
      refine (mk3 _ b1 _).mono ?_
      rintro e w' ⟨rfl, rfl⟩
      go_wp2_with fail
      by_cases he : S = want
      · have g0 : ((S : Int) != (want : Int)) = false := by simp [he]
        refine HS.out.mono ?_
        rintro e W2 ⟨rfl, hB2⟩
        have hB3 := Lib.hid (hBa.out.trans (hB2.mono hBa.out.size))
        replace he := Lib.hid he
        clear hB2 HS
        go_wp2_with fail
        have hgk := hgk.out
        go_roundg (n - (k + 1))
        case measure => omega
        case rel => exact ⟨k + 1, by omega, rfl, by go_num, fun t ht => by
          by_cases e : t = k
          · rw [e, hS.out]; exact he.out
          · exact hall.out t (by omega), hB3.out⟩
      · have g0 : ((S : Int) != (want : Int)) = true := by simp; omega
        refine HS.out.mono ?_
        rintro e W2 ⟨rfl, hB2⟩
        have hB3 := Lib.hid (hBa.out.trans (hB2.mono hBa.out.size))
        have hres := Lib.hid (hno.out k hlt (by rw [hS.out]; exact he))
        replace he := Lib.hid he
        clear hB2 HS
        go_wp2_with fail
        go_ret
        exact ⟨ret_bool hres.out.symm, hB3.out⟩
    · have hres := Lib.hid (hyes.out (fun t ht => hall.out t (by omega)))
      replace hB := Lib.hid hB
      go_wp2_with fail
      go_ret
      exact ⟨ret_bool hres.out.symm, hB.out⟩

set_option maxHeartbeats 4000000 in
set_option maxRecDepth 100000 in
theorem kind_any (n c : Nat) (p : Option Addr) (l : List Nat) (w : World) (hn1 : 1 ≤ n) (hn : n ≤ 12) (hx : IntsIn w p (n * n) (asI l)) (hl : ∀ x ∈ l, x ≤ 1000) :
    Calls Try.prog 19 #[.slice p (n * n) c, .int .i64 n] w fun e w' => e = .returned (.tuple #[.int .i64 (kindS l n).1, .int .i64 (kindS l n).2]) ∧ Below w.heap.size w w' := by
  have HA0 := Lib.hid (fun W (h : Below w.heap.size w W) => alike0 n c (sumS l n 0 0 n) p l W hn1 hn (hx.below h) hl)
  have HA1 := Lib.hid (fun W (h : Below w.heap.size w W) => alike1 n c (sumS l n 0 0 n) p l W hn1 hn (hx.below h) hl)
  have HA2 := Lib.hid (fun W (h : Below w.heap.size w W) => alike2 n c (sumS l n 0 0 n) p l W hn1 hn (hx.below h) hl)
  have HA3 := Lib.hid (fun W b (h : Below w.heap.size w W) (hb : Box W b n) => alike3 b n c (sumS l n 0 0 n) p l W hn1 hn (hx.below h) hl hb)
  have HS0 := Lib.hid (fun W b (h : Below w.heap.size w W) (hb : Box W b (0 : Nat)) => sum0 b 0 n c p l W hn1 hn (by omega) (hx.below h) hl hb)
  have HS2 := Lib.hid (fun W b (h : Below w.heap.size w W) (hb : Box W b (0 : Nat)) => sum2 b 0 n c p l W hn1 hn (by omega) (hx.below h) hl hb)
  have HS3 := Lib.hid (fun W b b2 (h : Below w.heap.size w W) (hb : Box W b (0 : Nat)) (hb2 : Box W b2 n) => sum3 b b2 0 n c p l W hn1 hn (by omega) (hx.below h) hl hb hb2)
  have hk : Hid (kindS l n = if alikeS l n (sumS l n 0 0 n) 0 = false ∨ alikeS l n (sumS l n 0 0 n) 1 = false then (0, 0)
    else if alikeS l n (sumS l n 0 0 n) 2 = false ∨ alikeS l n (sumS l n 0 0 n) 3 = false then (if sumS l n 2 0 n = sumS l n 0 0 n ∧ sumS l n 3 0 n = sumS l n 0 0 n then (2, sumS l n 0 0 n) else (1, sumS l n 0 0 n))
    else (3, sumS l n 0 0 n)) := rfl
  have hq : Hid (Below w.heap.size w w) := Below.refl _ _
  generalize alikeS l n (sumS l n 0 0 n) 0 = A0 at *
  generalize alikeS l n (sumS l n 0 0 n) 1 = A1 at *
  generalize alikeS l n (sumS l n 0 0 n) 2 = A2 at *
  generalize alikeS l n (sumS l n 0 0 n) 3 = A3 at *
  generalize sumS l n 0 0 n = want at *
  generalize sumS l n 2 0 n = T2 at *
  generalize sumS l n 3 0 n = T3 at *
  clear hx hl
  cases A0
  · have hr : kindS l n = (0, 0) := by rw [hk.out, if_pos (.inl rfl)]
    replace hr := Lib.hid hr
    go_enter Try.func19, Try.ntmps19
    go_wp2_with fail
    ((with_reducible refine (mk0 _ _).mono ?_))
    rintro e w' ⟨rfl, rfl⟩
    have hq := Lib.hid (bbox hq.out (0 : Int))
    go_wp2_with fail
    ((with_reducible refine (HS0.out _ _ hq.out (Box.new _ _)).mono ?_))
    rintro e V1 ⟨rfl, hB⟩
    have hq := Lib.hid (hq.out.trans (hB.mono hq.out.size))
    clear hB
    go_wp2_with fail
    ((with_reducible refine (HA0.out _ hq.out).mono ?_))
    rintro e V2 ⟨rfl, hB⟩
    have hq := Lib.hid (hq.out.trans (hB.mono hq.out.size))
    clear hB
    go_wp2_with fail
    go_ret2
    exact ⟨by rw [hr.out]; rfl, hq.out⟩
  · cases A1
    · have hr : kindS l n = (0, 0) := by rw [hk.out, if_pos (.inr rfl)]
      replace hr := Lib.hid hr
      go_enter Try.func19, Try.ntmps19
      go_wp2_with fail
      ((with_reducible refine (mk0 _ _).mono ?_))
      rintro e w' ⟨rfl, rfl⟩
      have hq := Lib.hid (bbox hq.out (0 : Int))
      go_wp2_with fail
      ((with_reducible refine (HS0.out _ _ hq.out (Box.new _ _)).mono ?_))
      rintro e V3 ⟨rfl, hB⟩
      have hq := Lib.hid (hq.out.trans (hB.mono hq.out.size))
      clear hB
      go_wp2_with fail
      ((with_reducible refine (HA0.out _ hq.out).mono ?_))
      rintro e V4 ⟨rfl, hB⟩
      have hq := Lib.hid (hq.out.trans (hB.mono hq.out.size))
      clear hB
      go_wp2_with fail
      ((with_reducible refine (HA1.out _ hq.out).mono ?_))
      rintro e V5 ⟨rfl, hB⟩
      have hq := Lib.hid (hq.out.trans (hB.mono hq.out.size))
      clear hB
      go_wp2_with fail
      go_ret2
      exact ⟨by rw [hr.out]; rfl, hq.out⟩
    · cases A2
      · by_cases e1 : T2 = want
        · have z1 : ((T2 : Int) == (want : Int)) = true := by simp [e1]
          by_cases e2 : T3 = want
          · have z2 : ((T3 : Int) == (want : Int)) = true := by simp [e2]
            have hr : kindS l n = (2, want) := by rw [hk.out, if_neg (by simp), if_pos (.inl rfl), if_pos ⟨e1, e2⟩]
            replace hr := Lib.hid hr
            replace e1 := Lib.hid e1; replace e2 := Lib.hid e2
            go_enter Try.func19, Try.ntmps19
            go_wp2_with fail
            ((with_reducible refine (mk0 _ _).mono ?_))
            rintro e w' ⟨rfl, rfl⟩
            have hq := Lib.hid (bbox hq.out (0 : Int))
            go_wp2_with fail
            ((with_reducible refine (HS0.out _ _ hq.out (Box.new _ _)).mono ?_))
            rintro e V6 ⟨rfl, hB⟩
            have hq := Lib.hid (hq.out.trans (hB.mono hq.out.size))
            clear hB
            go_wp2_with fail
            ((with_reducible refine (HA0.out _ hq.out).mono ?_))
            rintro e V7 ⟨rfl, hB⟩
            have hq := Lib.hid (hq.out.trans (hB.mono hq.out.size))
            clear hB
            go_wp2_with fail
            ((with_reducible refine (HA1.out _ hq.out).mono ?_))
            rintro e V8 ⟨rfl, hB⟩
            have hq := Lib.hid (hq.out.trans (hB.mono hq.out.size))
            clear hB
            go_wp2_with fail
            ((with_reducible refine (HA2.out _ hq.out).mono ?_))
            rintro e V9 ⟨rfl, hB⟩
            have hq := Lib.hid (hq.out.trans (hB.mono hq.out.size))
            clear hB
            go_wp2_with fail
            ((with_reducible refine (mk2 _ _).mono ?_))
            rintro e w' ⟨rfl, rfl⟩
            have hq := Lib.hid (bbox hq.out (0 : Int))
            go_wp2_with fail
            ((with_reducible refine (HS2.out _ _ hq.out (Box.new _ _)).mono ?_))
            rintro e V10 ⟨rfl, hB⟩
            have hq := Lib.hid (hq.out.trans (hB.mono hq.out.size))
            clear hB
            go_wp2_with fail
            ((with_reducible refine (mkUp _ _).mono ?_))
            rintro e w' ⟨rfl, rfl⟩
            have hnb := Lib.hid (Box.new V10 (n : Int))
            have hq := Lib.hid (bbox hq.out (n : Int))
            go_wp2_with fail
            ((with_reducible refine (mk3 _ _ _).mono ?_))
            rintro e w' ⟨rfl, rfl⟩
            have hnb := Lib.hid (Box.below hnb.out ((Below.refl _ _).alloc (Nat.le_refl _) (.cells #[.int .i64 0] 3)) hnb.out.lt)
            have hq := Lib.hid (bbox hq.out (0 : Int))
            go_wp2_with fail
            ((with_reducible refine (HS3.out _ _ _ hq.out (Box.new2 _ _ _) hnb.out).mono ?_))
            rintro e V11 ⟨rfl, hB⟩
            have hq := Lib.hid (hq.out.trans (hB.mono hq.out.size))
            clear hB
            go_wp2_with fail
            go_ret2
            exact ⟨by rw [hr.out]; rfl, hq.out⟩
          · have z2 : ((T3 : Int) == (want : Int)) = false := by simp; omega
            have hr : kindS l n = (1, want) := by rw [hk.out, if_neg (by simp), if_pos (.inl rfl), if_neg (fun h => e2 h.2)]
            replace hr := Lib.hid hr
            replace e1 := Lib.hid e1; replace e2 := Lib.hid e2
            go_enter Try.func19, Try.ntmps19
            go_wp2_with fail
            ((with_reducible refine (mk0 _ _).mono ?_))
            rintro e w' ⟨rfl, rfl⟩
            have hq := Lib.hid (bbox hq.out (0 : Int))
            go_wp2_with fail
            ((with_reducible refine (HS0.out _ _ hq.out (Box.new _ _)).mono ?_))
            rintro e V12 ⟨rfl, hB⟩
            have hq := Lib.hid (hq.out.trans (hB.mono hq.out.size))
            clear hB
            go_wp2_with fail
            ((with_reducible refine (HA0.out _ hq.out).mono ?_))
            rintro e V13 ⟨rfl, hB⟩
            have hq := Lib.hid (hq.out.trans (hB.mono hq.out.size))
            clear hB
            go_wp2_with fail
            ((with_reducible refine (HA1.out _ hq.out).mono ?_))
            rintro e V14 ⟨rfl, hB⟩
            have hq := Lib.hid (hq.out.trans (hB.mono hq.out.size))
            clear hB
            go_wp2_with fail
            ((with_reducible refine (HA2.out _ hq.out).mono ?_))
            rintro e V15 ⟨rfl, hB⟩
            have hq := Lib.hid (hq.out.trans (hB.mono hq.out.size))
            clear hB
            go_wp2_with fail
            ((with_reducible refine (mk2 _ _).mono ?_))
            rintro e w' ⟨rfl, rfl⟩
            have hq := Lib.hid (bbox hq.out (0 : Int))
            go_wp2_with fail
            ((with_reducible refine (HS2.out _ _ hq.out (Box.new _ _)).mono ?_))
            rintro e V16 ⟨rfl, hB⟩
            have hq := Lib.hid (hq.out.trans (hB.mono hq.out.size))
            clear hB
            go_wp2_with fail
            ((with_reducible refine (mkUp _ _).mono ?_))
            rintro e w' ⟨rfl, rfl⟩
            have hnb := Lib.hid (Box.new V16 (n : Int))
            have hq := Lib.hid (bbox hq.out (n : Int))
            go_wp2_with fail
            ((with_reducible refine (mk3 _ _ _).mono ?_))
            rintro e w' ⟨rfl, rfl⟩
            have hnb := Lib.hid (Box.below hnb.out ((Below.refl _ _).alloc (Nat.le_refl _) (.cells #[.int .i64 0] 3)) hnb.out.lt)
            have hq := Lib.hid (bbox hq.out (0 : Int))
            go_wp2_with fail
            ((with_reducible refine (HS3.out _ _ _ hq.out (Box.new2 _ _ _) hnb.out).mono ?_))
            rintro e V17 ⟨rfl, hB⟩
            have hq := Lib.hid (hq.out.trans (hB.mono hq.out.size))
            clear hB
            go_wp2_with fail
            go_ret2
            exact ⟨by rw [hr.out]; rfl, hq.out⟩
        · have z1 : ((T2 : Int) == (want : Int)) = false := by simp; omega
          have hr : kindS l n = (1, want) := by rw [hk.out, if_neg (by simp), if_pos (.inl rfl), if_neg (fun h => e1 h.1)]
          replace hr := Lib.hid hr
          replace e1 := Lib.hid e1
          go_enter Try.func19, Try.ntmps19
          go_wp2_with fail
          ((with_reducible refine (mk0 _ _).mono ?_))
          rintro e w' ⟨rfl, rfl⟩
          have hq := Lib.hid (bbox hq.out (0 : Int))
          go_wp2_with fail
          ((with_reducible refine (HS0.out _ _ hq.out (Box.new _ _)).mono ?_))
          rintro e V18 ⟨rfl, hB⟩
          have hq := Lib.hid (hq.out.trans (hB.mono hq.out.size))
          clear hB
          go_wp2_with fail
          ((with_reducible refine (HA0.out _ hq.out).mono ?_))
          rintro e V19 ⟨rfl, hB⟩
          have hq := Lib.hid (hq.out.trans (hB.mono hq.out.size))
          clear hB
          go_wp2_with fail
          ((with_reducible refine (HA1.out _ hq.out).mono ?_))
          rintro e V20 ⟨rfl, hB⟩
          have hq := Lib.hid (hq.out.trans (hB.mono hq.out.size))
          clear hB
          go_wp2_with fail
          ((with_reducible refine (HA2.out _ hq.out).mono ?_))
          rintro e V21 ⟨rfl, hB⟩
          have hq := Lib.hid (hq.out.trans (hB.mono hq.out.size))
          clear hB
          go_wp2_with fail
          ((with_reducible refine (mk2 _ _).mono ?_))
          rintro e w' ⟨rfl, rfl⟩
          have hq := Lib.hid (bbox hq.out (0 : Int))
          go_wp2_with fail
          ((with_reducible refine (HS2.out _ _ hq.out (Box.new _ _)).mono ?_))
          rintro e V22 ⟨rfl, hB⟩
          have hq := Lib.hid (hq.out.trans (hB.mono hq.out.size))
          clear hB
          go_wp2_with fail
          go_ret2
          exact ⟨by rw [hr.out]; rfl, hq.out⟩
      · cases A3
        · by_cases e1 : T2 = want
          · have z1 : ((T2 : Int) == (want : Int)) = true := by simp [e1]
            by_cases e2 : T3 = want
            · have z2 : ((T3 : Int) == (want : Int)) = true := by simp [e2]
              have hr : kindS l n = (2, want) := by rw [hk.out, if_neg (by simp), if_pos (.inr rfl), if_pos ⟨e1, e2⟩]
              replace hr := Lib.hid hr
              replace e1 := Lib.hid e1; replace e2 := Lib.hid e2
              go_enter Try.func19, Try.ntmps19
              go_wp2_with fail
              ((with_reducible refine (mk0 _ _).mono ?_))
              rintro e w' ⟨rfl, rfl⟩
              have hq := Lib.hid (bbox hq.out (0 : Int))
              go_wp2_with fail
              ((with_reducible refine (HS0.out _ _ hq.out (Box.new _ _)).mono ?_))
              rintro e V23 ⟨rfl, hB⟩
              have hq := Lib.hid (hq.out.trans (hB.mono hq.out.size))
              clear hB
              go_wp2_with fail
              ((with_reducible refine (HA0.out _ hq.out).mono ?_))
              rintro e V24 ⟨rfl, hB⟩
              have hq := Lib.hid (hq.out.trans (hB.mono hq.out.size))
              clear hB
              go_wp2_with fail
              ((with_reducible refine (HA1.out _ hq.out).mono ?_))
              rintro e V25 ⟨rfl, hB⟩
              have hq := Lib.hid (hq.out.trans (hB.mono hq.out.size))
              clear hB
              go_wp2_with fail
              ((with_reducible refine (HA2.out _ hq.out).mono ?_))
              rintro e V26 ⟨rfl, hB⟩
              have hq := Lib.hid (hq.out.trans (hB.mono hq.out.size))
              clear hB
              go_wp2_with fail
              ((with_reducible refine (mkUp _ _).mono ?_))
              rintro e w' ⟨rfl, rfl⟩
              have hq := Lib.hid (bbox hq.out (n : Int))
              go_wp2_with fail
              ((with_reducible refine (HA3.out _ _ hq.out (Box.new _ _)).mono ?_))
              rintro e V27 ⟨rfl, hB⟩
              have hq := Lib.hid (hq.out.trans (hB.mono hq.out.size))
              clear hB
              go_wp2_with fail
              ((with_reducible refine (mk2 _ _).mono ?_))
              rintro e w' ⟨rfl, rfl⟩
              have hq := Lib.hid (bbox hq.out (0 : Int))
              go_wp2_with fail
              ((with_reducible refine (HS2.out _ _ hq.out (Box.new _ _)).mono ?_))
              rintro e V28 ⟨rfl, hB⟩
              have hq := Lib.hid (hq.out.trans (hB.mono hq.out.size))
              clear hB
              go_wp2_with fail
              ((with_reducible refine (mkUp _ _).mono ?_))
              rintro e w' ⟨rfl, rfl⟩
              have hnb := Lib.hid (Box.new V28 (n : Int))
              have hq := Lib.hid (bbox hq.out (n : Int))
              go_wp2_with fail
              ((with_reducible refine (mk3 _ _ _).mono ?_))
              rintro e w' ⟨rfl, rfl⟩
              have hnb := Lib.hid (Box.below hnb.out ((Below.refl _ _).alloc (Nat.le_refl _) (.cells #[.int .i64 0] 3)) hnb.out.lt)
              have hq := Lib.hid (bbox hq.out (0 : Int))
              go_wp2_with fail
              ((with_reducible refine (HS3.out _ _ _ hq.out (Box.new2 _ _ _) hnb.out).mono ?_))
              rintro e V29 ⟨rfl, hB⟩
              have hq := Lib.hid (hq.out.trans (hB.mono hq.out.size))
              clear hB
              go_wp2_with fail
              go_ret2
              exact ⟨by rw [hr.out]; rfl, hq.out⟩
            · have z2 : ((T3 : Int) == (want : Int)) = false := by simp; omega
              have hr : kindS l n = (1, want) := by rw [hk.out, if_neg (by simp), if_pos (.inr rfl), if_neg (fun h => e2 h.2)]
              replace hr := Lib.hid hr
              replace e1 := Lib.hid e1; replace e2 := Lib.hid e2
              go_enter Try.func19, Try.ntmps19
              go_wp2_with fail
              ((with_reducible refine (mk0 _ _).mono ?_))
              rintro e w' ⟨rfl, rfl⟩
              have hq := Lib.hid (bbox hq.out (0 : Int))
              go_wp2_with fail
              ((with_reducible refine (HS0.out _ _ hq.out (Box.new _ _)).mono ?_))
              rintro e V30 ⟨rfl, hB⟩
              have hq := Lib.hid (hq.out.trans (hB.mono hq.out.size))
              clear hB
              go_wp2_with fail
              ((with_reducible refine (HA0.out _ hq.out).mono ?_))
              rintro e V31 ⟨rfl, hB⟩
              have hq := Lib.hid (hq.out.trans (hB.mono hq.out.size))
              clear hB
              go_wp2_with fail
              ((with_reducible refine (HA1.out _ hq.out).mono ?_))
              rintro e V32 ⟨rfl, hB⟩
              have hq := Lib.hid (hq.out.trans (hB.mono hq.out.size))
              clear hB
              go_wp2_with fail
              ((with_reducible refine (HA2.out _ hq.out).mono ?_))
              rintro e V33 ⟨rfl, hB⟩
              have hq := Lib.hid (hq.out.trans (hB.mono hq.out.size))
              clear hB
              go_wp2_with fail
              ((with_reducible refine (mkUp _ _).mono ?_))
              rintro e w' ⟨rfl, rfl⟩
              have hq := Lib.hid (bbox hq.out (n : Int))
              go_wp2_with fail
              ((with_reducible refine (HA3.out _ _ hq.out (Box.new _ _)).mono ?_))
              rintro e V34 ⟨rfl, hB⟩
              have hq := Lib.hid (hq.out.trans (hB.mono hq.out.size))
              clear hB
              go_wp2_with fail
              ((with_reducible refine (mk2 _ _).mono ?_))
              rintro e w' ⟨rfl, rfl⟩
              have hq := Lib.hid (bbox hq.out (0 : Int))
              go_wp2_with fail
              ((with_reducible refine (HS2.out _ _ hq.out (Box.new _ _)).mono ?_))
              rintro e V35 ⟨rfl, hB⟩
              have hq := Lib.hid (hq.out.trans (hB.mono hq.out.size))
              clear hB
              go_wp2_with fail
              ((with_reducible refine (mkUp _ _).mono ?_))
              rintro e w' ⟨rfl, rfl⟩
              have hnb := Lib.hid (Box.new V35 (n : Int))
              have hq := Lib.hid (bbox hq.out (n : Int))
              go_wp2_with fail
              ((with_reducible refine (mk3 _ _ _).mono ?_))
              rintro e w' ⟨rfl, rfl⟩
              have hnb := Lib.hid (Box.below hnb.out ((Below.refl _ _).alloc (Nat.le_refl _) (.cells #[.int .i64 0] 3)) hnb.out.lt)
              have hq := Lib.hid (bbox hq.out (0 : Int))
              go_wp2_with fail
              ((with_reducible refine (HS3.out _ _ _ hq.out (Box.new2 _ _ _) hnb.out).mono ?_))
              rintro e V36 ⟨rfl, hB⟩
              have hq := Lib.hid (hq.out.trans (hB.mono hq.out.size))
              clear hB
              go_wp2_with fail
              go_ret2
              exact ⟨by rw [hr.out]; rfl, hq.out⟩
          · have z1 : ((T2 : Int) == (want : Int)) = false := by simp; omega
            have hr : kindS l n = (1, want) := by rw [hk.out, if_neg (by simp), if_pos (.inr rfl), if_neg (fun h => e1 h.1)]
            replace hr := Lib.hid hr
            replace e1 := Lib.hid e1
            go_enter Try.func19, Try.ntmps19
            go_wp2_with fail
            ((with_reducible refine (mk0 _ _).mono ?_))
            rintro e w' ⟨rfl, rfl⟩
            have hq := Lib.hid (bbox hq.out (0 : Int))
            go_wp2_with fail
            ((with_reducible refine (HS0.out _ _ hq.out (Box.new _ _)).mono ?_))
            rintro e V37 ⟨rfl, hB⟩
            have hq := Lib.hid (hq.out.trans (hB.mono hq.out.size))
            clear hB
            go_wp2_with fail
            ((with_reducible refine (HA0.out _ hq.out).mono ?_))
            rintro e V38 ⟨rfl, hB⟩
            have hq := Lib.hid (hq.out.trans (hB.mono hq.out.size))
            clear hB
            go_wp2_with fail
            ((with_reducible refine (HA1.out _ hq.out).mono ?_))
            rintro e V39 ⟨rfl, hB⟩
            have hq := Lib.hid (hq.out.trans (hB.mono hq.out.size))
            clear hB
            go_wp2_with fail
            ((with_reducible refine (HA2.out _ hq.out).mono ?_))
            rintro e V40 ⟨rfl, hB⟩
            have hq := Lib.hid (hq.out.trans (hB.mono hq.out.size))
            clear hB
            go_wp2_with fail
            ((with_reducible refine (mkUp _ _).mono ?_))
            rintro e w' ⟨rfl, rfl⟩
            have hq := Lib.hid (bbox hq.out (n : Int))
            go_wp2_with fail
            ((with_reducible refine (HA3.out _ _ hq.out (Box.new _ _)).mono ?_))
            rintro e V41 ⟨rfl, hB⟩
            have hq := Lib.hid (hq.out.trans (hB.mono hq.out.size))
            clear hB
            go_wp2_with fail
            ((with_reducible refine (mk2 _ _).mono ?_))
            rintro e w' ⟨rfl, rfl⟩
            have hq := Lib.hid (bbox hq.out (0 : Int))
            go_wp2_with fail
            ((with_reducible refine (HS2.out _ _ hq.out (Box.new _ _)).mono ?_))
            rintro e V42 ⟨rfl, hB⟩
            have hq := Lib.hid (hq.out.trans (hB.mono hq.out.size))
            clear hB
            go_wp2_with fail
            go_ret2
            exact ⟨by rw [hr.out]; rfl, hq.out⟩
        · have hr : kindS l n = (3, want) := by rw [hk.out, if_neg (by simp), if_neg (by simp)]
          replace hr := Lib.hid hr
          go_enter Try.func19, Try.ntmps19
          go_wp2_with fail
          ((with_reducible refine (mk0 _ _).mono ?_))
          rintro e w' ⟨rfl, rfl⟩
          have hq := Lib.hid (bbox hq.out (0 : Int))
          go_wp2_with fail
          ((with_reducible refine (HS0.out _ _ hq.out (Box.new _ _)).mono ?_))
          rintro e V43 ⟨rfl, hB⟩
          have hq := Lib.hid (hq.out.trans (hB.mono hq.out.size))
          clear hB
          go_wp2_with fail
          ((with_reducible refine (HA0.out _ hq.out).mono ?_))
          rintro e V44 ⟨rfl, hB⟩
          have hq := Lib.hid (hq.out.trans (hB.mono hq.out.size))
          clear hB
          go_wp2_with fail
          ((with_reducible refine (HA1.out _ hq.out).mono ?_))
          rintro e V45 ⟨rfl, hB⟩
          have hq := Lib.hid (hq.out.trans (hB.mono hq.out.size))
          clear hB
          go_wp2_with fail
          ((with_reducible refine (HA2.out _ hq.out).mono ?_))
          rintro e V46 ⟨rfl, hB⟩
          have hq := Lib.hid (hq.out.trans (hB.mono hq.out.size))
          clear hB
          go_wp2_with fail
          ((with_reducible refine (mkUp _ _).mono ?_))
          rintro e w' ⟨rfl, rfl⟩
          have hq := Lib.hid (bbox hq.out (n : Int))
          go_wp2_with fail
          ((with_reducible refine (HA3.out _ _ hq.out (Box.new _ _)).mono ?_))
          rintro e V47 ⟨rfl, hB⟩
          have hq := Lib.hid (hq.out.trans (hB.mono hq.out.size))
          clear hB
          go_wp2_with fail
          go_ret2
          exact ⟨by rw [hr.out]; rfl, hq.out⟩
end Go.Proofs.Ytbfdhegglaaghaa
