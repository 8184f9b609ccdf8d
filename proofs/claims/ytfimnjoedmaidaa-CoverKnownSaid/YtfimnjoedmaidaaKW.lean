/- gameroomkeep.CoverKnown returns true whatever it is given; conditions: the arguments are ints of 64 bits. -/
import Derived.Test.YtfimnjoedmaidaaQ
import Derived.Test.YtfimnjoedmaidaaL
import Derived.Test.YtfimnjoedmaidaaPick
namespace Go.Proofs.Ytfimnjoedmaidaa
open Go.RowKit

theorem heap4 (w : World) (o1 o2 o3 o4 : Obj) : ((((w.alloc o1).alloc o2).alloc o3).alloc o4).heap[w.heap.size]? = some o1 ∧ ((((w.alloc o1).alloc o2).alloc o3).alloc o4).heap[w.heap.size + 1]? = some o2 ∧
    ((((w.alloc o1).alloc o2).alloc o3).alloc o4).heap[w.heap.size + 1 + 1]? = some o3 ∧ ((((w.alloc o1).alloc o2).alloc o3).alloc o4).heap[w.heap.size + 1 + 1 + 1]? = some o4 := by
  refine ⟨?_, ?_, ?_, ?_⟩
  · rw [Below.heap_alloc _ _ _ (by simp; omega), Below.heap_alloc _ _ _ (by simp; omega), Below.heap_alloc _ _ _ (by simp), heap_alloc_new]
  · rw [Below.heap_alloc _ _ _ (by simp), Below.heap_alloc _ _ _ (by simp)]; simpa using heap_alloc_new (w.alloc o1) o2
  · rw [Below.heap_alloc _ _ _ (by simp)]; simpa using heap_alloc_new ((w.alloc o1).alloc o2) o3
  · simpa using heap_alloc_new (((w.alloc o1).alloc o2).alloc o3) o4
theorem below4 (w : World) (o1 o2 o3 o4 : Obj) : Below w.heap.size w ((((w.alloc o1).alloc o2).alloc o3).alloc o4) :=
  ((((Below.refl _ _).alloc (Nat.le_refl _) _).alloc (by simp) _).alloc (by simp; omega) _).alloc (by simp; omega) _

theorem below2 (w : World) (o1 o2 : Obj) : Below w.heap.size w ((w.alloc o1).alloc o2) :=
  ((Below.refl _ _).alloc (Nat.le_refl _) _).alloc (by simp) _

set_option maxHeartbeats 2000000 in
theorem latin_any (n : Nat) (w : World) (h1 : 1 ≤ n) (h2 : n ≤ 4) (nI : Int) (hnI : Hid (nI = n)) :
    Calls Try.prog 8 #[.int .i64 nI, .slice none 0 0] w fun e w' => e = .returned (.tuple #[.int .i64 (fillS n (n * n) 0 0 (List.replicate n 0)).1, .int .i64 0]) ∧ Below w.heap.size w w' := by
  have hnI := hnI.out
  subst hnI
  have hmk : ∀ W : World, (Instr.makeSlice 40 (.int .i64 (n : Int)) (.int .i64 (n : Int))).run Try.prog W = .ok (.slice (some ⟨W.heap.size, 0, none⟩) n n) (W.alloc (.cells ((List.replicate n 0).map (Value.int .u64)).toArray 39)) := fun W =>
    run_mkK .u64 8 Try.underlying40 (by kernel_rfl) (by omega) _ _ _ _ n rfl rfl (by omega) W
  have p1 : (1 : Int) ≤ n := by omega
  have p2 : (n : Int) ≤ 5 := by omega
  go_enter Try.func8, Try.ntmps8
  go_wp2
  clear hmk
  refine wp_loop_rounds 1 ?_; rw [rounds_succ]
  go_wp2_with fail
  obtain ⟨a1, a2, a3, a4⟩ := heap4 w (.cells #[.int .i64 n] 3) (.cells (Array.replicate n (.int .u64 0)) 39) (.cells #[.slice (some ⟨w.heap.size + 1, 0, none⟩) n n] 40) (.cells #[.func (.func 14) #[] #[.pointer (some ⟨w.heap.size, 0, none⟩), .pointer (some ⟨w.heap.size + 1 + 1, 0, none⟩), .pointer (some ⟨w.heap.size + 1 + 1 + 1, 0, none⟩)]] 41)
  have F := fill_any n w.heap.size (w.heap.size + 1 + 1) (w.heap.size + 1 + 1 + 1) (w.heap.size + 1) h1 h2 (n * n) 0 0 (List.replicate n 0) _ (by omega) (Lib.hid ⟨a1, a3, a4, by omega, by omega, by omega⟩) (by show _ = _; rw [a2]; simp) (by show _ = _; simp) 0 rfl
  refine F.mono ?_
  rintro e w' ⟨rfl, _, hg⟩
  have hB : Below w.heap.size w w' := (below4 w _ _ _ _).grown hg (by simp; omega) (fun x hx => by cases hx; omega)
  replace hB := Lib.hid hB
  clear F hg a1 a2 a3 a4
  go_wp2_with fail
  go_ret2
  exact ⟨rfl, hB.out⟩

set_option maxRecDepth 100000 in
set_option maxHeartbeats 2000000 in
theorem known_any (a b : Int) (w : World) (a1 : -9223372036854775808 ≤ a) (a2 : a ≤ 9223372036854775807) (b1 : -9223372036854775808 ≤ b) (b2 : b ≤ 9223372036854775807) :
    Calls Try.prog 3 #[.int .i64 a, .int .i64 b] w fun e w' => e = .returned (.bool true) ∧ Below w.heap.size w w' := by
  have p1 := pick_lt a 8 (by omega)
  have p2 := pick_lt b 4 (by omega)
  have A := fun W => picked_any a 8 W a1 a2 (by omega) (by omega) 8 rfl
  have B := fun W => picked_any b 4 W b1 b2 (by omega) (by omega) 4 rfl
  have K1 := queens_known (pick a 8) p1
  have K2 := latin_known (pick b 4) p2
  generalize pick a 8 = x at *
  generalize pick b 4 = y at *
  have Q := fun W => queens_any (x + 1) W (by omega) (by omega)
  have L := fun W => latin_any (y + 1) W (by omega) (by omega)
  obtain ⟨q, hq⟩ : ∃ q, q = ([1, 0, 0, 2, 10, 4, 40, 92] : List Int)[x]?.getD 0 := ⟨_, rfl⟩
  obtain ⟨r, hr⟩ : ∃ r, r = ([1, 2, 12, 576] : List Int)[y]?.getD 0 := ⟨_, rfl⟩
  rw [K1, ← hq] at Q; rw [K2, ← hr] at L
  replace hq := Lib.hid hq; replace hr := Lib.hid hr
  replace A := Lib.hid A; replace B := Lib.hid B; replace Q := Lib.hid Q; replace L := Lib.hid L
  clear K1 K2
  go_enter Try.func3, Try.ntmps3
  go_wp2_with fail
  refine (A.out _).mono ?_
  rintro e w' ⟨rfl, rfl⟩
  go_wp2_with fail
  refine (B.out _).mono ?_
  rintro e w' ⟨rfl, rfl⟩
  go_wp2_with fail
  have X := IntsIn.new w _ 3 w.heap.size 8 [1, 0, 0, 2, 10, 4, 40, 92] rfl rfl rfl
  have X := X.alloc (.cells #[.int .i64 1, .int .i64 2, .int .i64 12, .int .i64 576] 3)
  have Y := IntsIn.new (w.alloc (.cells #[.int .i64 1, .int .i64 0, .int .i64 0, .int .i64 2, .int .i64 10, .int .i64 4, .int .i64 40, .int .i64 92] 3)) _ 3 (w.heap.size + 1) 4 [1, 2, 12, 576] (by simp) rfl rfl
  refine (Q.out _ _ (Lib.hid (by omega))).mono ?_
  rintro e w1 ⟨rfl, hB1⟩
  have X := X.below hB1
  have Y := Y.below hB1
  have HB := (below2 w _ _).trans (hB1.mono (by simp; omega))
  clear hB1
  replace X := Lib.hid X; replace Y := Lib.hid Y; replace HB := Lib.hid HB
  go_wp2_with fail
  refine (L.out _ _ (Lib.hid (by omega))).mono ?_
  rintro e w2 ⟨rfl, hB1⟩
  have X1 := (X.out.below hB1).at (by omega)
  have Y1 := (Y.out.below hB1).at (by omega)
  have HB1 := HB.out.trans (hB1.mono HB.out.size)
  obtain ⟨_, _, e1, _, c1⟩ := X1
  cases e1
  obtain ⟨_, _, e2, _, c2⟩ := Y1
  cases e2
  have d1 := c1 x p1
  have d2 := c2 y p2
  rw [Nat.zero_add, ← hq.out] at d1
  rw [Nat.zero_add, ← hr.out] at d2
  replace HB1 := Lib.hid HB1
  clear hB1 X Y HB c1 c2
  go_wp2_with fail
  go_ret
  exact ⟨ret_bool (by simp), HB1.out⟩
end Go.Proofs.Ytfimnjoedmaidaa
