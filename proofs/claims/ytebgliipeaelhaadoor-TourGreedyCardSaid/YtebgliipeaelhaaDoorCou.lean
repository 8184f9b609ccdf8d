/- What tour.Count computes; conditions: a board of at most 20 places, of 1 to 8 by 1 to 8, a place on it, the table of leaps as the program lays it. -/
import Derived.Test.YtebgliipeaelhaaDoorCnt
import Derived.Deep.DeepCutAuto
namespace Go.Proofs.YtebgliipeaelhaaDoor
open Go.RowKit

set_option maxRecDepth 100000 in
set_option maxHeartbeats 4000000 in
theorem Count_any (a b x : Nat) (w : World) (ha1 : 1 ≤ a) (ha : a ≤ 8) (hb1 : 1 ≤ b) (hb : b ≤ 8) (hab : a * b ≤ 20) (hL : Lps w) (hx : x < a * b) :
    Calls Tryd.prog 8 #[.int .i64 a, .int .i64 b, .int .i64 x] w fun r w' => r = .returned (.tuple #[.int .i64 ((cntS a b x (a * b - 1) x (2 ^ x)).1 : Nat), .int .i64 ((cntS a b x (a * b - 1) x (2 ^ x)).2 : Nat), .int .i64 0]) ∧ Below w.heap.size w w' := by
  have hB0 := ((Below.refl w.heap.size w).alloc (Nat.le_refl _) (.cells #[.int .i64 (x : Int)] 3)).alloc (by simp) (.cells #[.int .i64 (x : Int)] 3)
  have e0 := heap_alloc_new w (.cells #[.int .i64 (x : Int)] 3)
  have c0 := cell_of_one e0
  have hz0 : w.heap.size < (w.alloc (.cells #[.int .i64 (x : Int)] 3)).heap.size := by simp
  have e1 := (Below.heap_alloc (w.alloc (.cells #[.int .i64 (x : Int)] 3)) (.cells #[.int .i64 (x : Int)] 3) w.heap.size hz0).trans e0
  have hp : IntsIn ((w.alloc (.cells #[.int .i64 (x : Int)] 3)).alloc (.cells #[.int .i64 (x : Int)] 3)) (some ⟨w.heap.size + 1, 0, none⟩) 1 (asI [x]) := IntsIn.new (w.alloc (.cells #[.int .i64 (x : Int)] 3)) _ 3 _ 1 _ (by simp) (by simp [asI]) rfl
  have H := at_any a b (some ⟨w.heap.size + 1, 0, none⟩) 1 1 [x] _ ha1 ha hb1 hb (hL.below hB0) (by omega) hp (by intro q hq; simp at hq; rw [hq]; exact hx)
  obtain ⟨N, hN⟩ : ∃ N, N = a * b := ⟨_, rfl⟩
  rw [← hN] at hx H hab ⊢
  replace hN := Lib.hid hN; replace hB0 := Lib.hid hB0
  clear hp hL ha1 hb1 e0
  replace e1 := Lib.hid e1
  go_enter Tryd.func8, Tryd.ntmps8
  go_wp2_with fail
  refine H.mono ?_
  rintro r W1 ⟨g, rfl, hg, hF, hB⟩
  have h1 : Hid (W1.heap[w.heap.size]? = some (.cells #[.int .i64 (x : Int)] 3 (0, 0))) := (hB.block w.heap.size (by simp; omega)).trans e1.out
  have hB1 : Hid (Below w.heap.size w W1) := hB0.out.trans (hB.mono (by simp; omega))
  have hs1 : w.heap.size + 2 ≤ W1.heap.size := Nat.le_trans (by simp) hB.size
  replace hF := Lib.hid hF
  clear hB0 hB H e1 hz0 c0 hg
  have e2 := heap_alloc_new W1 (.cells #[.slice none 0 0] 35)
  have f2 := free_of_one e2
  go_upto_region 2 with fail
  have hBx : Below W1.heap.size W1 (W1.alloc (.cells #[.slice (some ⟨g, 0, none⟩) N N] 35)) := (Below.refl W1.heap.size W1).alloc (Nat.le_refl _) _
  have h2 : Hid ((W1.alloc (.cells #[.slice (some ⟨g, 0, none⟩) N N] 35)).heap[W1.heap.size]? = some (.cells #[.slice (some ⟨g, 0, none⟩) N N] 35 (0, 0))) := heap_alloc_new W1 _
  have h3 : Hid ((W1.alloc (.cells #[.slice (some ⟨g, 0, none⟩) N N] 35)).heap[w.heap.size]? = some (.cells #[.int .i64 (x : Int)] 3 (0, 0))) := (hBx.block _ (by omega)).trans h1.out
  have hF2 : Hid (FieldIn (W1.alloc (.cells #[.slice (some ⟨g, 0, none⟩) N N] 35)) g a b) := hF.out.below hBx
  have hB2 : Hid (Below w.heap.size w (W1.alloc (.cells #[.slice (some ⟨g, 0, none⟩) N N] 35))) := hB1.out.trans (hBx.mono (by omega))
  have hs2 : W1.heap.size < (W1.alloc (.cells #[.slice (some ⟨g, 0, none⟩) N N] 35)).heap.size := by simp
  have c2 := cell_of_one h2.out
  clear hBx e2 f2 hF hB1 h1
  generalize W1.heap.size = fb at *
  generalize W1.alloc (.cells #[.slice (some ⟨g, 0, none⟩) N N] 35) = W2 at *
  clear W1
  have e3 := heap_alloc_new W2 (.cells #[.int .i64 0] 3)
  have e4 := heap_alloc_new (W2.alloc (.cells #[.int .i64 0] 3)) (.cells #[.int .i64 0] 3)
  have f4 := free_of_one e4
  have f3 := free_of_one ((Below.heap_alloc (W2.alloc (.cells #[.int .i64 0] 3)) (.cells #[.int .i64 0] 3) W2.heap.size (by simp)).trans e3)
  have c4 := cell_of_one e4
  have c3 := cell_of_one ((Below.heap_alloc (W2.alloc (.cells #[.int .i64 0] 3)) (.cells #[.int .i64 0] 3) W2.heap.size (by simp)).trans e3)
  go_upto_region 9 with fail
  clear f3 f4 c3 c4 e4
  have hS : Hid (Cs (((W2.alloc (.cells #[.int .i64 0] 3)).alloc (.cells #[.int .i64 0] 3)).alloc (.cells #[.func (.func 13) #[] #[.pointer (some ⟨W2.heap.size, 0, none⟩), .pointer (some ⟨fb, 0, none⟩), .pointer (some ⟨w.heap.size, 0, none⟩), .pointer (some ⟨W2.heap.size + 1, 0, none⟩), .pointer (some ⟨W2.heap.size + 1 + 1, 0, none⟩)]] 39)) w.heap.size fb W2.heap.size (W2.heap.size + 1) (W2.heap.size + 1 + 1) g a b x 0 0) := by
    have b1 : Below W2.heap.size W2 (W2.alloc (.cells #[.int .i64 0] 3)) := (Below.refl _ _).alloc (Nat.le_refl _) _
    have z1 : (W2.alloc (.cells #[.int .i64 0] 3)).heap.size = W2.heap.size + 1 := by simp
    have b2 : Below (W2.heap.size + 1) (W2.alloc (.cells #[.int .i64 0] 3)) ((W2.alloc (.cells #[.int .i64 0] 3)).alloc (.cells #[.int .i64 0] 3)) := (Below.refl _ _).alloc (by omega) _
    have e4 := heap_alloc_new (W2.alloc (.cells #[.int .i64 0] 3)) (.cells #[.int .i64 0] 3)
    have z2 : ((W2.alloc (.cells #[.int .i64 0] 3)).alloc (.cells #[.int .i64 0] 3)).heap.size = W2.heap.size + 1 + 1 := by simp
    rw [z1] at e4
    generalize (W2.alloc (.cells #[.int .i64 0] 3)).alloc (.cells #[.int .i64 0] 3) = W4 at *
    generalize W2.alloc (.cells #[.int .i64 0] 3) = W3 at *
    have b3 : ∀ o : Obj, Below (W2.heap.size + 1 + 1) W4 (W4.alloc o) := fun o => (Below.refl _ _).alloc (by omega) _
    have bb : ∀ o : Obj, Below W2.heap.size W2 (W4.alloc o) := fun o => b1.trans ((b2.mono (by omega)).trans ((b3 o).mono (by omega)))
    have e5 := heap_alloc_new W4 (.cells #[.func (.func 13) #[] #[.pointer (some ⟨W2.heap.size, 0, none⟩), .pointer (some ⟨fb, 0, none⟩), .pointer (some ⟨w.heap.size, 0, none⟩), .pointer (some ⟨W2.heap.size + 1, 0, none⟩), .pointer (some ⟨W2.heap.size + 1 + 1, 0, none⟩)]] 39)
    rw [z2] at e5
    refine ⟨((bb _).block _ (by omega)).trans h3.out, by rw [← hN.out]; exact ((bb _).block _ hs2).trans h2.out, ?_, ?_, e5, ⟨W2, hF2.out, Nat.le_refl _, bb _⟩, by omega, hs2, by omega, by omega⟩
    · exact ((b3 _).block _ (by omega)).trans ((b2.block _ (by omega)).trans e3)
    · exact ((b3 _).block _ (by omega)).trans e4
  have hB3 : Hid (Below w.heap.size w (((W2.alloc (.cells #[.int .i64 0] 3)).alloc (.cells #[.int .i64 0] 3)).alloc (.cells #[.func (.func 13) #[] #[.pointer (some ⟨W2.heap.size, 0, none⟩), .pointer (some ⟨fb, 0, none⟩), .pointer (some ⟨w.heap.size, 0, none⟩), .pointer (some ⟨W2.heap.size + 1, 0, none⟩), .pointer (some ⟨W2.heap.size + 1 + 1, 0, none⟩)]] 39))) := ((hB2.out.alloc (by omega) _).alloc (by simp; omega) _).alloc (by simp; omega) _
  clear hF2 h2 h3 hB2 e3 c2
  have hm1 : w.heap.size < W2.heap.size := by omega
  generalize ((W2.alloc (.cells #[.int .i64 0] 3)).alloc (.cells #[.int .i64 0] 3)).alloc (.cells #[.func (.func 13) #[] #[.pointer (some ⟨W2.heap.size, 0, none⟩), .pointer (some ⟨fb, 0, none⟩), .pointer (some ⟨w.heap.size, 0, none⟩), .pointer (some ⟨W2.heap.size + 1, 0, none⟩), .pointer (some ⟨W2.heap.size + 1 + 1, 0, none⟩)]] 39) = W3 at *
  generalize W2.heap.size = mb at *
  clear W2
  have d1 := cell_of_one hS.out.w0
  have d2 := cell_of_one hS.out.o0
  have d3 := cell_of_one hS.out.f0
  rw [← hN.out] at d3
  have hx20 : x < 20 := by omega
  have hp64 : 2 ^ x ≤ 1048576 := Nat.pow_le_pow_right (by omega) (show x ≤ 20 by omega)
  have hwr : IntKind.u64.wrap (2 ^ x) = 2 ^ x := by
    rw [IntKind.wrap_u64]; have : (2 : Int) ^ x = ((2 ^ x : Nat) : Int) := by push_cast; rfl
    rw [this]
    generalize 2 ^ x = P at hp64
    omega
  have h2N : 2 ^ x < 2 ^ (a * b) := Nat.pow_lt_pow_right (by omega) (by rw [← hN.out]; exact hx)
  have h8 : 8 ^ (N - 1) ≤ 8 ^ 20 := Nat.pow_le_pow_right (by omega) (by omega)
  have h9 : 0 + 8 ^ (N - 1) ≤ 4611686018427387904 := by rw [Nat.zero_add]; exact Nat.le_trans h8 (by decide)
  have H := Lib.hid (walk_any w.heap.size fb mb (mb + 1) (mb + 1 + 1) g a b x (by rw [← hN.out]; exact hab) (N - 1) x (2 ^ x) 0 0 W3.drew (by rw [← hN.out]; exact hx) h2N (by omega) h9 (Nat.le_refl _) (Lib.hid (hS.out.drewN 1)))
  have hN1 : Hid (((N - 1 : Nat) : Int) = (N : Int) - 1) := by show _ = _; omega
  have hp1 : Hid (((2 ^ x : Nat) : Int) = 2 ^ x) := by show _ = _; push_cast; rfl
  rw [hN1.out, hp1.out] at H
  replace h2N := Lib.hid h2N; replace h8 := Lib.hid h8; replace hp64 := Lib.hid hp64
  go_still_tail 7, (by kernel_rfl)
  change wpList _ _ _ _ _ W3.drew
  go_wp2_with fail
  refine H.out.mono ?_
  rintro e w4 ⟨rfl, hS4, hB4⟩
  have d4 := cell_of_one hS4.m0
  have d5 := cell_of_one hS4.c0
  have hB5 : Hid (Below w.heap.size w w4) := (show Below w.heap.size w W3.drew from below_drewN hB3.out 1).trans (hB4.mono (by omega))
  rw [Nat.zero_add] at d4 d5
  rw [← hN.out] at *
  generalize hM : cntS a b x (N - 1) x (2 ^ x) = M at d4 d5
  replace hM := Lib.hid hM
  clear hS4 hB4 H
  go_wp2_with fail
  go_quiet (fail)
  have hB6 : Hid (Below w.heap.size w (w4.drewN nq)) := below_drewN hB5.out nq
  go_wp2_with fail
  refine bodyPost_ret (v := .tuple #[.int .i64 (M.1 : Nat), .int .i64 (M.2 : Nat), .int .i64 0]) (by simp [results, Tryd.results8, go_sem]) rfl ?_
  exact ⟨by rw [hM.out], hB6.out⟩
end Go.Proofs.YtebgliipeaelhaaDoor
