/- What tour.Greedy computes: a way from the place; conditions: a board of 1 to 8 by 1 to 8, a place on it, the table of leaps as the program lays it. -/
import Derived.Test.YtebgliipeaelhaaDoorWay
import Derived.Deep.DeepCutAuto
namespace Go.Proofs.YtebgliipeaelhaaDoor
open Go.RowKit

theorem boT : ElT Tryd.prog 42 4 (.bool false) 1 1 := ⟨by kernel_rfl, by kernel_rfl, rfl, by omega, by omega⟩
theorem run_mkb (n : Nat) (hn : n ≤ 1000) (w : World) : (Instr.makeSlice 42 (.int .i64 (n : Int)) (.int .i64 (n : Int))).run Tryd.prog w = .ok (.slice (some ⟨w.heap.size, 0, none⟩) n n) (w.alloc (.cells ((List.replicate n false).map Value.bool).toArray 4)) := by
  obtain ⟨i0, hi, hz0, hz1, hz2⟩ := info_parts boT.info
  have hrun := run_make (P := Tryd.prog) w 42 4 i0 (.bool false) boT.under hi hz0 .i64 .i64 n n (by omega) (by omega) (by rw [hz2]; omega) (by omega)
  simp only [Int.toNat_natCast] at hrun
  rw [hrun]
  congr 3
  simp only [madeCells, Value.cells, hz1, Nat.mul_one]
  apply Array.ext
  · simp
  · intro i h1 h2
    simp [Nat.mod_one]

set_option maxRecDepth 100000 in
set_option maxHeartbeats 4000000 in
theorem Greedy_any (a b x : Nat) (w : World) (ha1 : 1 ≤ a) (ha : a ≤ 8) (hb1 : 1 ≤ b) (hb : b ≤ 8) (hL : Lps w) (hx : x < a * b) :
    Calls Tryd.prog 9 #[.int .i64 a, .int .i64 b, .int .i64 x] w fun r w' => ∃ q c l, r = .returned (.tuple #[.slice q (l.length) c, .int .i64 0]) ∧ IntsIn w' q l.length (asI l) ∧ Way a b x l ∧ 0 < l.length ∧ l.length ≤ a * b ∧ Below w.heap.size w w' := by
  have hB0 := (Below.refl w.heap.size w).alloc (Nat.le_refl _) (.cells #[.int .i64 (x : Int)] 3)
  have hp : IntsIn (w.alloc (.cells #[.int .i64 (x : Int)] 3)) (some ⟨w.heap.size, 0, none⟩) 1 (asI [x]) := IntsIn.new w _ 3 _ 1 _ rfl (by simp [asI]) rfl
  have H := at_any a b (some ⟨w.heap.size, 0, none⟩) 1 1 [x] (w.alloc (.cells #[.int .i64 (x : Int)] 3)) ha1 ha hb1 hb (hL.below hB0) (by omega) hp (by intro q hq; simp at hq; rw [hq]; exact hx)
  have hGw := Gw.start hx
  have hn64 : a * b ≤ 64 := Nat.mul_le_mul ha hb
  obtain ⟨N, hN⟩ : ∃ N, N = a * b := ⟨_, rfl⟩
  rw [← hN] at hx H hn64 hGw
  replace hN := Lib.hid hN; replace hB0 := Lib.hid hB0; replace hGw := Lib.hid hGw
  clear hp hL ha1 hb1
  have hz1 : w.heap.size ≤ (w.alloc (.cells #[.int .i64 (x : Int)] 3)).heap.size := hB0.out.size
  go_enter Tryd.func9, Tryd.ntmps9
  go_wp2_with fail
  refine H.mono ?_
  rintro r W1 ⟨g, rfl, hg, hF, hB⟩
  have hB1 : Hid (Below w.heap.size w W1) := hB0.out.trans ⟨hB.os, hB.tape, hB.output, hB.size, fun k hk => hB.block k (by omega)⟩
  replace hF := Lib.hid hF
  clear hB0 hB H hz1 hg
  have e2 := heap_alloc_new W1 (.cells #[.slice none 0 0] 35)
  have f2 := free_of_one e2
  go_upto_region 2 with fail
  have h2 : (W1.alloc (.cells #[.slice (some ⟨g, 0, none⟩) N N] 35)).heap[W1.heap.size]? = some (.cells #[.slice (some ⟨g, 0, none⟩) N N] 35 (0, 0)) := heap_alloc_new W1 _
  have hBx : Below W1.heap.size W1 (W1.alloc (.cells #[.slice (some ⟨g, 0, none⟩) N N] 35)) := (Below.refl W1.heap.size W1).alloc (Nat.le_refl _) _
  have hs2 : W1.heap.size < (W1.alloc (.cells #[.slice (some ⟨g, 0, none⟩) N N] 35)).heap.size := by simp
  have c2 := cell_of_one h2
  have hmk := run_mkb N (by omega) (W1.alloc (.cells #[.slice (some ⟨g, 0, none⟩) N N] 35))
  clear e2 f2
  replace hBx := Lib.hid hBx; replace h2 := Lib.hid h2
  generalize W1.alloc (.cells #[.slice (some ⟨g, 0, none⟩) N N] 35) = W2 at *
  go_upto_region 5 with fail
  go_upto_region 7 with fail
  have hS : Hid (Gs (((W2.alloc (.cells (Array.replicate N (.bool false)) 4)).alloc (.cells #[.slice (some ⟨W2.heap.size, 0, none⟩) N N] 42)).alloc (.cells #[.func (.func 15) #[] #[.pointer (some ⟨W1.heap.size, 0, none⟩), .pointer (some ⟨W2.heap.size + 1, 0, none⟩)]] 46)) W1.heap.size (W2.heap.size + 1) (W2.heap.size + 1 + 1) W2.heap.size g a b (List.replicate N false)) := by
    have b1 : Below W2.heap.size W2 (W2.alloc (.cells (Array.replicate N (.bool false)) 4)) := (Below.refl _ _).alloc (Nat.le_refl _) _
    have z1 : (W2.alloc (.cells (Array.replicate N (.bool false)) 4)).heap.size = W2.heap.size + 1 := by simp
    have b2 : Below (W2.heap.size + 1) (W2.alloc (.cells (Array.replicate N (.bool false)) 4)) ((W2.alloc (.cells (Array.replicate N (.bool false)) 4)).alloc (.cells #[.slice (some ⟨W2.heap.size, 0, none⟩) N N] 42)) := (Below.refl _ _).alloc (by omega) _
    have e3 : (W2.alloc (.cells (Array.replicate N (.bool false)) 4)).heap[W2.heap.size]? = some (.cells ((List.replicate N false).map Value.bool).toArray 4 (0, 0)) := by
      rw [heap_alloc_new]; simp
    have e4 := heap_alloc_new (W2.alloc (.cells (Array.replicate N (.bool false)) 4)) (.cells #[.slice (some ⟨W2.heap.size, 0, none⟩) N N] 42)
    have z2 : ((W2.alloc (.cells (Array.replicate N (.bool false)) 4)).alloc (.cells #[.slice (some ⟨W2.heap.size, 0, none⟩) N N] 42)).heap.size = W2.heap.size + 1 + 1 := by simp
    rw [z1] at e4
    generalize (W2.alloc (.cells (Array.replicate N (.bool false)) 4)).alloc (.cells #[.slice (some ⟨W2.heap.size, 0, none⟩) N N] 42) = W4 at *
    generalize W2.alloc (.cells (Array.replicate N (.bool false)) 4) = W3 at *
    have b3 : ∀ o : Obj, Below (W2.heap.size + 1 + 1) W4 (W4.alloc o) := fun o => (Below.refl _ _).alloc (by omega) _
    have bb : ∀ o : Obj, Below W2.heap.size W2 (W4.alloc o) := fun o => b1.trans ((b2.mono (by omega)).trans ((b3 o).mono (by omega)))
    have e5 := heap_alloc_new W4 (.cells #[.func (.func 15) #[] #[.pointer (some ⟨W1.heap.size, 0, none⟩), .pointer (some ⟨W2.heap.size + 1, 0, none⟩)]] 46)
    rw [z2] at e5
    refine ⟨by rw [← hN.out]; exact ((bb _).block _ hs2).trans h2.out, by rw [← hN.out]; exact ((b3 _).block _ (by omega)).trans e4, ((b3 _).block _ (by omega)).trans ((b2.block _ (by omega)).trans e3), e5, ⟨W1, hF.out, Nat.le_refl _, hBx.out.trans ((bb _).mono (by omega))⟩, by rw [← hN.out]; simp, hs2, by omega, by omega⟩
  have hB3 : Hid (Below w.heap.size w (((W2.alloc (.cells (Array.replicate N (.bool false)) 4)).alloc (.cells #[.slice (some ⟨W2.heap.size, 0, none⟩) N N] 42)).alloc (.cells #[.func (.func 15) #[] #[.pointer (some ⟨W1.heap.size, 0, none⟩), .pointer (some ⟨W2.heap.size + 1, 0, none⟩)]] 46))) := (((hB1.out.trans (hBx.out.mono hB1.out.size)).alloc (by have := hB1.out.size; omega) _).alloc (by simp; have := hB1.out.size; omega) _).alloc (by simp; have := hB1.out.size; omega) _
  have hsz : (((W2.alloc (.cells (Array.replicate N (.bool false)) 4)).alloc (.cells #[.slice (some ⟨W2.heap.size, 0, none⟩) N N] 42)).alloc (.cells #[.func (.func 15) #[] #[.pointer (some ⟨W1.heap.size, 0, none⟩), .pointer (some ⟨W2.heap.size + 1, 0, none⟩)]] 46)).heap.size = W2.heap.size + 3 := by simp
  clear hF h2 hBx c2 hmk
  have hs0 : w.heap.size ≤ W2.heap.size := Nat.le_trans hB1.out.size (Nat.le_of_lt hs2)
  clear hB1
  generalize ((W2.alloc (.cells (Array.replicate N (.bool false)) 4)).alloc (.cells #[.slice (some ⟨W2.heap.size, 0, none⟩) N N] 42)).alloc (.cells #[.func (.func 15) #[] #[.pointer (some ⟨W1.heap.size, 0, none⟩), .pointer (some ⟨W2.heap.size + 1, 0, none⟩)]] 46) = W3 at *
  generalize W1.heap.size = fb at *
  generalize W2.heap.size = rb at *
  clear W1 W2
  go_upto_region 8 with fail
  go_loopg [11, 13] N (fun gk lv pv W' => ∃ (sn : List Bool) (l : List Nat) (p : Nat) (lp : Option Addr) (m c : Nat), gk = N - l.length ∧ lv = .slice lp m c ∧ pv = .int .i64 p ∧ Gw a b x sn l p ∧ Gs W' fb (rb + 1) (rb + 1 + 1) rb g a b sn ∧ Own 3 (rb + 3) W' lp m c (asI l) ∧ Below w.heap.size w W')
  case atStart => exact ⟨List.replicate N false, [], x, none, 0, 0, by simp, rfl, rfl, by have := hGw.out; rw [hN.out] at this ⊢; exact this, hS.out, Own.nil _ _ _, hB3.out⟩
  case round =>
    obtain ⟨sn, l, p, lp, m, c, hgk, rfl, rfl, hG, hS2, hO, hB⟩ := hrel
    obtain ⟨W4, rfl⟩ : ∃ W4 : World, W4 = wr := ⟨_, rfl⟩
    clear hS hB3 hGw hsz
    obtain ⟨hw1, hw2, hw3⟩ := hG.go
    have hpN : p < N := by rw [hN.out]; exact hG.pl
    have hml := hO.len
    rw [asI_len] at hml
    have hw2' : (l ++ [p]).length ≤ N := by rw [hN.out]; exact hw2
    have hll : (l ++ [p]).length = l.length + 1 := by simp
    have hm64 : m < 64 := by omega
    clear hw2
    have d1 := cell_of_one hS2.s0
    rw [← hN.out] at d1
    have d2 : W4.frozen? ⟨rb, p, none⟩ = false := wfree hS2.r0 p
    have d3 : W4.cell? ⟨rb, p, none⟩ = some (.bool (sAt sn p)) := by
      rw [wcell hS2.r0 p, List.getElem?_map]
      unfold sAt
      rw [List.getElem?_eq_getElem (by rw [hG.sl]; exact hG.pl)]; rfl
    obtain ⟨hS3, hB3⟩ := hS2.see p
    have hO3 : Hid (Own 3 (rb + 3) (W4.setCell ⟨rb, p, none⟩ (.bool true)) lp m c (asI l)) := hO.keep fun y hy => wset_ne _ _ (by have := (hO.block y hy).1; show y.block ≠ rb; omega)
    have hzB : rb + 3 ≤ (W4.setCell ⟨rb, p, none⟩ (.bool true)).heap.size := by have := lt_of_heap hS3.w0; omega
    have hgn : Hid (W4.heap.size = (W4.setCell ⟨rb, p, none⟩ (.bool true)).heap.size) := by show _ = _; simp [World.setCell]
    have hB4 := Lib.hid (hB.trans (hB3.mono hs0))
    replace hgk := Lib.hid hgk; replace hG := Lib.hid hG; replace hS3 := Lib.hid hS3; replace hw1 := Lib.hid hw1; replace hw2' := Lib.hid hw2'; replace hll := Lib.hid hll; replace hw3 := Lib.hid hw3; replace hml := Lib.hid hml
    clear hS2 hO hB hB3
    go_upto_region 10 with (at_builtin; refine wp_append1s intG (W4.setCell ⟨rb, p, none⟩ (.bool true)) rfl _ _ rfl (rb + 3) lp m c (asI l) rfl hO3.out (p : Int) W4.heap.size hgn rfl (by omega) hzB ?_; intro p6 c6 w6 hO6 hg6 hr6 hz6)
    have hBg : Below (rb + 3) (W4.setCell ⟨rb, p, none⟩ (.bool true)) w6 := (Below.refl _ _).grown hg6 hzB (fun k hk => by
      cases lp with
      | none => cases hk
      | some z => simp at hk; subst hk; exact (hO3.out.block z rfl).1)
    have hS6 := Lib.hid (hS3.out.keep hBg (by omega))
    have hB6 : Hid (Below w.heap.size w w6) := hB4.out.trans (hBg.mono (by omega))
    have hO7 : Hid (Own 3 (rb + 3) w6 p6 (m + 1) c6 (asI (l ++ [p]))) := by
      have e : asI (l ++ [p]) = asI l ++ [(p : Int)] := by simp [asI]
      show Own _ _ _ _ _ _ _
      rw [e]; exact hO6
    have d4 := cell_of_one hS6.out.w0
    have hfl := freeL_len a b (sn.set p true) p
    have HF := Lib.hid (free_any fb (rb + 1) (rb + 1 + 1) rb g a b (sn.set p true) w6 p (by rw [← hN.out]; exact hpN) hS6.out)
    obtain ⟨L, hLe⟩ : ∃ L, L = freeL a b (sn.set p true) p := ⟨_, rfl⟩
    rw [← hLe] at HF hfl hw3
    replace hLe := Lib.hid hLe
    clear hO6 hg6 hr6 hz6 hBg hO3 hS3 hB4 hgn d1 d2 d3 hzB
    go_wp2_with fail
    refine HF.out.mono ?_
    rintro r w7 ⟨q7, c7, rfl, hx7, hB7⟩
    have hB8 := Lib.hid (hB6.out.trans (hB7.mono hB6.out.size))
    have hS7 := Lib.hid (hS6.out.below hB7)
    have hO8 : Hid (Own 3 (rb + 3) w7 p6 (m + 1) c6 (asI (l ++ [p]))) := hO7.out.below hB7 (Nat.le_refl _)
    clear HF hB7 hS6 hO7 hB6 d4
    by_cases hL0 : L.length = 0
    · have hm1 : Hid ((l ++ [p]).length = m + 1) := by show _ = _; rw [hll.out, hml.out]
      rw [hL0]
      replace hx7 := Lib.hid hx7
      go_wp2_with fail
      go_ret2
      refine ⟨p6, c6, l ++ [p], by rw [hm1.out]; rfl, by rw [hm1.out]; exact hO8.out.in, hw1.out, by rw [hm1.out]; omega, by rw [← hN.out]; exact hw2'.out, hB8.out⟩
    · have HM := Lib.hid (minF_any (rb + 1 + 1) q7 L.length c7 L w7 N (by omega) (by omega) hx7 (fun j hj => by
        have := hw3.out (st L j) (by unfold st; rw [List.getElem?_eq_getElem hj]; exact List.getElem_mem hj)
        rw [hN.out]; exact this.pl) (fun W' hb x' y' h1 h2 => (cmp_any fb (rb + 1) (rb + 1 + 1) rb g a b (sn.set p true) W' x' y' (by rw [← hN.out]; exact h1) (by rw [← hN.out]; exact h2) (hS7.out.below hb)).mono fun r w' ⟨v, h1, h2⟩ => ⟨v, h1, hb.trans (h2.mono hb.size)⟩))
      obtain ⟨n, hn⟩ : ∃ n, n = L.length := ⟨_, rfl⟩
      rw [← hn] at HM hL0 hfl ⊢
      have hn' : Hid (L.length = n) := hn.symm
      clear hn
      replace hx7 := Lib.hid hx7
      go_wp2_with fail
      refine HM.out.mono ?_
      rintro r w8 ⟨j, hj, rfl, hB9⟩
      have hG2 := Lib.hid (hw3.out (st L j) (by unfold st; rw [List.getElem?_eq_getElem (by rw [hn'.out]; exact hj)]; exact List.getElem_mem _))
      have hS8 := Lib.hid (hS7.out.below hB9)
      have hO9 : Hid (Own 3 (rb + 3) w8 p6 (m + 1) c6 (asI (l ++ [p]))) := hO8.out.below hB9 (Nat.le_refl _)
      have hB10 := Lib.hid (hB8.out.trans (hB9.mono hB8.out.size))
      clear HM hB9 hO8 hS7
      obtain ⟨p', hpe⟩ : ∃ p', p' = st L j := ⟨_, rfl⟩
      rw [← hpe] at hG2 ⊢
      replace hpe := Lib.hid hpe
      go_wp2_with fail
      have hgk := hgk.out
      have hll := hll.out
      have hw2' := hw2'.out
      go_roundg (N - (l ++ [p]).length)
      case measure => omega
      case rel => exact ⟨sn.set p true, l ++ [p], p', p6, m + 1, c6, rfl, rfl, rfl, hG2.out, hS8.out, hO9.out, hB10.out⟩
end Go.Proofs.YtebgliipeaelhaaDoor
