/- What magic.Count computes at three rows where nothing is given: eight; conditions: the slice holds nine zeros. -/
import Derived.Test.YtbfdhegglaaghaaCFil
import Derived.Test.YtbfdhegglaaghaaCP8
import Derived.Test.YtbfdhegglaaghaaMMake
namespace Go.Proofs.Ytbfdhegglaaghaa
open Go.RowKit

set_option maxHeartbeats 400000 in
theorem off20 (nb : Nat) (w : World) (hb : w.cell? ⟨nb, 0, none⟩ = some (.int .i64 3)) : Calls Try.prog 20 #[.int .i64 0, .pointer (some ⟨nb, 0, none⟩)] w fun e w' => e = .returned (.bool false) ∧ ∃ q, w' = w.drewN q := by
  go_enter Try.func20, Try.ntmps20
  go_wp2
  go_ret
  exact ⟨rfl, 0, rfl⟩
set_option maxHeartbeats 400000 in
theorem index20 (nb g c : Nat) (w : World) (hb : w.cell? ⟨nb, 0, none⟩ = some (.int .i64 3)) (hz : ∀ i, i < 9 → w.cell? ⟨g, i, none⟩ = some (.int .i64 0)) :
    Calls Try.prog 29 #[.slice (some ⟨g, 0, none⟩) 9 c, .func (.func 20) #[] #[.pointer (some ⟨nb, 0, none⟩)]] w fun e w' => e = .returned (.int .i64 (-1)) ∧ ∃ q, w' = w.drewN q := by
  go_enter Try.func29, Try.ntmps29
  go_wp2
  go_loopg [8] 9 (fun k i W => ∃ j q : Nat, j ≤ 9 ∧ k = 9 - j ∧ i = .int .i64 j ∧ W = w.drewN q)
  case atStart => exact ⟨0, 0, by omega, by omega, rfl, rfl⟩
  case round =>
    obtain ⟨j, q, hj, hk, rfl, rfl⟩ := hrel
    by_cases hlt : j < 9
    · have hcj : (w.drewN q).cell? ⟨g, j, none⟩ = some (.int .i64 0) := hz j hlt
      have H := Lib.hid (off20 nb (w.drewN q) hb)
      replace hk := Lib.hid hk
      clear hz
      go_wp2_with (go_at_call 20; refine (H.out).mono ?_; rintro e w' ⟨rfl, q2, rfl⟩)
      have hk := hk.out
      go_roundg (9 - (j + 1))
      case measure => omega
      case rel => exact ⟨j + 1, q + q2, by omega, rfl, by go_num, rfl⟩
    · replace hk := Lib.hid hk
      clear hz
      go_wp2
      go_ret
      exact ⟨rfl, q, rfl⟩
set_option maxHeartbeats 400000 in
theorem contains20 (nb g c : Nat) (w : World) (hb : w.cell? ⟨nb, 0, none⟩ = some (.int .i64 3)) (hz : ∀ i, i < 9 → w.cell? ⟨g, i, none⟩ = some (.int .i64 0)) :
    Calls Try.prog 17 #[.slice (some ⟨g, 0, none⟩) 9 c, .func (.func 20) #[] #[.pointer (some ⟨nb, 0, none⟩)]] w fun e w' => e = .returned (.bool false) ∧ ∃ q, w' = w.drewN q := by
  have H := Lib.hid (index20 nb g c w hb hz)
  clear hb hz
  go_enter Try.func17, Try.ntmps17
  go_wp2_with (go_at_call 29; refine H.out.mono ?_; rintro e w' ⟨rfl, q, rfl⟩)
  go_ret
  exact ⟨rfl, q, rfl⟩
set_option maxHeartbeats 2000000 in
theorem count_any (g : Nat) (w : World) (hg : g < w.heap.size) (hz : ∀ i, i < 9 → w.cell? ⟨g, i, none⟩ = some (.int .i64 0)) :
    Calls Try.prog 9 #[.int .i64 3, .slice (some ⟨g, 0, none⟩) 9 9] w fun e w' => e = .returned (.tuple #[.int .i64 8, .int .i64 0]) ∧ Below w.heap.size w w' := by
  obtain ⟨n0, g0⟩ := heap2 w (.cells #[.int .i64 3] 3) (.cells #[.slice (some ⟨g, 0, none⟩) 9 9] 23)
  have hB0 := below2 w (.cells #[.int .i64 3] 3) (.cells #[.slice (some ⟨g, 0, none⟩) 9 9] 23)
  have hs0 : ((w.alloc (.cells #[.int .i64 3] 3)).alloc (.cells #[.slice (some ⟨g, 0, none⟩) 9 9] 23)).heap.size = w.heap.size + 2 := by simp
  go_enter Try.func9, Try.ntmps9
  go_upto_region 1 with fail
  obtain ⟨W1, hW1⟩ : ∃ W1, W1 = (w.alloc (.cells #[.int .i64 3] 3)).alloc (.cells #[.slice (some ⟨g, 0, none⟩) 9 9] 23) := ⟨_, rfl⟩
  rw [← hW1] at n0 g0 hB0 hs0 ⊢
  clear hW1
  have hz1 := Lib.hid (fun i hi => (hB0.cell (p := ⟨g, i, none⟩) hg).trans (hz i hi))
  have d0 : W1.cell? ⟨w.heap.size, 0, none⟩ = some (.int .i64 3) := wcell (cs := [_]) n0 0
  have d1 : W1.cell? ⟨w.heap.size + 1, 0, none⟩ = some (.slice (some ⟨g, 0, none⟩) 9 9) := wcell (cs := [_]) g0 0
  have HC := Lib.hid (contains20 w.heap.size g 9 W1 d0 hz1.out)
  replace hB0 := Lib.hid hB0; replace n0 := Lib.hid n0; replace g0 := Lib.hid g0; replace hs0 := Lib.hid hs0; replace hz := Lib.hid hz
  go_upto_region 7 with (go_at_call 17; refine HC.out.mono ?_; rintro e w' ⟨rfl, q, rfl⟩)
  have n1 : (W1.drewN q).heap[w.heap.size]? = some (.cells #[.int .i64 3] 3 (0, 0)) := n0.out
  have g1 : (W1.drewN q).heap[w.heap.size + 1]? = some (.cells #[.slice (some ⟨g, 0, none⟩) 9 9] 23 (0, 0)) := g0.out
  have hB1 : Hid (Below w.heap.size w (W1.drewN q)) := below_drewN hB0.out q
  have hz2 : Hid (∀ i, i < 9 → (W1.drewN q).cell? ⟨g, i, none⟩ = some (.int .i64 0)) := fun i hi => hz1.out i hi
  have hs1 : (W1.drewN q).heap.size = w.heap.size + 2 := hs0.out
  clear d0 d1 HC hB0 n0 g0 hz1 hs0
  generalize W1.drewN q = W2 at *
  clear W1
  have d0 : W2.cell? ⟨w.heap.size, 0, none⟩ = some (.int .i64 3) := wcell (cs := [_]) n1 0
  replace n1 := Lib.hid n1; replace g1 := Lib.hid g1
  obtain ⟨H, hH⟩ : ∃ H, H = w.heap.size := ⟨_, rfl⟩
  rw [← hH] at d0 n1 g1 hs1 hg hB1 ⊢
  replace hH := Lib.hid hH; replace hs1 := Lib.hid hs1
  go_upto_region 8 with (refine wp_make int23 W2 (H + 2) hs1.out.symm rfl _ _ rfl .i64 .i64 9 9 9 rfl rfl rfl rfl (by omega) ?_; intro W hN hB hz3; have e2 := heap_alloc_new W (.cells #[.slice none 0 0] 23); have f2 : (W.alloc (.cells #[.slice none 0 0] 23)).frozen? ⟨W.heap.size, 0, none⟩ = false := wfree e2 0)
  have hBx : Below W.heap.size W (W.alloc (.cells #[.slice (some ⟨H + 2, 0, none⟩) 9 9] 23)) := (Below.refl W.heap.size W).alloc (Nat.le_refl _) _
  have hs2 := hs1.out
  have hz3' := hz3
  have n2 : Hid ((W.alloc (.cells #[.slice (some ⟨H + 2, 0, none⟩) 9 9] 23)).heap[H]? = some (.cells #[.int .i64 3] 3 (0, 0))) := (hBx.block _ (by omega)).trans ((hB.block _ (by omega)).trans n1.out)
  have g2 : Hid ((W.alloc (.cells #[.slice (some ⟨H + 2, 0, none⟩) 9 9] 23)).heap[H + 1]? = some (.cells #[.slice (some ⟨g, 0, none⟩) 9 9] 23 (0, 0))) := (hBx.block _ (by omega)).trans ((hB.block _ (by omega)).trans g1.out)
  have r2 : Hid (Nums (W.alloc (.cells #[.slice (some ⟨H + 2, 0, none⟩) 9 9] 23)) (H + 2) 3 (List.replicate 9 0)) := hN.alloc _
  have l2 : Hid ((W.alloc (.cells #[.slice (some ⟨H + 2, 0, none⟩) 9 9] 23)).heap[W.heap.size]? = some (.cells #[.slice (some ⟨H + 2, 0, none⟩) 9 9] 23 (0, 0))) := heap_alloc_new W _
  have hB2 : Hid (Below H w (W.alloc (.cells #[.slice (some ⟨H + 2, 0, none⟩) 9 9] 23))) := hB1.out.trans ((hB.mono (by omega)).trans (hBx.mono (by omega)))
  have hs3 : W.heap.size < (W.alloc (.cells #[.slice (some ⟨H + 2, 0, none⟩) 9 9] 23)).heap.size := by simp
  clear hBx hB hN e2 f2 d0 n1 g1 hB1 hz2 hz3'
  generalize W.heap.size = lb at *
  generalize W.alloc (.cells #[.slice (some ⟨H + 2, 0, none⟩) 9 9] 23) = V at *
  have e4 := heap_alloc_new V (.cells #[.int .i64 0] 3)
  have f4 : (V.alloc (.cells #[.int .i64 0] 3)).frozen? ⟨V.heap.size, 0, none⟩ = false := wfree e4 0
  have hs4 := Lib.hid hs3
  replace hs2 := Lib.hid hs2; replace hz3 := Lib.hid hz3
  clear hs1 hs3
  go_upto_region 11 with fail
  have hS : Hid (Fs H H (H + 1) (H + 2) lb V.heap.size (V.heap.size + 1) g ((V.alloc (.cells #[.int .i64 0] 3)).alloc (.cells #[.func (.func 21) #[] #[.pointer (some ⟨H, 0, none⟩), .pointer (some ⟨lb, 0, none⟩), .pointer (some ⟨V.heap.size, 0, none⟩), .pointer (some ⟨H + 1, 0, none⟩), .pointer (some ⟨V.heap.size + 1, 0, none⟩)]] 43)) (List.replicate 9 0) 0) := by
    obtain ⟨z1, z2⟩ := heap2 V (.cells #[.int .i64 0] 3) (.cells #[.func (.func 21) #[] #[.pointer (some ⟨H, 0, none⟩), .pointer (some ⟨lb, 0, none⟩), .pointer (some ⟨V.heap.size, 0, none⟩), .pointer (some ⟨H + 1, 0, none⟩), .pointer (some ⟨V.heap.size + 1, 0, none⟩)]] 43)
    have bb := below2 V (.cells #[.int .i64 0] 3) (.cells #[.func (.func 21) #[] #[.pointer (some ⟨H, 0, none⟩), .pointer (some ⟨lb, 0, none⟩), .pointer (some ⟨V.heap.size, 0, none⟩), .pointer (some ⟨H + 1, 0, none⟩), .pointer (some ⟨V.heap.size + 1, 0, none⟩)]] 43)
    have h1 := hz3.out
    have h4 := hs4.out
    refine ⟨(bb.block _ (by omega)).trans n2.out, (bb.block _ (by omega)).trans g2.out, (bb.block _ (by omega)).trans r2.out, (bb.block _ h4).trans l2.out, z1, z2, ?_, Nat.le_refl _, by omega, by omega, by omega, h4, by omega, by omega, rfl, ?_⟩
    · intro i hi
      exact ((hB2.out.trans (bb.mono (by omega))).cell (p := ⟨g, i, none⟩) (by have := hH.out; omega)).trans (hz.out i hi)
    · intro x hx
      rw [List.eq_of_mem_replicate hx]
      omega
  have hB3 : Hid (Below H w ((V.alloc (.cells #[.int .i64 0] 3)).alloc (.cells #[.func (.func 21) #[] #[.pointer (some ⟨H, 0, none⟩), .pointer (some ⟨lb, 0, none⟩), .pointer (some ⟨V.heap.size, 0, none⟩), .pointer (some ⟨H + 1, 0, none⟩), .pointer (some ⟨V.heap.size + 1, 0, none⟩)]] 43))) := hB2.out.trans ((below2 V _ _).mono (by have := hz3.out; have := hs4.out; omega))
  clear n2 g2 r2 l2 hB2 e4 f4
  have hmb : H ≤ V.heap.size := by have := hz3.out; have := hs4.out; omega
  generalize ((V.alloc (.cells #[.int .i64 0] 3)).alloc (.cells #[.func (.func 21) #[] #[.pointer (some ⟨H, 0, none⟩), .pointer (some ⟨lb, 0, none⟩), .pointer (some ⟨V.heap.size, 0, none⟩), .pointer (some ⟨H + 1, 0, none⟩), .pointer (some ⟨V.heap.size + 1, 0, none⟩)]] 43)) = V4 at *
  generalize V.heap.size = mb at *
  have k1 : V4.cell? ⟨mb + 1, 0, none⟩ = some (.func (.func 21) #[] #[.pointer (some ⟨H, 0, none⟩), .pointer (some ⟨lb, 0, none⟩), .pointer (some ⟨mb, 0, none⟩), .pointer (some ⟨H + 1, 0, none⟩), .pointer (some ⟨mb + 1, 0, none⟩)]) := wcell (cs := [_]) hS.out.f0 0
  have HF := Lib.hid (fill_any H H (H + 1) (H + 2) lb mb (mb + 1) g 9 0 0 0 [] (List.replicate 9 0) V4 (by omega) rfl (by omega) (by decide) rfl hS)
  rw [cnt_eight] at HF
  replace hH := hH.out
  subst hH
  replace hs4 := Lib.hid hs4; replace hg := Lib.hid hg
  go_wp2_with (go_at_call 21; refine HF.out.mono ?_; rintro e V5 ⟨rfl, ⟨l', hS5, _⟩, hB5⟩; have k2 : V5.cell? ⟨mb, 0, none⟩ = some (.int .i64 8) := wcell (cs := [_]) hS5.m0 0; replace hS5 := Lib.hid hS5; replace hB5 := Lib.hid hB5)
  go_ret2
  exact ⟨rfl, hB3.out.trans hB5.out⟩
end Go.Proofs.Ytbfdhegglaaghaa
