/- What opened makes of a board; conditions: what May says. -/
import Derived.Test.YtfoojdkbonmmgaaFSk
import Derived.Test.YtfoojdkbonmmgaaCln
import Derived.Deep.RegionHeld3
import Derived.Deep.RegionLaw
import Derived.Deep.Cut
import Derived.Deep.DeepCutAuto
namespace Go.Proofs.Ytfoojdkbonmmgaa
open Go.RowKit

theorem openedN_any (q : Option Addr) (n c : Nat) (W H : Int) (xs : List Int) (w : World) (hn : n ≤ 9223372036854775807) (hW1 : -9223372036854775808 ≤ W) (hW2 : W ≤ 9223372036854775807) (hH1 : -9223372036854775808 ≤ H) (hH2 : H ≤ 9223372036854775807) (hx : IntsIn w q n xs) (hno : mayG W H xs = false) :
    Calls Try.prog 15 #[.agg #[.int .i64 W, .int .i64 H, .slice q n c]] w fun e w' => e = .returned (.tuple #[.pointer none, .int .i64 12]) ∧ Below w.heap.size w w' := by
  have e0 := heap_alloc_new w (.cells #[.int .i64 W, .int .i64 H, .slice q n c] 29)
  have hb0 := (Below.refl w.heap.size w).alloc (Nat.le_refl _) (.cells #[.int .i64 W, .int .i64 H, .slice q n c] 29)
  have HM := Lib.hid (may_any q n c W H xs _ hn hW1 hW2 hH1 hH2 (hx.below hb0))
  rw [hno] at HM
  have d0 := wcell (cs := [_, _, _]) e0 0
  have d1 := wcell (cs := [_, _, _]) e0 1
  have d2 := wcell (cs := [_, _, _]) e0 2
  replace hb0 := Lib.hid hb0; replace e0 := Lib.hid e0
  clear hx
  go_enter Try.func15, Try.ntmps15
  go_wp2_with fail
  refine HM.out.mono ?_
  rintro e W2 ⟨rfl, hb⟩
  have hbf := Lib.hid (hb0.out.trans (hb.mono hb0.out.size))
  clear HM hb d0 d1 d2
  go_wp2_with fail
  go_ret2
  exact ⟨rfl, hbf.out⟩
/-- no sign stands above an open place. -/
def Stk (a n : Nat) (s : List Nat) : Prop := ∀ i, i < n → 0 < st s i → i + a < n → st s (i + a) ≠ 0
/-- what opened leaves. -/
def OpenEnd (w : World) (a b n : Nat) (s : List Nat) (e : Ending) (W' : World) : Prop :=
  Below w.heap.size w W' ∧ ((¬ Stk a n s ∧ e = .returned (.tuple #[.pointer none, .int .i64 12])) ∨
    (Stk a n s ∧ ∃ wl g gc mv : Nat, e = .returned (.tuple #[.pointer (some ⟨wl, 0, none⟩), .int .i64 0]) ∧ mv ≤ n ∧ W'.heap[wl]? = some (.cells #[.int .i64 (a : Int), .int .i64 (b : Int), .slice (some ⟨g, 0, none⟩) n gc, .int .i64 0, .int .i64 (mv : Nat)] 41 (0, 0)) ∧
      Own 3 w.heap.size W' (some ⟨g, 0, none⟩) n gc (asI s) ∧ wl ≠ g ∧ w.heap.size ≤ wl))
theorem boxW {W2 w6 : World} {p6 : Option Addr} {n c6 : Nat} {s : List Nat} {a b : Int} (hO6 : Own 3 W2.heap.size w6 p6 n c6 (asI s)) (hb6 : Below W2.heap.size W2 w6) (hn : 1 ≤ n) :
    ∃ wl g gc : Nat, Value.pointer (some ⟨w6.heap.size, 0, none⟩) = .pointer (some ⟨wl, 0, none⟩) ∧ (w6.alloc (.cells #[.int .i64 a, .int .i64 b, .slice p6 n c6, .int .i64 0, .int .i64 0] 41)).heap[wl]? = some (.cells #[.int .i64 a, .int .i64 b, .slice (some ⟨g, 0, none⟩) n gc, .int .i64 0, .int .i64 0] 41 (0, 0)) ∧
      Own 3 W2.heap.size (w6.alloc (.cells #[.int .i64 a, .int .i64 b, .slice p6 n c6, .int .i64 0, .int .i64 0] 41)) (some ⟨g, 0, none⟩) n gc (asI s) ∧ wl ≠ g ∧ W2.heap.size ≤ wl ∧ Below W2.heap.size W2 (w6.alloc (.cells #[.int .i64 a, .int .i64 b, .slice p6 n c6, .int .i64 0, .int .i64 0] 41)) := by
  obtain ⟨g, rfl, h1, h2, _⟩ := hO6.where (by omega)
  exact ⟨w6.heap.size, g, c6, rfl, heap_alloc_new _ _, hO6.alloc _, by omega, hb6.size, hb6.alloc hb6.size _⟩
set_option maxRecDepth 20000 in
set_option maxHeartbeats 4000000 in
theorem opened_any (q : Option Addr) (n c a b : Nat) (s : List Nat) (w : World) (ha1 : 1 ≤ a) (ha : a ≤ 10) (hb1 : 1 ≤ b) (hb : b ≤ 10) (hn : n = a * b) (hx : IntsIn w q n (asI s)) (hs : ∀ j, st s j ≤ 2) :
    Calls Try.prog 15 #[.agg #[.int .i64 (a : Int), .int .i64 (b : Int), .slice q n c]] w (OpenEnd w a b n s) := by
  have hn100 : n ≤ 100 := by rw [hn]; exact Nat.mul_le_mul ha hb
  have hn1 : 1 ≤ n := by rw [hn]; exact Nat.mul_le_mul ha1 hb1
  have hsl : s.length = n := by have := hx.len; simpa [asI] using this
  have e0 := heap_alloc_new w (.cells #[.int .i64 (a : Int), .int .i64 (b : Int), .slice q n c] 29)
  have hb0 := (Below.refl w.heap.size w).alloc (Nat.le_refl _) (.cells #[.int .i64 (a : Int), .int .i64 (b : Int), .slice q n c] 29)
  have hs0 : (w.alloc (.cells #[.int .i64 (a : Int), .int .i64 (b : Int), .slice q n c] 29)).heap.size = w.heap.size + 1 := by simp
  have HM := Lib.hid (may_any q n c a b (asI s) _ (by omega) (by omega) (by omega) (by omega) (by omega) (hx.below hb0))
  rw [mayG_of ha1 ha hb1 hb (by rw [hsl, hn]) hs] at HM
  have d0 := wcell (cs := [_, _, _]) e0 0
  have d1 := wcell (cs := [_, _, _]) e0 1
  have d2 := wcell (cs := [_, _, _]) e0 2
  replace hn := Lib.hid hn; replace hs := Lib.hid hs; replace hsl := Lib.hid hsl
  obtain ⟨R, hR⟩ : ∃ R, R = w.heap.size := ⟨_, rfl⟩
  have hx0 := Lib.hid (hx.below hb0)
  rw [← hR] at d0 d1 d2 e0 hb0 hs0
  replace hb0 := Lib.hid hb0; replace e0 := Lib.hid e0; replace hs0 := Lib.hid hs0; replace hR := Lib.hid hR
  clear hx
  go_enter Try.func15, Try.ntmps15
  go_upto_region 1 with fail
  rw [← hR.out]
  go_wp2_with fail
  refine HM.out.mono ?_
  rintro e W2 ⟨rfl, hbm⟩
  have hx2 := Lib.hid (hx0.out.below hbm)
  rw [hs0.out] at hbm
  have e2 := (hbm.block R (by omega)).trans e0.out
  have hb2 := Lib.hid (hb0.out.trans (hbm.mono (by omega)))
  have hz2 := lt_of_heap e2
  generalize w.alloc (.cells #[.int .i64 (a : Int), .int .i64 (b : Int), .slice q n c] 29) = W1 at *
  clear HM d0 d1 d2 hbm hx0 e0 hb0 hs0
  have d0 : W2.cell? ⟨R, 0, none⟩ = some (.int .i64 (a : Int)) := wcell (cs := [_, _, _]) e2 0
  have d1 : W2.cell? ⟨R, 1, none⟩ = some (.int .i64 (b : Int)) := wcell (cs := [_, _, _]) e2 1
  have d2 : W2.cell? ⟨R, 2, none⟩ = some (.slice q n c) := wcell (cs := [_, _, _]) e2 2
  have HC := Lib.hid (clone_any q n c (asI s) W2.drew (by omega) hx2.out)
  replace e2 := Lib.hid e2
  go_upto_region 3 with fail
  go_cut [4] (fun v X => ∃ wl g gc : Nat, v = .pointer (some ⟨wl, 0, none⟩) ∧ X.heap[wl]? = some (.cells #[.int .i64 (a : Int), .int .i64 (b : Int), .slice (some ⟨g, 0, none⟩) n gc, .int .i64 0, .int .i64 0] 41 (0, 0)) ∧ Own 3 W2.heap.size X (some ⟨g, 0, none⟩) n gc (asI s) ∧ wl ≠ g ∧ W2.heap.size ≤ wl ∧ Below W2.heap.size W2 X)
  case first =>
    go_region_law (go_simp; go_at_call 24; (with_reducible refine HC.out.mono ?_); rintro e w6 ⟨p6, c6, rfl, hO6, hb6⟩; have e6 := (Below.block hb6 R hz2).trans e2.out; have d0' : w6.cell? ⟨R, 0, none⟩ = some (.int .i64 (a : Int)) := wcell (cs := [_, _, _]) e6 0; have d1' : w6.cell? ⟨R, 1, none⟩ = some (.int .i64 (b : Int)) := wcell (cs := [_, _, _]) e6 1; have d2' : w6.cell? ⟨R, 2, none⟩ = some (.slice q n c) := wcell (cs := [_, _, _]) e6 2; replace e6 := Lib.hid e6)
    all_goals
      go_simp
      go_wp2_with fail
      go_meet
      exact boxW hO6 ((Below.refl _ W2).drew.trans hb6) hn1
  case rest =>
    obtain ⟨wl, g, gc, rfl, hwl, hO, hne, hwb, hbx⟩ := hcut
    obtain ⟨W3, rfl⟩ : ∃ W3 : World, W3 = wc := ⟨_, rfl⟩
    have e3 := (hbx.block R hz2).trans e2.out
    have hx3 := hx2.out.below hbx
    obtain ⟨qb, qo, rfl, hqb, hqc⟩ := hx2.out.at hn1
    have hqw : qb ≠ wl := Nat.ne_of_lt (Nat.lt_of_lt_of_le hqb hwb)
    have hRw : R ≠ wl := Nat.ne_of_lt (Nat.lt_of_lt_of_le hz2 hwb)
    have hg1 := (hO.block _ rfl).1
    have hRz : R ≤ W2.heap.size := Nat.le_of_lt hz2
    have hbR := hb2.out.trans (hbx.mono hRz)
    have hgB : R ≤ g := Nat.le_trans hRz hg1
    have hwR : R ≤ wl := Nat.le_trans hRz hwb
    have hOR := hO.mono hRz
    have HQ : Hid (∀ W', W3.grownBy W' (some wl) → ∀ i, i < n → W'.cell? ⟨qb, qo + i, none⟩ = some (.int .i64 (st s i : Nat))) := fun W' hg i hi => by
      have hqs : qb < W3.heap.size := Nat.lt_of_lt_of_le hqb hbx.size
      have h1 : W'.heap[qb]? = W3.heap[qb]? := hg.block qb hqs (by simpa using hqw)
      rw [World.cell?_of_block (a := ⟨qb, qo + i, none⟩) h1]
      obtain ⟨b', o', e', _, hc'⟩ := hx3.at hn1
      cases e'
      have := hc' i hi
      rwa [asI_at] at this
    have HR3 : Hid (∀ W', W3.grownBy W' (some wl) → W'.heap[R]? = some (.cells #[.int .i64 (a : Int), .int .i64 (b : Int), .slice (some ⟨qb, qo, none⟩) n c] 29 (0, 0))) := fun W' hg => (hg.block R (lt_of_heap e3) (by simpa using hRw)).trans e3
    have HO : Hid (∀ W', W3.grownBy W' (some wl) → Own 3 R W' (some ⟨g, 0, none⟩) n gc (asI s)) := fun W' hg => hOR.keep fun x hx => by cases hx; exact hg.block g (hO.block _ rfl).2 (by simpa using (fun e => hne e.symm))
    have HB : Hid (∀ W', W3.grownBy W' (some wl) → Below R w W') := fun W' hg => hbR.grown hg (Nat.le_trans hRz hbx.size) (fun x hx => by simp at hx; subst hx; exact hwR)
    have hg0 : Hid (W3.grownBy W3 (some wl)) := grown_below (Below.refl _ _) _
    have d2 : W3.cell? ⟨R, 2, none⟩ = some (.slice (some ⟨qb, qo, none⟩) n c) := wcell (cs := [_, _, _]) e3 2
    have hwl0 := Lib.hid hwl
    replace hne := Lib.hid hne
    clear hx2 hx3 hqc hO hOR hbx hbR e2 e3 d0 d1 HC hwl hwb hg1 hb2
    go_wp2_with fail
    go_loopg [24] n (fun gk jv W' => ∃ j mv : Nat, gk = n - j ∧ j ≤ n ∧ jv = .int .i64 (j : Nat) ∧ mv ≤ j ∧ Hid (W'.heap[wl]? = some (.cells #[.int .i64 (a : Int), .int .i64 (b : Int), .slice (some ⟨g, 0, none⟩) n gc, .int .i64 0, .int .i64 (mv : Nat)] 41 (0, 0))) ∧ Hid (W3.grownBy W' (some wl)) ∧ Hid (∀ i, i < j → 0 < st s i → i + a < n → st s (i + a) ≠ 0))
    case atStart => exact ⟨0, 0, by omega, by omega, rfl, by omega, hwl0, hg0, fun i hi => absurd hi (Nat.not_lt_zero _)⟩
    case round =>
      clear d2 hwl0 hg0
      obtain ⟨j, mv, hgk, hj, rfl, hmv, hwl, hgr, hk⟩ := hrel
      obtain ⟨W4, rfl⟩ : ∃ W4 : World, W4 = wr := ⟨_, rfl⟩
      replace hgk := Lib.hid hgk
      rcases Nat.lt_or_ge j n with hlt | hge
      · have cj := HQ.out W4 hgr.out j hlt
        have hR4 := HR3.out W4 hgr.out
        have d0 : W4.cell? ⟨R, 0, none⟩ = some (.int .i64 (a : Int)) := wcell (cs := [_, _, _]) hR4 0
        have d2 : W4.cell? ⟨R, 2, none⟩ = some (.slice (some ⟨qb, qo, none⟩) n c) := wcell (cs := [_, _, _]) hR4 2
        have m4 : W4.cell? ⟨wl, 4, none⟩ = some (.int .i64 (mv : Nat)) := wcell (cs := [_, _, _, _, _]) hwl.out 4
        have f4 := wfree hwl.out 4
        have hwl5 : Hid ((W4.setCell ⟨wl, 4, none⟩ (.int .i64 ((mv : Int) + 1))).heap[wl]? = some (.cells #[.int .i64 (a : Int), .int .i64 (b : Int), .slice (some ⟨g, 0, none⟩) n gc, .int .i64 0, .int .i64 ((mv + 1 : Nat) : Int)] 41 (0, 0))) := by
          show _ = _
          rw [wset hwl.out]; simp
        have hgr5 := Lib.hid (grown_set hgr.out 4 (.int .i64 ((mv : Int) + 1)))
        have d0' : (W4.setCell ⟨wl, 4, none⟩ (.int .i64 ((mv : Int) + 1))).cell? ⟨R, 0, none⟩ = some (.int .i64 (a : Int)) := wcell (cs := [_, _, _]) (HR3.out _ hgr5.out) 0
        have d2' : (W4.setCell ⟨wl, 4, none⟩ (.int .i64 ((mv : Int) + 1))).cell? ⟨R, 2, none⟩ = some (.slice (some ⟨qb, qo, none⟩) n c) := wcell (cs := [_, _, _]) (HR3.out _ hgr5.out) 2
        have hmv1 : mv ≤ 100 := by omega
        clear hR4
        by_cases h0 : st s j = 0
        · rw [h0] at cj
          have hk2 : Hid (∀ i, i < j + 1 → 0 < st s i → i + a < n → st s (i + a) ≠ 0) := fun i hi h1 h2 => by
            rcases Nat.lt_or_ge i j with h3 | h3
            · exact hk.out i h3 h1 h2
            · obtain rfl : i = j := by omega
              omega
          go_wp2_with fail
          have hgk := hgk.out
          go_roundg (n - (j + 1))
          case measure => omega
          case rel => exact ⟨j + 1, mv, rfl, by omega, by go_num, by omega, hwl, hgr, hk2⟩
        · obtain ⟨sv, hsv⟩ : ∃ sv, sv = st s j := ⟨_, rfl⟩
          rw [← hsv] at cj h0
          have hsp : (0 : Int) < (sv : Int) := by omega
          have hsd : decide ((0 : Int) < (sv : Int)) = true := decide_eq_true hsp
          rcases Nat.lt_or_ge (j + a) n with hja | hja
          · have cb := HQ.out (W4.setCell ⟨wl, 4, none⟩ (.int .i64 ((mv : Int) + 1))) hgr5.out (j + a) hja
            have hjad : decide ((j : Int) + (a : Int) < (n : Int)) = true := decide_eq_true (by omega)
            obtain ⟨S, hS⟩ : ∃ S, S = j + a := ⟨_, rfl⟩
            have hSi : (j : Int) + (a : Int) = (S : Int) := by omega
            rw [← hS] at cb hja
            by_cases hb0 : st s S = 0
            · rw [hb0] at cb
              have hnS : Hid (¬ Stk a n s) := fun h => h j hlt (by omega) (by omega) (by rw [← hS]; exact hb0)
              have hBf := Lib.hid (HB.out _ hgr5.out)
              replace hS := Lib.hid hS; replace hsv := Lib.hid hsv
              go_wp2_with fail
              go_ret2
              exact ⟨by rw [← hR.out]; exact hBf.out, .inl ⟨hnS.out, rfl⟩⟩
            · have hk2 : Hid (∀ i, i < j + 1 → 0 < st s i → i + a < n → st s (i + a) ≠ 0) := fun i hi h1 h2 => by
                rcases Nat.lt_or_ge i j with h3 | h3
                · exact hk.out i h3 h1 h2
                · obtain rfl : i = j := by omega
                  rw [← hS]; exact hb0
              generalize st s S = bv at *
              have hbi : ¬ (bv : Int) = 0 := by omega
              have hbd : decide ((bv : Int) = 0) = false := decide_eq_false hbi
              have hbb : ((bv : Int) == 0) = false := by simp; omega
              replace hS := Lib.hid hS; replace hsv := Lib.hid hsv
              go_wp2_with fail
              have hgk := hgk.out
              go_roundg (n - (j + 1))
              case measure => omega
              case rel => exact ⟨j + 1, mv + 1, rfl, by omega, by go_num, by omega, hwl5, hgr5, hk2⟩
          · have hk2 : Hid (∀ i, i < j + 1 → 0 < st s i → i + a < n → st s (i + a) ≠ 0) := fun i hi h1 h2 => by
              rcases Nat.lt_or_ge i j with h3 | h3
              · exact hk.out i h3 h1 h2
              · obtain rfl : i = j := by omega
                omega
            have hjad : decide ((j : Int) + (a : Int) < (n : Int)) = false := decide_eq_false (by omega)
            have hjan : ¬ (j : Int) + (a : Int) < (n : Int) := by omega
            replace hsv := Lib.hid hsv
            go_wp2_with fail
            have hgk := hgk.out
            go_roundg (n - (j + 1))
            case measure => omega
            case rel => exact ⟨j + 1, mv + 1, rfl, by omega, by go_num, by omega, hwl5, hgr5, hk2⟩
      · obtain rfl : j = n := by omega
        have hBf := Lib.hid (HB.out _ hgr.out)
        have hOf := Lib.hid (HO.out _ hgr.out)
        go_wp2_with fail
        go_ret2
        exact ⟨by rw [← hR.out]; exact hBf.out, .inr ⟨hk.out, wl, g, gc, mv, rfl, hmv, hwl.out, by rw [← hR.out]; exact hOf.out, hne.out, by rw [← hR.out]; exact hwR⟩⟩
end Go.Proofs.Ytfoojdkbonmmgaa
