/- gameroomkeep.HanoiShort returns true whatever it is given; conditions: the slice reads as a list of ints of 64 bits, the peg is an int of 64 bits. -/
import Derived.Test.YtfjlhghiadoodaaFarW
import Derived.Test.YtfjlhghiadoodaaWayW
import Derived.Test.YtfjlhghiadoodaaDisc
import Derived.Test.YtfjlhghiadoodaaPick
namespace Go.Proofs.Ytfjlhghiadoodaa
open Go.RowKit

def fill (x j m : Nat) : List Int := List.replicate j (x : Int) ++ List.replicate (m - j) 0
theorem fill_set (x j m : Nat) (h : j < m) : (fill x j m).set j x = fill x (j + 1) m := by
  unfold fill
  rw [List.set_append_right _ _ (by simp), show m - j = (m - (j + 1)) + 1 from by omega, List.replicate_succ, List.replicate_succ']
  simp
theorem fill_len (x j m : Nat) (h : j ≤ m) : (fill x j m).length = m := by simp [fill]; omega
theorem fill_all (x m : Nat) : fill x m m = asI (List.replicate m x) := by simp [fill, asI]
theorem st_rep (x m j : Nat) : st (List.replicate m x) j = if j < m then x else 0 := by
  unfold st
  by_cases h : j < m
  · simp [h]
  · simp [h]
theorem two_way : mv 2 (st [0, 0]) 2 = [(0, 1), (0, 2), (1, 2)] := by decide

theorem do_lt {s : List Nat} {n a b : Nat} {u : List Nat} (hd : DoEnd s n a b 0 u) (hs : ∀ t, st s t < 3) : ∀ t, st u t < 3 := by
  rcases hd with ⟨h, _⟩ | ⟨h, _⟩ | ⟨h, _⟩ | ⟨_, i, _, _, hm⟩
  · omega
  · omega
  · omega
  · intro t
    by_cases e : t = i
    · subst e; rw [hm.ui]; exact hm.hb
    · rw [hm.same t e]; exact hs t
theorem run_lt {n : Nat} {s : List Nat} {a b : Nat} {ms : List (Nat × Nat)} {v : List Nat} (h : Run n s ((a, b) :: ms) v) : a < 3 ∧ b < 3 := ⟨h.1, h.2.1⟩

set_option maxRecDepth 100000 in
set_option maxHeartbeats 4000000 in
theorem ho_any (p1 : Option Addr) (n1 c1 : Nat) (xs : List Int) (a : Int) (w : World) (hn1 : n1 ≤ 9223372036854775807) (hx : IntsIn w p1 n1 xs)
    (hw1 : ∀ j, j < n1 → -9223372036854775808 ≤ xs[j]?.getD 0 ∧ xs[j]?.getD 0 ≤ 9223372036854775807)
    (a1 : -9223372036854775808 ≤ a) (a2 : a ≤ 9223372036854775807) :
    Calls Try.prog 5 #[.slice p1 n1 c1, .int .i64 a] w fun e w' => e = .returned (.bool true) ∧ Below w.heap.size w w' := by
  have PA := Lib.hid (fun W => picked_any a 3 W a1 a2 (by omega) (by omega) 3 rfl)
  have pa := pick_lt a 3 (by omega)
  generalize pick a 3 = x at *
  have X := Lib.hid (discs_any p1 n1 c1 10 xs w hn1 (by omega) hx hw1 10 rfl)
  replace hw1 := Lib.hid hw1
  clear hx
  go_enter Try.func5, Try.ntmps5
  go_wp2_with fail
  refine X.out.mono ?_
  rintro e w1 ⟨q1, m, k1, rfl, em1, hmk1, hS, hB⟩
  have hSl := hS.len
  rw [asI_len] at hSl
  have hm : m ≤ 10 := by omega
  have hs3 : ∀ j, st (dsc xs m) j < 3 := dsc_lt xs m
  generalize dsc xs m = s at *
  replace hB := Lib.hid hB; replace hS := Lib.hid hS; replace em1 := Lib.hid em1; replace hSl := Lib.hid hSl; replace hs3 := Lib.hid hs3
  clear X
  go_wp2_with fail
  refine (PA.out _).mono ?_
  rintro e w' ⟨rfl, rfl⟩
  have K := Lib.hid (way_any q1 m k1 s x w1 hm hS.out hs3.out pa x rfl)
  clear PA
  go_wp2_with fail
  ((with_reducible refine K.out.mono ?_))
  rintro e w2 ⟨q2, k2, rfl, hk2, hM, hB2⟩
  replace hS := Lib.hid (hS.out.below hB2)
  replace hB := Lib.hid (hB.out.trans (hB2.mono hB.out.size)); clear hB2 K
  have hlen := mv_len hs3.out m x pa
  have hGl := G_lt (st s) m x
  have hpm : 2 ^ m ≤ 2 ^ 10 := Nat.pow_le_pow_right (by omega) hm
  have hml : (mv m (st s) x).length ≤ 1024 := by omega
  have hrun := mv_run m m x s hSl.out (Nat.le_refl _) hs3.out pa
  have hFar : F (st s) (st (List.replicate m x)) m = (mv m (st s) x).length := by
    rw [F_symm, F_perf pa hs3.out m (fun i hi => by rw [st_rep, if_pos hi]), hlen]
  have hput : put m s x = List.replicate m x := st_ext (by rw [put_len, List.length_replicate]; exact hSl.out) fun i hi => by
    rw [put_len] at hi
    have := hSl.out
    rw [put_st _ _ _ (by omega), st_rep]
    simp [show i < m by omega]
  rw [hput] at hrun
  clear hlen hGl hpm hput
  generalize mv m (st s) x = l at *
  replace hrun := Lib.hid hrun; replace hM := Lib.hid hM; replace hFar := Lib.hid hFar
  go_wp2_with (at_make; refine wp_make int22 w2 w2.heap.size rfl rfl _ _ rfl _ _ _ _ m rfl rfl rfl rfl (by omega) ?_; intro w3 hN hB3 hg3)
  generalize hg : w2.heap.size = g at *
  replace hN := Lib.hid hN; replace hB3 := Lib.hid hB3
  go_loopg [10] m (fun k q W => ∃ j : Nat, j ≤ m ∧ k = m - j ∧ q = .int .i64 j ∧ Nums W g 3 (fill x j m) ∧ Below g w3 W)
  case atStart => exact ⟨0, by omega, by omega, rfl, by simpa [fill] using hN.out, Below.refl _ _⟩
  case round =>
    obtain ⟨j, hj, hk, rfl, hN2, hB4⟩ := hrel
    replace hk := Lib.hid hk
    clear hN
    by_cases hlt : j < m
    · have d0 := hN2.cell (i := j) (by rw [fill_len _ _ _ hj]; exact hlt)
      have d1 := hN2.free j
      have hN3 := hN2.set j x
      rw [fill_set _ _ _ hlt] at hN3
      replace hN3 := Lib.hid hN3; replace hN2 := Lib.hid hN2; replace hB4 := Lib.hid hB4
      go_wp2_with fail
      have hk := hk.out
      go_roundg (m - (j + 1))
      case measure => omega
      case rel => exact ⟨j + 1, by omega, rfl, by go_num, hN3.out, hB4.out.setCell (Nat.le_refl _) _⟩
    · have hjm : j = m := by omega
      subst hjm
      replace hN2 := Lib.hid hN2; replace hB4 := Lib.hid hB4
      go_wp2_with fail
      have hB34 : Below w2.heap.size w2 wr := by rw [hg]; exact hB3.out.trans hB4.out
      have hBw := hB.out.trans (hB34.mono hB.out.size)
      have hA : IntsIn wr (some ⟨g, 0, none⟩) j (asI (List.replicate j x)) := by
        have := hN2.out.in (n := j) (fill_len _ _ _ (Nat.le_refl _))
        rwa [fill_all] at this
      have hS2 := hS.out.below hB34
      have hM2 := hM.out.below hB34
      clear hB34 hN2 hB4 hB3 hS hM hB
      have FA := far_any q1 (some ⟨g, 0, none⟩) j k1 j s (List.replicate j x) wr (by omega) hmk1 (Nat.le_refl _) hS2 hA hs3.out (fun t => by rw [st_rep]; split <;> omega)
      rw [hFar.out] at FA
      replace FA := Lib.hid FA; replace hS2 := Lib.hid hS2; replace hM2 := Lib.hid hM2; replace hA := Lib.hid hA; replace hBw := Lib.hid hBw
      ((with_reducible refine FA.out.mono ?_))
      rintro e w5 ⟨rfl, hB5⟩
      replace hS2 := Lib.hid (hS2.out.below hB5); replace hM2 := Lib.hid (hM2.out.below hB5); replace hA := Lib.hid (hA.out.below hB5)
      replace hBw := Lib.hid (hBw.out.trans (hB5.mono hBw.out.size)); clear hB5 FA
      have W2 := fun W (h : IntsIn W (some ⟨w5.heap.size, 0, none⟩) 2 (asI [0, 0])) => way_any (some ⟨w5.heap.size, 0, none⟩) 2 2 [0, 0] 2 W (by omega) h (fun t => by
        rcases (show t = 0 ∨ t = 1 ∨ 2 ≤ t from by omega) with rfl | rfl | h
        · decide
        · decide
        · unfold st; rw [List.getElem?_eq_none (by simpa using h)]; decide) (by omega) 2 (Lib.hid rfl)
      rw [two_way] at W2
      have hz := IntsIn.new w5 #[.int .i64 0, .int .i64 0] 3 w5.heap.size 2 (asI [0, 0]) rfl rfl rfl
      have hBz := (Below.refl w5.heap.size w5).alloc (Nat.le_refl _) (.cells #[.int .i64 0, .int .i64 0] 3)
      replace W2 := Lib.hid (W2 _ hz)
      replace hS2 := Lib.hid (hS2.out.below hBz); replace hM2 := Lib.hid (hM2.out.below hBz); replace hA := Lib.hid (hA.out.below hBz)
      replace hBw := Lib.hid (hBw.out.trans (hBz.mono hBw.out.size)); clear hBz hz
      go_wp2_with fail
      ((with_reducible refine W2.out.mono ?_))
      rintro e w6 ⟨q6, k6, rfl, hq6, hM6, hB6⟩
      clear hq6 hM6
      replace hS2 := Lib.hid (hS2.out.below hB6); replace hM2 := Lib.hid (hM2.out.below hB6); replace hA := Lib.hid (hA.out.below hB6)
      replace hBw := Lib.hid (hBw.out.trans (hB6.mono hBw.out.size)); clear hB6 W2
      have g1 : ((l.length : Int) == (l.length : Int)) = true := by simp
      go_wp2_with fail
      clear hk hlt hj hg3 hg
      replace g1 := Lib.hid g1
      go_loopg [15, 16] l.length (fun k now q W => ∃ i : Nat, ∃ cur : List Nat, ∃ qc : Option Addr, ∃ kc : Nat, i ≤ l.length ∧ k = l.length - i ∧ q = .int .i64 i ∧ now = .slice qc j kc ∧ IntsIn W qc j (asI cur) ∧ (∀ t, st cur t < 3) ∧ Run j cur (l.drop i) (List.replicate j x) ∧ Below w6.heap.size w6 W)
      case atStart => exact ⟨0, s, q1, k1, by omega, by omega, rfl, rfl, hS2.out, hs3.out, by simpa using hrun.out, Below.refl _ _⟩
      case round =>
        obtain ⟨i, cur, qc, kc, hi, hk, rfl, rfl, hC, hc3, hR, hB7⟩ := hrel
        replace hk := Lib.hid hk
        clear hS2 hs3 hrun
        obtain ⟨W0, rfl⟩ : ∃ W0 : World, W0 = wr := ⟨_, rfl⟩
        by_cases hlt : i < l.length
        · obtain ⟨u, v, huv⟩ : ∃ u v, l[i]? = some (u, v) := ⟨l[i].1, l[i].2, by simp [hlt]⟩
          obtain ⟨gm, hq2, hgm, d0, d1, d2⟩ := (hM2.out.below hB7) i u v huv
          have hdrop : l.drop i = (u, v) :: l.drop (i + 1) := by
            rw [List.drop_eq_getElem_cons hlt]
            congr 1
            have := List.getElem?_eq_getElem hlt
            rw [huv] at this; injection this with h; exact h.symm
          rw [hdrop] at hR
          obtain ⟨hu, hv⟩ := run_lt hR
          have D := Lib.hid (do_any qc j kc cur u v W0 (by omega) hC hc3 hu hv u v 0 rfl rfl)
          replace hR := Lib.hid hR; replace hdrop := Lib.hid hdrop; replace hC := Lib.hid hC; replace hc3 := Lib.hid hc3; replace hB7 := Lib.hid hB7; replace huv := Lib.hid huv
          subst hq2
          go_wp2_with fail
          ((with_reducible refine D.out.mono ?_))
          rintro e w7 ⟨qn, mn, kn, un, er, rfl, hE, hI, hB8⟩
          obtain ⟨rfl, hR2⟩ := run_do hR.out hE
          obtain ⟨rfl, hmk, hI2⟩ := hI rfl
          have hu3 := do_lt hE hc3.out
          replace hI2 := Lib.hid hI2; replace hR2 := Lib.hid hR2; replace hu3 := Lib.hid hu3; replace hB7 := Lib.hid (hB7.out.trans (hB8.mono hB7.out.size))
          clear hB8 hE hI D d0 d1 d2
          go_wp2_with fail
          have hk := hk.out
          go_roundg (l.length - (i + 1))
          case measure => omega
          case rel => exact ⟨i + 1, un, qn, kn, by omega, rfl, by go_num, rfl, hI2.out, hu3.out, hR2.out, hB7.out⟩
        · have hil : i = l.length := by omega
          have hcur : cur = List.replicate j x := by
            rw [hil, List.drop_length] at hR; exact hR
          have hA2 := hA.out.below hB7
          rw [hcur] at hC
          have S := same_any qc (some ⟨g, 0, none⟩) j kc j j _ _ W0 (by omega) hC hA2
          have hBe := hBw.out.trans (hB7.mono hBw.out.size)
          replace S := Lib.hid S; replace hBe := Lib.hid hBe; replace hil := Lib.hid hil; replace hcur := Lib.hid hcur
          clear hR hc3 hC hA2 hB7
          go_wp2_with fail
          ((with_reducible refine S.out.mono ?_))
          rintro e w8 ⟨rfl, hB8⟩
          replace hB8 := Lib.hid hB8
          go_wp2_with fail
          go_ret
          exact ⟨ret_bool (by simp), hBe.out.trans (hB8.out.mono hBe.out.size)⟩
end Go.Proofs.Ytfjlhghiadoodaa
