/- The law's walk: for every board. -/
import Derived.Test.YtelhpfhnmnaefaaDrF
namespace Go.Proofs.Ytelhpfhnmnaefaa
open Go.RowKit

theorem WaysIn.at {W : World} {q : Option Addr} {R : List (List Nat)} (h : WaysIn W q R) {i : Nat} (hi : i < R.length) : ∃ (g : Nat) (p : Option Addr) (c : Nat), q = some ⟨g, 0, none⟩ ∧ W.cell? ⟨g, i, none⟩ = some (.slice p R[i].length c) ∧ IntsIn W p R[i].length (asI R[i]) := by
  obtain ⟨g, p, m, c, h1, _, h3, h4⟩ := h i _ (List.getElem?_eq_getElem hi)
  have hm : m = R[i].length := by have := h4.len; rw [asI_len] at this; exact this.symm
  subst hm
  exact ⟨g, p, c, h1, h3, h4⟩

theorem bel_drewN {B : Nat} {a w : World} (h : Below B a w) (k : Nat) : Below B a (w.drewN k) := ⟨h.os, h.tape, h.output, h.size, h.block⟩

set_option maxRecDepth 20000 in
set_option maxHeartbeats 16000000 in
theorem law_any (p : Option Addr) (n c : Nat) (t : Int) (b : List Int) (W : World) (hx : IntsIn W p n b) :
    Calls Try.prog 3 #[.agg #[.slice p n c, .int .i64 t]] W fun e W' => e = .returned (.bool true) ∧ Below W.heap.size W W' := by
  obtain ⟨W1, hW1⟩ : ∃ W1, W1 = W.alloc (.cells #[.slice p n c, .int .i64 t] 24) := ⟨_, rfl⟩
  have hB1 : Below W.heap.size W W1 := by rw [hW1]; exact bel_refl_alloc _ _
  have hbx : W1.heap[W.heap.size]? = some (.cells #[.slice p n c, .int .i64 t] 24 (0, 0)) := by rw [hW1]; exact heap_alloc_new _ _
  have hx1 : IntsIn W1 p n b := hx.below hB1
  have h0 : Hid (∀ X, Below W1.heap.size W1 X → X.cell? ⟨W.heap.size, 0, none⟩ = some (.slice p n c)) := fun X h => wcell (cs := [_, _]) ((h.block _ (lt_of_heap hbx)).trans hbx) 0
  have h1 : Hid (∀ X, Below W1.heap.size W1 X → X.cell? ⟨W.heap.size, 1, none⟩ = some (.int .i64 t)) := fun X h => wcell (cs := [_, _]) ((h.block _ (lt_of_heap hbx)).trans hbx) 1
  have HNew : Hid (∀ X, Calls Try.prog 5 #[] X fun e W' => ∃ g, e = .returned (.agg #[.slice (some ⟨g, 0, none⟩) 33 33, .int .i64 1]) ∧ Bw g newB W' ∧ X.heap.size ≤ g ∧ Below X.heap.size X W') := New_any
  have HC1 : Hid (∀ g X, IntsIn X (some ⟨g, 0, none⟩) 33 newB → Calls Try.prog 4 #[.agg #[.slice (some ⟨g, 0, none⟩) 33 33, .int .i64 1], .int .i64 1] X fun e W' => e = .returned (.tuple #[.int .i64 7, .int .i64 0]) ∧ Below X.heap.size X W') := fun g X h => by
    have := Count_any g 1 (by omega) X h chk3.1 (by rw [cnt1]; omega)
    rw [cnt1] at this; exact this
  have HC2 : Hid (∀ g X, IntsIn X (some ⟨g, 0, none⟩) 33 newB → Calls Try.prog 4 #[.agg #[.slice (some ⟨g, 0, none⟩) 33 33, .int .i64 1], .int .i64 2] X fun e W' => e = .returned (.tuple #[.int .i64 49, .int .i64 0]) ∧ Below X.heap.size X W') := fun g X h => by
    have := Count_any g 2 (by omega) X h chk3.2.1 (by rw [cnt2]; omega)
    rw [cnt2] at this; exact this
  have HC3 : Hid (∀ g X, IntsIn X (some ⟨g, 0, none⟩) 33 newB → Calls Try.prog 4 #[.agg #[.slice (some ⟨g, 0, none⟩) 33 33, .int .i64 1], .int .i64 3] X fun e W' => e = .returned (.tuple #[.int .i64 302, .int .i64 0]) ∧ Below X.heap.size X W') := fun g X h => by
    have := Count_any g 3 (by omega) X h chk3.2.2 (by rw [cnt3]; omega)
    rw [cnt3] at this; exact this
  replace hbx := Lib.hid hbx; replace hB1 := Lib.hid hB1; replace hx := Lib.hid hx; replace hx1 := Lib.hid hx1
  go_enter Try.func3, Try.ntmps3
  go_upto_region 1 with fail
  rw [← hW1]
  clear hW1
  go_wp2_with fail
  refine (HNew.out _).mono ?_
  rintro e w2 ⟨g1, rfl, hb2, hg2, hB2⟩
  replace hb2 := Lib.hid hb2; replace hB2 := Lib.hid hB2
  go_wp2_with fail
  refine (HC1.out _ _ hb2.out.bd).mono ?_
  rintro e w3 ⟨rfl, hB3⟩
  have hB13 : Hid (Below W1.heap.size W1 w3) := hB2.out.trans (hB3.mono hB2.out.size)
  clear hB2 hB3 hb2
  go_wp2_with fail
  refine (HNew.out _).mono ?_
  rintro e w4 ⟨g2, rfl, hb4, _, hB4⟩
  replace hb4 := Lib.hid hb4; replace hB4 := Lib.hid hB4
  go_wp2_with fail
  refine (HC2.out _ _ hb4.out.bd).mono ?_
  rintro e w5 ⟨rfl, hB5⟩
  have hB15 : Hid (Below W1.heap.size W1 w5) := hB13.out.trans ((hB4.out.trans (hB5.mono hB4.out.size)).mono hB13.out.size)
  clear hB4 hB5 hb4
  go_wp2_with fail
  refine (HNew.out _).mono ?_
  rintro e w6 ⟨g3, rfl, hb6, _, hB6⟩
  replace hb6 := Lib.hid hb6; replace hB6 := Lib.hid hB6
  go_wp2_with fail
  refine (HC3.out _ _ hb6.out.bd).mono ?_
  rintro e w7 ⟨rfl, hB7⟩
  have hB17 : Hid (Below W1.heap.size W1 w7) := hB15.out.trans ((hB6.out.trans (hB7.mono hB6.out.size)).mono hB15.out.size)
  clear hB6 hB7 hb6 hB13 hB15
  have b0 := h0.out w7 hB17.out
  have b1 := h1.out w7 hB17.out
  have HM := Lib.hid (Moves_any p n c t b w7 (hx1.out.below hB17.out))
  obtain ⟨r, hr⟩ : ∃ r, mayB b t = r := ⟨_, rfl⟩
  rw [hr] at HM
  go_wp2_with fail
  refine HM.out.mono ?_
  rintro e w8 ⟨hno, hyes, hB8⟩
  have hB18 : Below W1.heap.size W1 w8 := hB17.out.trans (hB8.mono hB17.out.size)
  have b0 := h0.out w8 hB18
  have b1 := h1.out w8 hB18
  have HY := Lib.hid (may_any p n c t b w8 (hx1.out.below hB18))
  rw [hr] at HY
  clear HM
  replace hB8 := Lib.hid hB8; replace hB18 := Lib.hid hB18
  cases r with
  | false =>
    have he := hno rfl
    clear hyes hno
    subst he
    go_wp2_with fail
    refine HY.out.mono ?_
    rintro e w9 ⟨rfl, hB9⟩
    replace hB9 := Lib.hid hB9
    go_wp2_with fail
    go_ret
    exact ⟨rfl, hB1.out.trans ((hB18.out.trans (hB9.out.mono hB18.out.size)).mono hB1.out.size)⟩
  | true =>
    have hok := (may_iff b t).1 hr
    have hn := hx.out.len
    rw [hok.len] at hn
    subst hn
    obtain ⟨R, q, cc, rfl, hR, hI⟩ := hyes rfl
    clear hno hyes
    replace hok := Lib.hid hok; replace hr := Lib.hid hr; replace hR := Lib.hid hR; replace hI := Lib.hid hI
    go_wp2_with fail
    refine HY.out.mono ?_
    rintro e w9 ⟨rfl, hB9⟩
    have hB19 : Below W1.heap.size W1 w9 := hB18.out.trans (hB9.mono hB18.out.size)
    have hI9 := hI.out.below hB9
    have b0 := h0.out w9 hB19
    have b1 := h1.out w9 hB19
    have HU := Lib.hid (upside_any p c t hok.out.turn b w9 (hx1.out.below hB19) hok.out.val)
    clear hI HY
    replace hB9 := Lib.hid hB9; replace hB19 := Lib.hid hB19; replace hI9 := Lib.hid hI9
    go_wp2_with fail
    refine HU.out.mono ?_
    rintro e w10 ⟨gu, rfl, hbu, hB10⟩
    have HM2 := Lib.hid (Moves_any (some ⟨gu, 0, none⟩) 33 33 (3 - t) (upS b 32) w10 hbu.bd)
    clear HU
    replace hB10 := Lib.hid hB10; replace hbu := Lib.hid hbu
    go_wp2_with fail
    refine HM2.out.mono ?_
    rintro e w11 ⟨_, hyes, hB11⟩
    have hB911 : Below w9.heap.size w9 w11 := hB10.out.trans (hB11.mono hB10.out.size)
    have hT := upS_turn b
    obtain ⟨Q, q2, cc2, rfl, hQ, hJ⟩ := hyes ((may_iff _ _).2 (hok.out.turned hT.1 (upS_len b 32) hT.2))
    rw [show 3 - 2 * (3 - t) = -(3 - 2 * t) by omega] at hQ
    obtain ⟨hlen, hmir⟩ := ways_turn hT.1 (side_of hok.out.turn) hR.out hQ
    have hIR := hI9.out.below hB911
    have hRl := ways_len hR.out
    have hin : Hid (∀ x ∈ R, InB x ∧ x.length ≤ 14 ∧ 2 ≤ x.length) := fun x h => ⟨out_in ((hR.out.mem x).1 h), out_way ((hR.out.mem x).1 h)⟩
    have hfin : Hid (Below W.heap.size W w11) := hB1.out.trans ((hB19.out.trans (hB911.mono hB19.out.size)).mono hB1.out.size)
    rw [← hlen]
    clear hyes hT HM2 b0 b1 hI9 hbu hB10
    replace hmir := Lib.hid hmir; replace hQ := Lib.hid hQ; replace hIR := Lib.hid hIR; replace hJ := Lib.hid hJ; replace hlen := Lib.hid hlen
    replace hB11 := Lib.hid hB11; replace hB911 := Lib.hid hB911
    go_wp2_with fail
    go_loopg [11] R.length (fun gk iv W' => ∃ i : Nat, i ≤ R.length ∧ gk = R.length - i ∧ iv = .int .i64 i ∧ Below w11.heap.size w11 W')
    case atStart => exact ⟨0, by omega, by omega, rfl, Below.refl _ _⟩
    case round =>
      obtain ⟨i, hi, hgk, rfl, hBr⟩ := hrel
      obtain ⟨W3, rfl⟩ : ∃ W3 : World, W3 = wr := ⟨_, rfl⟩
      replace hgk := Lib.hid hgk
      by_cases hlt : i < R.length
      · have hki : (i : Int) < R.length := by omega
        have hi0 : (0 : Int) ≤ (i : Int) := by omega
        obtain ⟨gx, px, cx, hqx, hcx, hix⟩ := hIR.out.at hlt
        have hxin := hin.out _ (List.getElem_mem hlt)
        have hxm := hmir.out _ (List.getElem_mem hlt)
        generalize R[i] = x at *
        subst hqx
        have hgx : gx < w11.heap.size := World.block_lt_of_cell? _ _ hcx
        obtain ⟨bx, ox, rfl, hbx2, hxx⟩ := hix.at (by omega)
        have hcX : Hid (∀ X, Below w11.heap.size w11 X → X.cell? ⟨gx, i, none⟩ = some (.slice (some ⟨bx, ox, none⟩) x.length cx) ∧ ∀ j, j < x.length → X.cell? ⟨bx, ox + j, none⟩ = some (.int .i64 (stN x j : Nat))) := fun X h => ⟨(h.cell (p := ⟨gx, i, none⟩) hgx).trans hcx, fun j hj => by
          rw [← stN_asI, ← hxx j hj]
          exact World.cell?_of_block (a := ⟨bx, ox + j, none⟩) (h.block _ hbx2)⟩
        clear hxx
        have hfound := Lib.hid (inF_all hxm)
        clear hcx
        replace hix := Lib.hid hix; replace hxin := Lib.hid hxin; replace hxm := Lib.hid hxm; replace hBr := Lib.hid hBr
        go_wp2_with fail
        go_loopg [12, 13] R.length (fun gk2 fv kv W' => ∃ k : Nat, k ≤ R.length ∧ gk2 = R.length - k ∧ kv = .int .i64 k ∧ fv = .bool (inF Q x k) ∧ Below w11.heap.size w11 W')
        case atStart => exact ⟨0, by omega, by omega, rfl, rfl, hBr.out⟩
        case round =>
          obtain ⟨k, hk, hgk2, rfl, rfl, hBk⟩ := hrel
          obtain ⟨W4, rfl⟩ : ∃ W4 : World, W4 = wr := ⟨_, rfl⟩
          replace hgk2 := Lib.hid hgk2
          by_cases hlk : k < R.length
          · have hkk : (k : Int) < R.length := by omega
            have hk0 : (0 : Int) ≤ (k : Int) := by omega
            have hlq : k < Q.length := by rw [← hlen.out]; exact hlk
            obtain ⟨gy, py, cy, hqy, hcy, hiy⟩ := hJ.out.at hlq
            have hfs := inF_succ Q x hlq
            have hyl := out_way ((hQ.out.mem _).1 (List.getElem_mem hlq))
            generalize Q[k] = y at *
            subst hqy
            have hgy : gy < w11.heap.size := World.block_lt_of_cell? _ _ hcy
            obtain ⟨by', oy, rfl, hby2, hyy⟩ := hiy.at (by omega)
            have hcY : Hid (∀ X, Below w11.heap.size w11 X → X.cell? ⟨gy, k, none⟩ = some (.slice (some ⟨by', oy, none⟩) y.length cy) ∧ ∀ j, j < y.length → X.cell? ⟨by', oy + j, none⟩ = some (.int .i64 (stN y j : Nat))) := fun X h => ⟨(h.cell (p := ⟨gy, k, none⟩) hgy).trans hcy, fun j hj => by
              rw [← stN_asI, ← hyy j hj]
              exact World.cell?_of_block (a := ⟨by', oy + j, none⟩) (h.block _ hby2)⟩
            clear hyy
            have x0 := (hcX.out W4 hBk).1
            have y0 := (hcY.out W4 hBk).1
            have hal : ((y.length : Int) == (x.length : Int)) = likeF x y 0 := by
              unfold likeF
              simp only [List.range_zero, List.all_nil, Bool.and_true]
              by_cases e : y.length = x.length
              · simp [e]
              · rw [decide_eq_false e]; simp; omega
            obtain ⟨al, hal2⟩ : ∃ al, likeF x y 0 = al := ⟨_, rfl⟩
            rw [hal2] at hal
            clear hcy
            replace hiy := Lib.hid hiy; replace hBk := Lib.hid hBk; replace hfs := Lib.hid hfs; replace hal2 := Lib.hid hal2
            go_wp2_with fail
            go_quiet (fail)
            have hB4n : Hid (Below w11.heap.size w11 (W4.drewN nq)) := bel_drewN hBk.out nq
            generalize W4.drewN nq = W5 at *
            clear x0 y0
            obtain ⟨fv, hfv⟩ : ∃ fv, inF Q x k = fv := ⟨_, rfl⟩
            rw [hfv] at hfs ⊢
            replace hfs := Lib.hid hfs; replace hfv := Lib.hid hfv; replace hal := Lib.hid hal
            go_wp2_with fail
            go_loopg [14, 15] x.length (fun gk3 av jv W' => ∃ j : Nat, j ≤ x.length ∧ gk3 = x.length - j ∧ jv = .int .i64 j ∧ av = .bool (likeF x y j) ∧ Below w11.heap.size w11 W')
            case atStart => exact ⟨0, by omega, by omega, rfl, by rw [hal2.out], hB4n.out⟩
            case round =>
              obtain ⟨j, hj, hgk3, rfl, rfl, hB5⟩ := hrel
              obtain ⟨W6, rfl⟩ : ∃ W6 : World, W6 = wr := ⟨_, rfl⟩
              replace hgk3 := Lib.hid hgk3
              have x0 := (hcX.out W6 hB5).1
              have y0 := (hcY.out W6 hB5).1
              have hls := likeF_succ x y j
              by_cases hlj : j < x.length
              · have hkj : (j : Int) < x.length := by omega
                have hj0 : (0 : Int) ≤ (j : Int) := by omega
                cases hlf : likeF x y j with
                | true =>
                  rw [hlf, Bool.true_and] at hls
                  have hyx : y.length = x.length := by
                    unfold likeF at hlf
                    simp only [Bool.and_eq_true, decide_eq_true_eq] at hlf
                    exact hlf.1
                  have hkj2 : (j : Int) < y.length := by omega
                  have x1 := (hcX.out W6 hB5).2 j hlj
                  have y1 := (hcY.out W6 hB5).2 j (by omega)
                  have hb := stN_in hxin.out.1 hlj
                  generalize stN x j = u at *
                  generalize stN y j = v at *
                  have w1 : IntKind.i64.wrap (33 - (u : Int)) = 33 - (u : Int) := IntWalk.i64_in _ (by omega)
                  have hev : ((v : Int) == 33 - (u : Int)) = likeF x y (j + 1) := by
                    rw [hls]
                    by_cases e : v = 33 - u
                    · rw [decide_eq_true e]; simp; omega
                    · rw [decide_eq_false e]; simp; omega
                  obtain ⟨al3, hal3⟩ : ∃ al3, likeF x y (j + 1) = al3 := ⟨_, rfl⟩
                  rw [hal3] at hev
                  replace hls := Lib.hid hls; replace hlf := Lib.hid hlf; replace hyx := Lib.hid hyx; replace hB5 := Lib.hid hB5; replace hal3 := Lib.hid hal3
                  go_wp2_with fail
                  go_quiet (fail)
                  have hB6 : Hid (Below w11.heap.size w11 (W6.drewN nq)) := bel_drewN hB5.out nq
                  go_wp2_with fail
                  have hgk3 := hgk3.out
                  go_roundg (x.length - (j + 1))
                  case measure => omega
                  case rel => exact ⟨j + 1, hlj, rfl, by go_num, by rw [hal3.out], hB6.out⟩
                | false =>
                  have hle : Hid (likeF x y x.length = false) := by
                    have := likeF_false hlf (x.length - j)
                    rwa [show j + (x.length - j) = x.length by omega] at this
                  replace hls := Lib.hid hls; replace hlf := Lib.hid hlf; replace hB5 := Lib.hid hB5
                  have hB6 := hB5.out
                  cases fv with
                  | true =>
                    go_wp2_with fail
                    have hgk2 := hgk2.out
                    go_roundg (R.length - (k + 1))
                    case measure => omega
                    case rel => exact ⟨k + 1, by omega, rfl, by go_num, by rw [hfs.out, hle.out]; rfl, hB6⟩
                  | false =>
                    go_wp2_with fail
                    have hgk2 := hgk2.out
                    go_roundg (R.length - (k + 1))
                    case measure => omega
                    case rel => exact ⟨k + 1, by omega, rfl, by go_num, by rw [hfs.out, hle.out]; rfl, hB6⟩
              · have hje : j = x.length := by omega
                have hkj : ¬ (j : Int) < x.length := by omega
                obtain ⟨al4, hal4⟩ : ∃ al4, likeF x y j = al4 := ⟨_, rfl⟩
                have hle : Hid (likeF x y x.length = al4) := by rw [hje] at hal4; exact hal4
                rw [hal4]
                replace hls := Lib.hid hls; replace hal4 := Lib.hid hal4; replace hje := Lib.hid hje; replace hB5 := Lib.hid hB5
                have hB6 := hB5.out
                cases fv with
                | true =>
                  go_wp2_with fail
                  have hgk2 := hgk2.out
                  go_roundg (R.length - (k + 1))
                  case measure => omega
                  case rel => exact ⟨k + 1, by omega, rfl, by go_num, by rw [hfs.out, hle.out]; rfl, hB6⟩
                | false =>
                  go_wp2_with fail
                  have hgk2 := hgk2.out
                  go_roundg (R.length - (k + 1))
                  case measure => omega
                  case rel => exact ⟨k + 1, by omega, rfl, by go_num, by rw [hfs.out, hle.out]; rfl, hB6⟩
          · have hkk : ¬ (k : Int) < R.length := by omega
            have hkl : k = R.length := by omega
            have hft : inF Q x k = true := by rw [hkl, hlen.out]; exact hfound.out
            rw [hft]
            replace hft := Lib.hid hft; replace hkl := Lib.hid hkl; replace hBk := Lib.hid hBk
            go_wp2_with fail
            have hgk := hgk.out
            go_roundg (R.length - (i + 1))
            case measure => omega
            case rel => exact ⟨i + 1, hlt, rfl, by go_num, hBk.out⟩
      · have hki : ¬ (i : Int) < R.length := by omega
        go_wp2_with fail
        go_ret
        exact ⟨rfl, hfin.out.trans (hBr.mono hfin.out.size)⟩
end Go.Proofs.Ytelhpfhnmnaefaa
