/- What push tells; conditions: short lines. -/
import Derived.Test.YtkklcfaghnfleaaNPs
import Derived.Test.YtkklcfaghnfleaaShelf
namespace Go.Proofs.Ytkklcfaghnfleaa
open Go.RowKit

theorem Own.getC {E B n c : Nat} {w : World} {q : Option Addr} {xs : List Int} (h : Own E B w q n c xs) {b o : Nat} (hq : q = some ⟨b, o, none⟩) : ∀ j, j < xs.length → w.cell? ⟨b, o + j, none⟩ = some (.int .i64 (xs.getD j 0)) := fun j hj => by
  have hl := h.len
  obtain ⟨b', o', e, _, hc⟩ := h.in.at (by omega)
  rw [hq] at e
  injection e with e; injection e with e1 e2
  subst e1 e2
  rw [hc j (by omega)]; simp [List.getD]
theorem equal_rows (m b1 c1 b2 c2 : Nat) (xs ys : List Int) (w : World) (hm : m ≤ 20) (hx : IntsIn w (some ⟨b1, 0, none⟩) m xs) (hy : IntsIn w (some ⟨b2, 0, none⟩) m ys) :
    Calls Try.prog 33 #[.slice (some ⟨b1, 0, none⟩) m c1, .slice (some ⟨b2, 0, none⟩) m c2] w fun e w' => e = .returned (.bool (decide (xs = ys))) ∧ ∃ q, w' = w.drewN q := by
  have lx := hx.len
  have ly := hy.len
  rcases Nat.eq_zero_or_pos m with rfl | h0
  · obtain rfl := List.length_eq_zero_iff.1 lx
    obtain rfl := List.length_eq_zero_iff.1 ly
    exact (Sh.slices_Equal_int_empty _ _ _ _ _ w (by omega)).mono fun e w' ⟨h1, h2⟩ => ⟨by rw [h1]; rfl, 0, h2⟩
  · obtain ⟨b, o, e, _, hc⟩ := hx.at h0
    cases e
    obtain ⟨b', o', e', _, hc'⟩ := hy.at h0
    cases e'
    refine (Sh.slices_Equal_int b1 0 m c1 b2 0 m c2 xs ys w (by omega) (by omega) (by omega) (by omega) (fun j hj => ?_) (fun j hj => ?_)).mono fun e w' ⟨h1, h2⟩ => ⟨?_, h2⟩
    · rw [hc j (by omega)]; simp [List.getD]
    · rw [hc' j (by omega)]; simp [List.getD]
    · rw [h1, List.take_of_length_le (by omega), List.take_of_length_le (by omega)]
      congr 2
      by_cases e : xs = ys
      · subst e; simp
      · rw [decide_eq_false e]; simpa using e
/-- what push leaves. -/
def PushEnd (B : Nat) (w : World) (pb n m : Nat) (rq : Option Addr) (rc : Nat) (cq : Option Addr) (cc cb kc : Nat) (c0 : Pic) (R C : Nat → List Nat) (e : Ending) (W' : World) : Prop :=
  Below B w W' ∧ ((e = .returned (.bool false) ∧ ∀ s, Good n m R C s → Rf n m c0 s → False) ∨
      (e = .returned (.bool true) ∧ ∃ g' kp' c1, Pc B W' pb n m rq rc cq cc cb kc g' kp' c1 ∧ Ps n m R C c0 c1 ∧ LinesOk n m R C c1))
set_option maxRecDepth 20000 in
set_option maxHeartbeats 4000000 in
theorem push_any {B : Nat} {w : World} {pb n m : Nat} {rq : Option Addr} {rc : Nat} {cq : Option Addr} {cc cb kc : Nat} {g kp : Nat → Nat} {c0 : Pic} {R C : Nat → List Nat}
    (h : Pc B w pb n m rq rc cq cc cb kc g kp c0) (hv : Vld n m c0) (hcr : Clu B w rq n R) (hcc : Clu B w cq m C) (hn : 1 ≤ n ∧ n ≤ 20) (hm : 1 ≤ m ∧ m ≤ 20)
    (hR : ∀ y, y < n → ∀ k ∈ R y, 1 ≤ k ∧ k ≤ 20) (hC : ∀ x, x < m → ∀ k ∈ C x, 1 ≤ k ∧ k ≤ 20) :
    Calls Try.prog 22 #[.pointer (some ⟨pb, 0, none⟩)] w (PushEnd B w pb n m rq rc cq cc cb kc c0 R C) := by
  obtain ⟨rb, ro, rfl⟩ : ∃ rb ro, rq = some ⟨rb, ro, none⟩ := by obtain ⟨b, o, _, _, _, e, _⟩ := hcr 0 (by omega); exact ⟨b, o, e⟩
  obtain ⟨qb, qo, rfl⟩ : ∃ rb ro, cq = some ⟨rb, ro, none⟩ := by obtain ⟨b, o, _, _, _, e, _⟩ := hcc 0 (by omega); exact ⟨b, o, e⟩
  have hBw : B ≤ w.heap.size := Nat.le_trans h.pB (Nat.le_of_lt h.lt.1)
  have HR := Lib.hid (fun W' (hb : Below B w W') => hcr.below hb)
  have HC := Lib.hid (fun W' (hb : Below B w W') => hcc.below hb)
  replace hR := Lib.hid hR; replace hC := Lib.hid hC; replace hBw := Lib.hid hBw
  clear hcr hcc
  obtain ⟨hn1, hn2⟩ := hn
  obtain ⟨hm1, hm2⟩ := hm
  go_enter Try.func22, Try.ntmps22
  go_wp2_with fail
  go_loopg [3] (opn n m c0 + 1) (fun gk mv W' => ∃ (more : Bool) (g kp : Nat → Nat) (c1 : Pic), gk = opn n m c1 + (if more then 1 else 0) ∧ mv = .bool more ∧ Hid (Pc B W' pb n m (some ⟨rb, ro, none⟩) rc (some ⟨qb, qo, none⟩) cc cb kc g kp c1) ∧ Hid (Below B w W') ∧ Hid (Ps n m R C c0 c1) ∧ (more = false → LinesOk n m R C c1))
  case atStart => exact ⟨true, g, kp, c0, rfl, rfl, h, Below.refl _ _, Ps.refl hv, fun h => by cases h⟩
  case round =>
    obtain ⟨more, g, kp, c1, hgk, rfl, hP, hB, hS, hL⟩ := hrel
    obtain ⟨W1, rfl⟩ : ∃ W1 : World, W1 = wr := ⟨_, rfl⟩
    replace hgk := Lib.hid hgk
    cases more with
    | false =>
      replace hL := Lib.hid (hL rfl)
      go_wp2_with fail
      go_ret
      exact ⟨hB.out, .inr ⟨rfl, g, kp, c1, hP.out, hS.out, hL.out⟩⟩
    | true =>
      clear hL
      have k0 := hP.out.k0
      go_wp2_with fail
      go_loopg [3, 20] n (fun gk mv jv W' => ∃ (more : Bool) (j : Nat) (g kp : Nat → Nat) (c2 : Pic), gk = n - j ∧ j ≤ n ∧ jv = .int .i64 (j : Nat) ∧ mv = .bool more ∧ Hid (Pc B W' pb n m (some ⟨rb, ro, none⟩) rc (some ⟨qb, qo, none⟩) cc cb kc g kp c2) ∧ Hid (Below B w W') ∧ Hid (Ps n m R C c0 c2) ∧ Hid (more = true → opn n m c2 < opn n m c1) ∧ Hid (more = false → c2 = c1 ∧ ∀ y, y < j → 1 ≤ WS (rowL m c1 y) (R y)))
      case atStart => exact ⟨false, 0, g, kp, c1, by omega, by omega, rfl, rfl, hP, hB, hS, fun h => (by cases h), fun _ => ⟨rfl, fun y hy => absurd hy (Nat.not_lt_zero _)⟩⟩
      case round =>
        clear hP hB hS k0
        obtain ⟨more, j, g, kp, c2, hgk2, hj, rfl, rfl, hP, hB, hS, hM, hL⟩ := hrel
        obtain ⟨W2, rfl⟩ : ∃ W2 : World, W2 = wr := ⟨_, rfl⟩
        replace hgk2 := Lib.hid hgk2
        rcases Nat.lt_or_ge j n with hlt | hge
        · obtain ⟨b', o', p, k, cl, e', hbB, r1, hk20, hri, hpB⟩ := HR.out W2 hB.out j hlt
          cases e'
          have k2 := hP.out.k2
          have a1 := hP.out.at hlt
          have hli := hP.out.in hlt
          have hcap := hP.out.cap hlt
          have hrg := hS.out.vld.rowR hlt
          have hks := hR.out j hlt
          have hlen := rowL_len m c2 j
          obtain ⟨gj, hgj⟩ : ∃ gj, gj = g j := ⟨_, rfl⟩
          obtain ⟨kj, hkj⟩ : ∃ kj, kj = kp j := ⟨_, rfl⟩
          rw [← hgj] at a1 hli
          rw [← hkj] at a1 hcap
          replace hgj := Lib.hid hgj; replace hkj := Lib.hid hkj
          rcases Nat.eq_zero_or_pos (WS (rowL m c2 j) (R j)) with hz | hz
          · have HZ := Lib.hid (sureZ_any m kj k cl (some ⟨gj, 0, none⟩) p (rowL m c2 j) (R j) W2 hm2 hk20 hcap hrg hks hz hli hri)
            have hno := Lib.hid (hS.out.noR hR.out hlt hz)
            clear hrg hks hlen hli hri hpB
            go_wp2_with fail
            refine HZ.out.mono ?_
            rintro e W3 ⟨q, c3, rfl, hb3⟩
            have hfin := Lib.hid (hB.out.trans (hb3.mono (Nat.le_trans hBw.out hB.out.size)))
            clear HZ hb3 a1 k2 r1
            go_wp2_with fail
            go_ret
            exact ⟨hfin.out, .inl ⟨rfl, hno.out⟩⟩
          · have HS := Lib.hid (sureO_any m kj k cl (some ⟨gj, 0, none⟩) p (rowL m c2 j) (R j) W2 hm2 hk20 hcap hrg hks hz hli hri)
            rw [sureN_all _ _ hlen] at HS
            replace hz := Lib.hid hz
            clear hrg hks hlen hli hri hpB
            go_wp2_with fail
            refine HS.out.mono ?_
            rintro e W3 ⟨q, c3, rfl, hO3, hb3⟩
            obtain ⟨g3, rfl, hg31, hg32, hg33⟩ := hO3.where (by omega)
            have hP3 := Lib.hid (hP.out.below hb3 (Nat.le_refl _))
            have hB3 := Lib.hid (hB.out.trans (hb3.mono (Nat.le_trans hBw.out hB.out.size)))
            have hBW2 : B ≤ W2.heap.size := Nat.le_trans hBw.out hB.out.size
            have hO3 := Lib.hid (hO3.mono hBW2)
            have hgc : Hid (g3 ≠ cb ∧ g3 ≠ pb ∧ (∀ y, y < n → g y ≠ g3) ∧ B ≤ cb) := by
              obtain ⟨l1, l2, l3, l4⟩ := hP.out.lt
              exact ⟨by omega, by omega, fun y hy => by have := (l4 y hy).1; omega, l3⟩
            have hS5 := Lib.hid (hS.out.row hR.out hlt)
            have hrf := Lib.hid (row_rf (n := n) (ks := R j) hS.out.vld hlt)
            have HW : Hid (∀ W4 : World, W4.heap = W3.heap → Below B w W4 → ∀ W5 : World, W5 = W4.setCell ⟨cb, j, none⟩ (.slice (some ⟨g3, 0, none⟩) m c3) → Pc B W5 pb n m (some ⟨rb, ro, none⟩) rc (some ⟨qb, qo, none⟩) cc cb kc (setN g j g3) (setN kp j c3) (updR m c2 j (sureAt (rowL m c2 j) (R j))) ∧ Below B w W5) := fun W4 h4 hb4 W5 h5 => by
              subst h5
              obtain ⟨h1, h2, h3, h6⟩ := hgc.out
              have hP4 := hP3.out.keep (W' := W4) (by rw [h4]) (by rw [h4]) (fun y _ => by rw [h4])
              exact ⟨hP4.setRow hlt (hO3.out.keep fun a _ => by rw [h4]) h1 h2 h3, hb4.setCell (p := ⟨cb, j, none⟩) h6 _⟩
            clear HS hb3 a1 k2 r1 hg31 hg32 hgc hBW2
            cases more with
            | true =>
              have k2 := hP3.out.k2
              have a1 := hP3.out.at hlt
              have f1 := hP3.out.atF j
              have hw5 := Lib.hid (HW.out W3 rfl hB3.out _ rfl)
              have hM5 : Hid (opn n m (updR m c2 j (sureAt (rowL m c2 j) (R j))) < opn n m c1) := Nat.lt_of_le_of_lt (opn_le hrf.out) (hM.out rfl)
              generalize g j = gj' at *
              generalize kp j = kj' at *
              go_wp2_with fail
              generalize W3.setCell ⟨cb, j, none⟩ (.slice (some ⟨g3, 0, none⟩) m c3) = W5 at *
              have hgk2 := hgk2.out
              go_roundg (n - (j + 1))
              case measure => omega
              case rel => exact ⟨true, j + 1, _, _, _, rfl, by omega, by go_num, rfl, hw5.out.1, hw5.out.2, hS5.out, fun _ => hM5.out, fun h => (by cases h)⟩
            | false =>
              have hL1 := Lib.hid (hL.out rfl)
              clear hL hM
              have k2 := hP3.out.k2
              have a1 := hP3.out.at hlt
              have f1 := hP3.out.atF j
              rw [← hgj.out, ← hkj.out] at a1
              have HE := Lib.hid (equal_rows m g3 c3 gj kj _ _ W3 hm2 hO3.out.in (by rw [hgj.out]; exact hP3.out.in hlt))
              go_wp2_with fail
              refine HE.out.mono ?_
              rintro e W4 ⟨rfl, nd, rfl⟩
              have hw5 := Lib.hid (HW.out (W3.drewN nd) rfl (below_drewN hB3.out nd) _ rfl)
              by_cases heq : (List.range m).map (sureAt (rowL m c2 j) (R j)) = rowL m c2 j
              · have he := row_eq heq
                rw [decide_eq_true heq]
                have hL5 : Hid (updR m c2 j (sureAt (rowL m c2 j) (R j)) = c1 ∧ ∀ y, y < j + 1 → 1 ≤ WS (rowL m c1 y) (R y)) := by
                  obtain ⟨h1, h2⟩ := hL1.out
                  refine ⟨he.trans h1, fun y hy => ?_⟩
                  rcases Nat.lt_or_ge y j with h3 | h3
                  · exact h2 y h3
                  · obtain rfl : y = j := by omega
                    rw [← h1]; exact hz.out
                clear heq he
                go_wp2_with fail
                generalize (W3.drewN nd).setCell ⟨cb, j, none⟩ (.slice (some ⟨g3, 0, none⟩) m c3) = W5 at *
                have hgk2 := hgk2.out
                go_roundg (n - (j + 1))
                case measure => omega
                case rel => exact ⟨false, j + 1, _, _, _, rfl, by omega, by go_num, rfl, hw5.out.1, hw5.out.2, hS5.out, fun h => (by cases h), fun _ => hL5.out⟩
              · rw [decide_eq_false heq]
                have hM5 : Hid (opn n m (updR m c2 j (sureAt (rowL m c2 j) (R j))) < opn n m c1) := by
                  have := row_ne hlt hrf.out heq
                  rw [← hL1.out.1]; exact this
                clear heq
                go_wp2_with fail
                generalize (W3.drewN nd).setCell ⟨cb, j, none⟩ (.slice (some ⟨g3, 0, none⟩) m c3) = W5 at *
                have hgk2 := hgk2.out
                go_roundg (n - (j + 1))
                case measure => omega
                case rel => exact ⟨true, j + 1, _, _, _, rfl, by omega, by go_num, rfl, hw5.out.1, hw5.out.2, hS5.out, fun _ => hM5.out, fun h => (by cases h)⟩
        · obtain rfl : j = n := by omega
          have k1 := hP.out.k1
          clear hgk2 hge
          go_wp2_with fail
          go_loopg [3, 65] m (fun gk mv jv W' => ∃ (more : Bool) (x : Nat) (g kp : Nat → Nat) (c3 : Pic), gk = m - x ∧ x ≤ m ∧ jv = .int .i64 (x : Nat) ∧ mv = .bool more ∧ Hid (Pc B W' pb j m (some ⟨rb, ro, none⟩) rc (some ⟨qb, qo, none⟩) cc cb kc g kp c3) ∧ Hid (Below B w W') ∧ Hid (Ps j m R C c0 c3) ∧ Hid (more = true → opn j m c3 < opn j m c1) ∧ Hid (more = false → c3 = c1 ∧ (∀ y, y < j → 1 ≤ WS (rowL m c1 y) (R y)) ∧ ∀ x', x' < x → 1 ≤ WS (colL j c1 x') (C x')))
          case atStart => exact ⟨more, 0, g, kp, c2, by omega, by omega, rfl, rfl, hP, hB, hS, hM, fun h => ⟨(hL.out h).1, (hL.out h).2, fun x hx => absurd hx (Nat.not_lt_zero _)⟩⟩
          case round =>
            clear hP hB hS hM hL k1
            obtain ⟨more, x, g, kp, c3, hgk2, hx, rfl, rfl, hP, hB, hS, hM, hL⟩ := hrel
            obtain ⟨W3, rfl⟩ : ∃ W3 : World, W3 = wr := ⟨_, rfl⟩
            replace hgk2 := Lib.hid hgk2
            rcases Nat.lt_or_ge x m with hxt | hxe
            · obtain ⟨b', o', p, k, cl, e', hbB, r1, hk20, hri, hpB⟩ := HC.out W3 hB.out x hxt
              cases e'
              have HCo := Lib.hid (column_any hP.out x hxt hn2)
              have hri := Lib.hid hri; have hpB := Lib.hid hpB
              have hBW3 : B ≤ W3.heap.size := Nat.le_trans hBw.out hB.out.size
              replace hBW3 := Lib.hid hBW3
              go_wp2_with fail
              refine HCo.out.mono ?_
              rintro e W4 ⟨q, c4, rfl, hO4, hb4⟩
              have hP4 := Lib.hid (hP.out.below hb4 (Nat.le_refl _))
              have hB4 := Lib.hid (hB.out.trans (hb4.mono hBW3.out))
              have hri4 : IntsIn W4 p k (asI (C x)) := hri.out.keep hb4.size fun b' o' e' => hb4.block _ (Nat.lt_of_lt_of_le (hpB.out _ e') hBW3.out)
              have hcl4 := OwnC.cap (k := 1) hO4
              have hci4 := hO4.in
              have hrg := hS.out.vld.colR hxt
              have hks := hC.out x hxt
              have hlen := colL_len j c3 x
              have hBW4 : B ≤ W4.heap.size := Nat.le_trans hBW3.out hb4.size
              replace hBW4 := Lib.hid hBW4
              clear HCo hri hpB hO4 hb4 r1 hBW3
              rcases Nat.eq_zero_or_pos (WS (colL j c3 x) (C x)) with hz | hz
              · have HZ := Lib.hid (sureZ_any j c4 k cl q p (colL j c3 x) (C x) W4 hn2 hk20 hcl4 hrg hks hz hci4 hri4)
                have hno := Lib.hid (hS.out.noC hC.out hxt hz)
                clear hrg hks hlen hci4 hri4
                go_wp2_with fail
                refine HZ.out.mono ?_
                rintro e W5 ⟨q5, c5, rfl, hb5⟩
                have hfin := Lib.hid (hB4.out.trans (hb5.mono hBW4.out))
                clear HZ hb5
                go_wp2_with fail
                go_ret
                exact ⟨hfin.out, .inl ⟨rfl, hno.out⟩⟩
              · have HS := Lib.hid (sureO_any j c4 k cl q p (colL j c3 x) (C x) W4 hn2 hk20 hcl4 hrg hks hz hci4 hri4)
                rw [sureN_all _ _ hlen] at HS
                replace hz := Lib.hid hz
                clear hrg hks hlen hci4 hri4
                go_wp2_with fail
                refine HS.out.mono ?_
                rintro e W5 ⟨q5, c5, rfl, hO5, hb5⟩
                obtain ⟨g5, rfl, hg51, hg52, hg53⟩ := hO5.where (by omega)
                have hP5 := Lib.hid (hP4.out.below hb5 (Nat.le_refl _))
                have hB5 := Lib.hid (hB4.out.trans (hb5.mono hBW4.out))
                have hO5 := Lib.hid (hO5.mono hBW4.out)
                have hgc : Hid (∀ y, y < j → g y ≠ g5) := by
                  obtain ⟨l1, l2, l3, l4⟩ := hP4.out.lt
                  exact fun y hy => by have := (l4 y hy).1; omega
                have hgB : Hid (∀ y, y < j → B ≤ g y) := fun y hy => (hP4.out.lt.2.2.2 y hy).2
                have hS5 := Lib.hid (hS.out.col hC.out hxt)
                have hrf := Lib.hid (col_rf (n := j) (k := j) (ks := C x) hS.out.vld hxt)
                obtain ⟨v, hv⟩ : ∃ v, v = sureAt (colL j c3 x) (C x) := ⟨_, rfl⟩
                rw [← hv] at hS5 hrf hO5
                clear HS hb5 hP hB hg51 hg52 hP4 hB4
                go_wp2_with fail
                go_loopg [3, 82] j (fun gk mv yv W' => ∃ (mo : Bool) (y : Nat), gk = j - y ∧ y ≤ j ∧ yv = .int .i64 (y : Nat) ∧ mv = .bool mo ∧ Hid (Pc B W' pb j m (some ⟨rb, ro, none⟩) rc (some ⟨qb, qo, none⟩) cc cb kc g kp (updC c3 x y v)) ∧ Hid (Below B w W') ∧ Hid (Own 3 B W' (some ⟨g5, 0, none⟩) j c5 ((List.range j).map v)) ∧ Hid (mo = true → more = true ∨ ∃ y', y' < y ∧ v y' ≠ c3 y' x) ∧ Hid (mo = false → more = false ∧ ∀ y', y' < y → v y' = c3 y' x))
                case atStart => exact ⟨more, 0, by omega, by omega, rfl, rfl, by rw [updC_zero]; exact hP5, hB5, hO5, fun h => .inl h, fun h => ⟨h, fun y hy => absurd hy (Nat.not_lt_zero _)⟩⟩
                case round =>
                  clear hP5 hB5 hO5
                  obtain ⟨mo, y, hgk3, hy, rfl, rfl, hP, hB, hO5, hT, hF⟩ := hrel
                  obtain ⟨W6, rfl⟩ : ∃ W6 : World, W6 = wr := ⟨_, rfl⟩
                  replace hgk3 := Lib.hid hgk3
                  rcases Nat.lt_or_ge y j with hyt | hye
                  · have k2 := hP.out.k2
                    have a1 := hP.out.at hyt
                    have a2 := hP.out.cell hyt hxt
                    have a2' : updC c3 x y v y x = c3 y x := if_neg (by omega)
                    rw [a2'] at a2
                    have f1 := hP.out.cellF hyt x
                    have a3 := hP.out.cap hyt
                    have b1 := hO5.out.cell hyt
                    have b1' : ((List.range j).map v)[y]?.getD 0 = v y := by simp [hyt]
                    rw [b1'] at b1
                    have hP7 := Lib.hid (hP.out.set1 (x0 := x) hyt (v y))
                    rw [← updC_succ] at hP7
                    have hB7 := Lib.hid (hB.out.setCell (p := ⟨g y, x, none⟩) (hgB.out y hyt) (.int .i64 (v y)))
                    have hO7 : Hid (Own 3 B (W6.setCell ⟨g y, x, none⟩ (.int .i64 (v y))) (some ⟨g5, 0, none⟩) j c5 ((List.range j).map v)) := hO5.out.keep fun a ha => by cases ha; exact wset_ne _ _ (Ne.symm (hgc.out y hyt))
                    clear a2' b1'
                    obtain ⟨vy, hvy⟩ : ∃ vy, vy = v y := ⟨_, rfl⟩
                    obtain ⟨cy, hcy⟩ : ∃ cy, cy = c3 y x := ⟨_, rfl⟩
                    obtain ⟨gy, hgy⟩ : ∃ gy, gy = g y := ⟨_, rfl⟩
                    rw [← hvy] at hP7 hB7 hO7 b1
                    rw [← hcy] at a2
                    rw [← hgy] at hP7 hB7 hO7 a1 a2 f1
                    generalize kp y = ky at a1 a3
                    replace hgy := Lib.hid hgy
                    have hTs : Hid (vy ≠ cy → ∃ y', y' < y + 1 ∧ v y' ≠ c3 y' x) := fun h => ⟨y, by omega, by rw [← hvy, ← hcy]; exact h⟩
                    have hFs : Hid (vy = cy → mo = false → more = false ∧ ∀ y', y' < y + 1 → v y' = c3 y' x) := fun h h2 => ⟨(hF.out h2).1, fun y' hy' => by
                      rcases Nat.lt_or_ge y' y with h3 | h3
                      · exact (hF.out h2).2 y' h3
                      · obtain rfl : y' = y := by omega
                        rw [← hvy, ← hcy]; exact h⟩
                    have hTm : Hid (mo = true → more = true ∨ ∃ y', y' < y + 1 ∧ v y' ≠ c3 y' x) := fun h => by
                      rcases hT.out h with h1 | ⟨y', h1, h2⟩
                      · exact .inl h1
                      · exact .inr ⟨y', by omega, h2⟩
                    replace hvy := Lib.hid hvy; replace hcy := Lib.hid hcy
                    cases mo with
                    | true =>
                      have hTm2 := Lib.hid (hTm.out rfl)
                      clear hTm hT hF hFs
                      go_wp2_with fail
                      generalize W6.setCell ⟨gy, x, none⟩ (.int .i64 vy) = W7 at *
                      have hgk3 := hgk3.out
                      go_roundg (j - (y + 1))
                      case measure => omega
                      case rel => exact ⟨true, y + 1, rfl, by omega, by go_num, rfl, hP7, hB7, hO7, fun _ => hTm2.out, fun h => (by cases h)⟩
                    | false =>
                      have hFs2 := Lib.hid (fun h => hFs.out h rfl)
                      clear hTm hT hF hFs
                      by_cases heq : cy = vy
                      · have hFs3 := Lib.hid (hFs2.out heq.symm)
                        have d1 : decide (cy = vy) = true := decide_eq_true heq
                        have d2 : (cy == vy) = true := by simp [heq]
                        clear hFs2
                        replace heq := Lib.hid heq
                        go_wp2_with fail
                        generalize W6.setCell ⟨gy, x, none⟩ (.int .i64 vy) = W7 at *
                        have hgk3 := hgk3.out
                        go_roundg (j - (y + 1))
                        case measure => omega
                        case rel => exact ⟨false, y + 1, rfl, by omega, by go_num, (by have := heq.out; simp [this]), hP7, hB7, hO7, fun h => (by cases h), fun _ => hFs3.out⟩
                      · have hTs2 := Lib.hid (hTs.out (Ne.symm heq))
                        have d1 : decide (cy = vy) = false := decide_eq_false heq
                        have d2 : (cy == vy) = false := by simp [heq]
                        clear hFs2
                        replace heq := Lib.hid heq
                        go_wp2_with fail
                        generalize W6.setCell ⟨gy, x, none⟩ (.int .i64 vy) = W7 at *
                        have hgk3 := hgk3.out
                        go_roundg (j - (y + 1))
                        case measure => omega
                        case rel => exact ⟨true, y + 1, rfl, by omega, by go_num, (by have := heq.out; simp [this]), hP7, hB7, hO7, fun _ => .inr hTs2.out, fun h => (by cases h)⟩
                  · obtain rfl : y = j := by omega
                    have hle3 : Hid (opn y m c3 ≤ opn y m c1) := by
                      cases more with
                      | true => exact Nat.le_of_lt (hM.out rfl)
                      | false => rw [(hL.out rfl).1]; exact Nat.le_refl _
                    have hM7 : Hid (mo = true → opn y m (updC c3 x y v) < opn y m c1) := fun h => by
                      rcases hT.out h with h1 | h1
                      · exact Nat.lt_of_le_of_lt (opn_le hrf.out) (hM.out h1)
                      · exact Nat.lt_of_lt_of_le (col_ne hxt hrf.out h1) hle3.out
                    have hL7 : Hid (mo = false → updC c3 x y v = c1 ∧ (∀ y', y' < y → 1 ≤ WS (rowL m c1 y') (R y')) ∧ ∀ x', x' < x + 1 → 1 ≤ WS (colL y c1 x') (C x')) := fun h => by
                      obtain ⟨h1, h2⟩ := hF.out h
                      obtain ⟨h3, h4, h5⟩ := hL.out h1
                      refine ⟨(col_eq h2).trans h3, h4, fun x' hx' => ?_⟩
                      rcases Nat.lt_or_ge x' x with h6 | h6
                      · exact h5 x' h6
                      · obtain rfl : x' = x := by omega
                        rw [← h3]; exact hz.out
                    clear hM hL hT hF hz hv
                    go_wp2_with fail
                    have hgk2 := hgk2.out
                    go_roundg (m - (x + 1))
                    case measure => omega
                    case rel => exact ⟨mo, x + 1, g, kp, updC c3 x y v, rfl, by omega, by go_num, rfl, hP, hB, hS5, hM7, hL7⟩
            · obtain rfl : x = m := by omega
              have hL8 : Hid (more = false → LinesOk j x R C c3) := fun h => by
                obtain ⟨h3, h4, h5⟩ := hL.out h
                rw [h3]; exact ⟨h4, h5⟩
              have hms : Hid (opn j x c3 + (if more then 1 else 0) < opn j x c1 + 1) := by
                show _ < _
                cases more with
                | true => have := hM.out rfl; simp; omega
                | false => rw [(hL.out rfl).1]; simp
              clear hM hL
              go_wp2_with fail
              have hgk := hgk.out
              have hms := hms.out
              go_roundg (opn j x c3 + (if more then 1 else 0))
              case measure => simp at hgk; omega
              case rel => exact ⟨more, g, kp, c3, rfl, rfl, hP, hB, hS, hL8.out⟩
end Go.Proofs.Ytkklcfaghnfleaa
