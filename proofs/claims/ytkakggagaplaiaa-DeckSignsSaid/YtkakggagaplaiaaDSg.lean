/- What gameroomkeep.DeckSigns computes: true; conditions: the numbers fit their kind. -/
import Derived.Test.YtkakggagaplaiaaSgn
namespace Go.Proofs.Ytkakggagaplaiaa
open Go.RowKit

theorem ord_comp {n : Nat} {a b : List Nat} (ha : IsOrd n a) (hb : IsOrd n b) : IsOrd n (b.map (st a)) := by
  have h1 := hb.map (st a)
  rw [map_range ha.len] at h1
  exact h1.trans ha
set_option maxRecDepth 100000 in
set_option maxHeartbeats 8000000 in
theorem signs_any (z x y : Int) (w : World) (z1 : -9223372036854775808 ≤ z) (z2 : z ≤ 9223372036854775807) (x1 : -9223372036854775808 ≤ x) (x2 : x ≤ 9223372036854775807) (y1 : -9223372036854775808 ≤ y) (y2 : y ≤ 9223372036854775807) :
    Calls Try.prog 5 #[.int .i64 z, .int .i64 x, .int .i64 y] w fun e w' => e = .returned (.bool true) ∧ Below w.heap.size w w' := by
  have HZ := Lib.hid (picked_any z 8 w z1 z2 (by omega) (by omega) 8 rfl)
  have HX := Lib.hid (fun (of : Nat) W h3 h4 => picked_any x of W x1 x2 h3 h4 of rfl)
  have HY := Lib.hid (fun (of : Nat) W h3 h4 => picked_any y of W y1 y2 h3 h4 of rfl)
  have hpl := pick_lt z 8 (by omega)
  obtain ⟨n, hne⟩ : ∃ n, n = pick z 8 + 1 := ⟨_, rfl⟩
  have hn1 : 1 ≤ n := by omega
  have hn8 : n ≤ 8 := by omega
  have hnI : (1 : Int) + (pick z 8 : Nat) = (n : Int) := by rw [hne]; push_cast; omega
  generalize pick z 8 = p at *
  replace hne := Lib.hid hne
  go_enter Try.func5, Try.ntmps5
  go_wp2_with fail
  refine HZ.out.mono ?_
  rintro e w' ⟨rfl, rfl⟩
  go_wp2_with fail
  clear HZ hnI
  replace hpl := Lib.hid hpl
  go_loopg [8, 9] (n - 1) (fun gk av iv W' => ∃ j A : Nat, 1 ≤ j ∧ j ≤ n ∧ gk = n - j ∧ iv = .int .i64 ((j + 1 : Nat) : Int) ∧ av = .int .i64 A ∧ Hid (A = fac j) ∧ w = W')
  case atStart => exact ⟨1, 1, by omega, hn1, by omega, rfl, rfl, Lib.hid rfl, rfl⟩
  case round =>
    obtain ⟨j, A, hj1, hj, hgk, rfl, rfl, hA, rfl⟩ := hrel
    replace hgk := Lib.hid hgk
    by_cases hlt : j < n
    · have hb := fac_bd (n := j + 1) (by omega)
      have hA2 : Hid (A * (j + 1) = fac (j + 1)) := by show _ = _; rw [hA.out]; rfl
      rw [← hA2.out] at hb
      obtain ⟨A2, hA3⟩ : ∃ A2, A * (j + 1) = A2 := ⟨_, rfl⟩
      rw [hA3] at hb hA2
      have hm : (A : Int) * ((j : Int) + 1) = (A2 : Int) := by rw [← hA3]; push_cast; rfl
      have hw : IntKind.i64.wrap (A2 : Int) = A2 := IntWalk.i64_in _ (by omega)
      replace hA3 := Lib.hid hA3
      go_wp2_with fail
      have hgk := hgk.out
      go_roundg (n - (j + 1))
      case measure => omega
      case rel => exact ⟨j + 1, A2, by omega, by omega, rfl, by go_num, rfl, hA2, rfl⟩
    · obtain rfl : j = n := by omega
      have hAb := fac_bd (n := j) (by omega)
      have hAp := fac_pos j
      rw [← hA.out] at hAb hAp
      have hX1 := Lib.hid (fun W => HX.out A W hAp (by omega))
      have hY1 := Lib.hid (fun W => HY.out A W hAp (by omega))
      have hxl := pick_lt x A hAp
      have hyl := pick_lt y A hAp
      clear HX HY
      generalize pick x A = kx at *
      generalize pick y A = ky at *
      rw [hA.out] at hxl hyl
      have HNx := Lib.hid (fun W => nth_any j kx W hn1 (by omega) hxl)
      have HNy := Lib.hid (fun W => nth_any j ky W hn1 (by omega) hyl)
      have oa : Hid (IsOrd j (nth j kx)) := nth_ord hxl
      have ob : Hid (IsOrd j (nth j ky)) := nth_ord hyl
      have hnum : Hid (numL (List.range j) 0 (nth j kx) = kx) := num_of_nth hxl
      generalize nth j kx = a at *
      generalize nth j ky = b at *
      replace hxl := Lib.hid hxl; replace hyl := Lib.hid hyl
      have hcomp := Lib.hid (sgn_comp oa.out ob.out)
      go_wp2_with fail
      refine (hX1.out _).mono ?_
      rintro e w' ⟨rfl, rfl⟩
      go_wp2_with fail
      refine (HNx.out _).mono ?_
      rintro e w1 ⟨qa, ca, rfl, hOa, hB1⟩
      have ia := Lib.hid hOa.in
      replace hB1 := Lib.hid hB1
      clear hOa HNx
      go_wp2_with fail
      refine (hY1.out _).mono ?_
      rintro e w' ⟨rfl, rfl⟩
      go_wp2_with fail
      refine (HNy.out _).mono ?_
      rintro e w2 ⟨qb, cb, rfl, hOb, hB2⟩
      have ib := Lib.hid hOb.in
      have ia2 := Lib.hid (ia.out.below hB2)
      have hBb := Lib.hid (hB1.out.trans (hB2.mono hB1.out.size))
      clear hOb HNy ia hB1 hB2
      have HNu := Lib.hid (number_any qa j ca a w2 hn1 (by omega) ia2.out oa.out)
      rw [hnum.out] at HNu
      go_wp2_with fail
      refine HNu.out.mono ?_
      rintro e w3 ⟨rfl, hB3⟩
      have ia3 := Lib.hid (ia2.out.below hB3)
      have ib3 := Lib.hid (ib.out.below hB3)
      have hBc := Lib.hid (hBb.out.trans (hB3.mono hBb.out.size))
      clear ia2 ib hBb hB3 HNu
      go_wp2_with fail
      have oc : Hid (IsOrd j (b.map (st a))) := ord_comp oa.out ob.out
      have hwl := Lib.hid hBc.out.size
      have hbl : Hid (b.length = j) := ob.out.len
      go_loopg [16, 17] j (fun gk tv iv W' => ∃ (i m c' : Nat) (q : Option Addr), i ≤ j ∧ gk = j - i ∧ iv = .int .i64 i ∧ tv = .slice q m c' ∧ Hid (m = i) ∧ Own 3 w3.heap.size W' q m c' (asI ((b.take i).map (st a))) ∧ Below w3.heap.size w3 W')
      case atStart => exact ⟨0, 0, 0, none, by omega, by omega, rfl, rfl, Lib.hid rfl, by simpa [asI] using Own.nil _ _ _, Below.refl _ _⟩
      case round =>
        obtain ⟨i, m, c', q, hi, hgk, rfl, rfl, hm, hO, hB⟩ := hrel
        obtain ⟨W1, rfl⟩ : ∃ W1 : World, W1 = wr := ⟨_, rfl⟩
        replace hgk := Lib.hid hgk
        by_cases hlt : i < j
        · obtain ⟨bb, ob2, rfl, _, hcb⟩ := (ib3.out.below hB).at (by omega)
          obtain ⟨ba, oa2, rfl, _, hca⟩ := (ia3.out.below hB).at (by omega)
          have c0 : W1.cell? ⟨bb, ob2 + i, none⟩ = some (.int .i64 (st b i : Nat)) := by rw [hcb i hlt, asI_at]
          have hbi := ob.out.st_lt hlt
          have c1 : W1.cell? ⟨ba, oa2 + st b i, none⟩ = some (.int .i64 (st a (st b i) : Nat)) := by rw [hca _ hbi, asI_at]
          have hstep : Hid (asI ((b.take (i + 1)).map (st a)) = asI ((b.take i).map (st a)) ++ [((st a (st b i) : Nat) : Int)]) := by
            show _ = _
            have : st b i = b[i]'(by rw [hbl.out]; exact hlt) := by unfold st; rw [List.getElem?_eq_getElem (by rw [hbl.out]; exact hlt)]; rfl
            rw [List.take_add_one, List.getElem?_eq_getElem (by rw [hbl.out]; exact hlt), ← this]
            simp [asI]
          clear hca hcb
          generalize st a (st b i) = v at *
          generalize st b i = u at *
          have hm2 : m < 1000 := by have := hm.out; omega
          have hqb := Lib.hid hO.rowb
          have hBs := Lib.hid hB.size
          replace hO := Lib.hid hO; replace hB := Lib.hid hB
          have z0 : decide ((u : Int) < 0) = false := decide_eq_false (by omega)
          have z3 : decide ((j : Int) ≤ (u : Int)) = false := decide_eq_false (by omega)
          go_wp2_with (at_builtin; refine wp_append1 intG W1 rfl _ _ rfl w3.heap.size q m c' _ rfl hO.out (v : Int) rfl (by omega) hBs.out ?_; intro q2 c3 w7 hO7 hg7 _ hz7; replace hO7 := Lib.hid hO7; replace hg7 := Lib.hid hg7)
          have hO8 : Hid (Own 3 w3.heap.size w7 q2 (m + 1) c3 (asI ((b.take (i + 1)).map (st a)))) := by rw [hstep.out]; exact hO7.out
          have hB8 := Lib.hid (hB.out.grown hg7.out hBs.out hqb.out)
          clear hO hO7 hg7 hB hstep c0 c1 hqb
          have hgk := hgk.out
          go_roundg (j - (i + 1))
          case measure => omega
          case rel => exact ⟨i + 1, m + 1, c3, q2, by omega, rfl, by go_num, rfl, by show _ = _; have := hm.out; omega, hO8.out, hB8.out⟩
        · obtain rfl : i = j := by omega
          obtain rfl : m = i := hm.out
          have htk : b.take m = b := List.take_of_length_le (by rw [hbl.out]; exact Nat.le_refl _)
          have ic := hO.in
          rw [htk] at ic
          have ia4 := ia3.out.below hB
          have ib4 := ib3.out.below hB
          have HA := Lib.hid (sign_any qa m ca a W1 hn1 (by omega) ia4 oa.out)
          have HB : Hid (∀ W, Below W1.heap.size W1 W → Calls Try.prog 19 #[.slice qb m cb] W fun e w' => e = .returned (.tuple #[.int .i64 (sgn b), .int .i64 0]) ∧ Below W.heap.size W w') := fun W h => sign_any qb m cb b W hn1 (by omega) (ib4.below h) ob.out
          have HC : Hid (∀ W, Below W1.heap.size W1 W → Calls Try.prog 19 #[.slice q m c'] W fun e w' => e = .returned (.tuple #[.int .i64 (sgn (b.map (st a))), .int .i64 0]) ∧ Below W.heap.size W w') := fun W h => sign_any q m c' _ W hn1 (by omega) (ic.below h) oc.out
          rw [hcomp.out] at HC
          have hBd := Lib.hid (hBc.out.trans (hB.mono hwl.out))
          have hwl2 := Lib.hid hBd.out.size
          have hpa := sgn_pm a
          have hpb := sgn_pm b
          clear ic ia4 ib4 hO hB ia3 ib3 hBc hcomp htk
          generalize sgn a = sa at *
          generalize sgn b = sb at *
          have wab : IntKind.i64.wrap (sa * sb) = sa * sb := IntWalk.i64_in _ (by rcases hpa with h | h <;> rcases hpb with h2 | h2 <;> rw [h, h2] <;> omega)
          replace hpb := Lib.hid hpb
          rcases hpa with rfl | rfl
          all_goals
            go_wp2_with fail
            refine HA.out.mono ?_
            rintro e w4 ⟨rfl, hB4⟩
            have HB1 := Lib.hid (HB.out w4 hB4)
            replace hB4 := Lib.hid hB4
            clear HA
            go_wp2_with fail
            refine HB1.out.mono ?_
            rintro e w5 ⟨rfl, hB5⟩
            have hB6 := Lib.hid (hB4.out.trans (hB5.mono hB4.out.size))
            have HC1 := Lib.hid (HC.out w5 hB6.out)
            clear HB1
            go_wp2_with fail
            refine HC1.out.mono ?_
            rintro e w6 ⟨rfl, hB7⟩
            have hB8 := Lib.hid (hBd.out.trans ((hB6.out.trans (hB7.mono hB6.out.size)).mono hwl2.out))
            clear HC1 hB7 hB6 hB5 hB4
            have wsb : IntKind.i64.wrap sb = sb := IntWalk.i64_in _ (by rcases hpb.out with h | h <;> rw [h] <;> omega)
            have wnb : IntKind.i64.wrap (-sb) = -sb := IntWalk.i64_in _ (by rcases hpb.out with h | h <;> rw [h] <;> omega)
            go_wp2_with fail
            refine (hX1.out _).mono ?_
            rintro e w' ⟨rfl, rfl⟩
            go_wp2_with fail
            go_ret
            exact ⟨rfl, hB8.out⟩
end Go.Proofs.Ytkakggagaplaiaa
