/- What tour.newField computes: the field; conditions: a board of 1 to 8 by 1 to 8, the table of leaps as the program lays it. -/
import Derived.Test.YtebgliipeaelhaaDoorNfd
namespace Go.Proofs.YtebgliipeaelhaaDoor
open Go.RowKit

theorem rowT : IntT Tryd.prog 26 3 := ⟨Tryd.underlying26, by kernel_rfl⟩
theorem run_mks (n : Nat) (hn : n ≤ 1000) (w : World) : (Instr.makeSlice 35 (.int .i64 (n : Int)) (.int .i64 (n : Int))).run Tryd.prog w = .ok (.slice (some ⟨w.heap.size, 0, none⟩) n n) (w.alloc (.cells (Array.replicate n (.slice none 0 0)) 26)) := by
  obtain ⟨i0, hi, hz0, hz1, hz2⟩ := info_parts slT.info
  have hrun := run_make (P := Tryd.prog) w 35 26 i0 (.slice none 0 0) slT.under hi hz0 .i64 .i64 n n (by omega) (by omega) (by rw [hz2]; omega) (by omega)
  simp only [Int.toNat_natCast] at hrun
  rw [hrun]
  congr 3
  simp only [madeCells, Value.cells, hz1, Nat.mul_one]
  apply Array.ext
  · simp
  · intro i h1 h2
    simp [Nat.mod_one]

set_option maxRecDepth 100000 in
set_option maxHeartbeats 8000000 in
theorem newField_any (a b : Nat) (w : World) (ha1 : 1 ≤ a) (ha : a ≤ 8) (hb1 : 1 ≤ b) (hb : b ≤ 8) (hL : Lps w) :
    Calls Tryd.prog 21 #[.int .i64 a, .int .i64 b] w fun r w' => ∃ g, r = .returned (.tuple #[.slice (some ⟨g, 0, none⟩) (a * b) (a * b), .int .i64 0]) ∧ w.heap.size ≤ g ∧ FieldIn w' g a b ∧ Below w.heap.size w w' := by
  have hn64 : a * b ≤ 64 := Nat.mul_le_mul ha hb
  obtain ⟨n, hn⟩ : ∃ n, n = a * b := ⟨_, rfl⟩
  have hni : (a : Int) * (b : Int) = (n : Int) := by rw [hn]; push_cast; rfl
  rw [← hn] at hn64 ⊢
  have hmk := run_mks n (by omega) w
  have e0 := heap_alloc_new w (.cells (Array.replicate n (.slice none 0 0)) 26)
  have hB0 := Lib.hid ((Below.refl w.heap.size w).alloc (Nat.le_refl _) (.cells (Array.replicate n (.slice none 0 0)) 26))
  have hL0 := Lib.hid (hL.below ((Below.refl w.heap.size w).alloc (Nat.le_refl _) (.cells (Array.replicate n (.slice none 0 0)) 26)))
  have hmin : ¬ (min (a : Int) (b : Int) < 1) := by omega
  have hmax : ¬ (max (a : Int) (b : Int) > 8) := by omega
  have hLw := Lib.hid hL
  replace hn := Lib.hid hn
  clear hL
  go_enter Tryd.func21, Tryd.ntmps21
  go_wp2_with fail
  generalize w.alloc (.cells (Array.replicate n (.slice none 0 0)) 26) = W0 at *
  clear hmk
  replace e0 := Lib.hid e0
  go_loopg [30] n (fun gk jv W' => ∃ (j : Nat) (vs : List Value), j ≤ n ∧ gk = n - j ∧ jv = .int .i64 j ∧ vs.length = n ∧ W'.heap[w.heap.size]? = some (.cells vs.toArray 26 (0, 0)) ∧ FRows W' w.heap.size vs a b j ∧ (∀ p, j ≤ p → p < n → vs[p]? = some (.slice none 0 0)) ∧ Below w.heap.size w W')
  case atStart => exact ⟨0, List.replicate n (.slice none 0 0), by omega, by omega, rfl, by simp, by rw [e0.out]; simp, fun p hp => absurd hp (by omega), fun p _ hp => by simp [hp], hB0.out⟩
  case round =>
    obtain ⟨j, vs, hj, hgk, rfl, hvl, hbx, hF, hno, hBr⟩ := hrel
    obtain ⟨W1, rfl⟩ : ∃ W1 : World, W1 = wr := ⟨_, rfl⟩
    replace hgk := Lib.hid hgk
    by_cases hlt : j < n
    · have hg1 : w.heap.size < W1.heap.size := lt_of_heap hbx
      have hvj := hno j (Nat.le_refl _) hlt
      have hx1 : j % a < a := Nat.mod_lt _ ha1
      have hy1 : j / a < b := by
        rw [Nat.div_lt_iff_lt_mul ha1, Nat.mul_comm b a, ← hn.out]; exact hlt
      obtain ⟨x, hx⟩ : ∃ x, x = j % a := ⟨_, rfl⟩
      obtain ⟨y, hy⟩ : ∃ y, y = j / a := ⟨_, rfl⟩
      have hr1 : (j : Int).tmod (a : Int) = (x : Int) := by rw [Int.tmod_eq_emod_of_nonneg (by omega), hx]; exact (Int.natCast_emod j a).symm
      have hr2 : (j : Int) / (a : Int) = (y : Int) := by rw [hy]; exact (Int.natCast_ediv j a).symm
      have hr3 : (j : Int) % (a : Int) = (x : Int) := by rw [hx]; exact (Int.natCast_emod j a).symm
      rw [← hx] at hx1; rw [← hy] at hy1
      have w1 : IntKind.i64.wrap (x : Int) = x := IntWalk.i64_in _ (by omega)
      have w2 : IntKind.i64.wrap (y : Int) = y := IntWalk.i64_in _ (by omega)
      have ha0 : ¬ a = 0 := by omega
      replace hno := Lib.hid hno; replace hF := Lib.hid hF; replace hBr := Lib.hid hBr; replace hbx := Lib.hid hbx; replace hvl := Lib.hid hvl; replace hx := Lib.hid hx; replace hy := Lib.hid hy; replace hvj := Lib.hid hvj
      have hbd : (W1.drew).heap[w.heap.size]? = some (.cells vs.toArray 26 (0, 0)) := hbx.out
      have hFd : FRows W1.drew w.heap.size vs a b j := hF.out.grown ⟨rfl, rfl, rfl, Nat.le_refl _, fun _ _ _ => rfl⟩
      have hBd : Below w.heap.size w W1.drew := ⟨hBr.out.os, hBr.out.tape, hBr.out.output, hBr.out.size, hBr.out.block⟩
      have hgd : w.heap.size < (W1.drew).heap.size := hg1
      go_wp2_with fail
      go_region_law (fail)
      generalize W1.drew = W2 at *
      have hL2 : Lps W2 := hLw.out.below hBd
      have l0 : W2.cell? ⟨0, 0, none⟩ = some (.int .i64 (-1)) := hL2.2 0 (by omega)
      have l1 : W2.cell? ⟨0, 1, none⟩ = some (.int .i64 (-2)) := hL2.2 1 (by omega)
      have l2 : W2.cell? ⟨0, 2, none⟩ = some (.int .i64 1) := hL2.2 2 (by omega)
      have l3 : W2.cell? ⟨0, 3, none⟩ = some (.int .i64 (-2)) := hL2.2 3 (by omega)
      have l4 : W2.cell? ⟨0, 4, none⟩ = some (.int .i64 (-2)) := hL2.2 4 (by omega)
      have l5 : W2.cell? ⟨0, 5, none⟩ = some (.int .i64 (-1)) := hL2.2 5 (by omega)
      have l6 : W2.cell? ⟨0, 6, none⟩ = some (.int .i64 2) := hL2.2 6 (by omega)
      have l7 : W2.cell? ⟨0, 7, none⟩ = some (.int .i64 (-1)) := hL2.2 7 (by omega)
      have l8 : W2.cell? ⟨0, 8, none⟩ = some (.int .i64 (-2)) := hL2.2 8 (by omega)
      have l9 : W2.cell? ⟨0, 9, none⟩ = some (.int .i64 1) := hL2.2 9 (by omega)
      have l10 : W2.cell? ⟨0, 10, none⟩ = some (.int .i64 2) := hL2.2 10 (by omega)
      have l11 : W2.cell? ⟨0, 11, none⟩ = some (.int .i64 1) := hL2.2 11 (by omega)
      have l12 : W2.cell? ⟨0, 12, none⟩ = some (.int .i64 (-1)) := hL2.2 12 (by omega)
      have l13 : W2.cell? ⟨0, 13, none⟩ = some (.int .i64 2) := hL2.2 13 (by omega)
      have l14 : W2.cell? ⟨0, 14, none⟩ = some (.int .i64 1) := hL2.2 14 (by omega)
      have l15 : W2.cell? ⟨0, 15, none⟩ = some (.int .i64 2) := hL2.2 15 (by omega)
      clear hF hBr hbx hg1 hr1 hr2 hr3 w1 w2 ha0
      replace hFd := Lib.hid hFd; replace hBd := Lib.hid hBd
      replace hL2 := Lib.hid hL2
      go_wp2_with fail
      clear l0 l1 l2 l3 l4 l5 l6 l7 l8 l9 l10 l11 l12 l13 l14 l15
      have hvs0 : Hid (vs.set j (.slice none 0 0) = vs) := by
        have hjl : j < vs.length := by rw [hvl.out]; exact hlt
        have : vs[j] = .slice none 0 0 := by
          have := hvj.out
          rw [List.getElem?_eq_getElem hjl] at this
          exact Option.some.inj this
        show _ = _
        rw [← this, List.set_getElem_self]
      go_loopg [40] 8 (fun gk kv W' => ∃ (k : Nat) (rp : Option Addr) (m c : Nat), k ≤ 8 ∧ gk = 8 - k ∧ kv = .int .i64 k ∧ W'.heap[w.heap.size]? = some (.cells (vs.set j (.slice rp m c)).toArray 26 (0, 0)) ∧ Own 3 W2.heap.size W' rp m c (asI (nbN a b j k)) ∧ m ≤ k ∧ W2.grownBy W' (some w.heap.size))
      case atStart => exact ⟨0, none, 0, 0, by omega, by omega, rfl, by rw [hvs0.out]; exact hbd, Own.nil _ _ _, by omega, ⟨rfl, rfl, rfl, Nat.le_refl _, fun _ _ _ => rfl⟩⟩
      case round =>
        obtain ⟨k, rp, m, c, hk, hgk2, rfl, hbx2, hO, hm, hg2⟩ := hrel
        obtain ⟨W3, rfl⟩ : ∃ W3 : World, W3 = wr := ⟨_, rfl⟩
        replace hgk2 := Lib.hid hgk2
        by_cases hklt : k < 8
        · have hix := lxk k hklt
          obtain ⟨p1, p2, p3, p4⟩ := lp_small k hklt
          have hnk : Hid (nbN a b j (k + 1) = nbN a b j k ++ nb1 a b j k) := rfl
          have hn1 : Hid (nb1 a b j k = if 0 ≤ (x : Int) + lpx k ∧ (x : Int) + lpx k < a ∧ 0 ≤ (y : Int) + lpy k ∧ (y : Int) + lpy k < b then [(((y : Int) + lpy k) * a + ((x : Int) + lpx k)).toNat] else []) := by rw [hx.out, hy.out]; exact Lib.hid rfl
          generalize lpx k = dx at *
          generalize lpy k = dy at *
          have hjv : j < vs.length := by rw [hvl.out]; exact hlt
          have k0 : W3.cell? ⟨w.heap.size, j, none⟩ = some (.slice rp m c) := by rw [wcell hbx2 j, List.getElem?_set_self hjv]
          have f0 : W3.frozen? ⟨w.heap.size, j, none⟩ = false := wfree hbx2 j
          have hz3 : w.heap.size < W3.heap.size := lt_of_heap hbx2
          have hz23 : W2.heap.size ≤ W3.heap.size := hg2.size
          have hnei : ¬ w.heap.size = W3.heap.size := by omega
          replace hbx2 := Lib.hid hbx2; replace hO := Lib.hid hO; replace hg2 := Lib.hid hg2
          have n0 : (W3.alloc (.cells #[.int .i64 dx, .int .i64 dy] 53)).cell? ⟨W3.heap.size, 0, none⟩ = some (.int .i64 dx) := wcell (cs := [_, _]) (heap_alloc_new W3 _) 0
          have n1 : (W3.alloc (.cells #[.int .i64 dx, .int .i64 dy] 53)).cell? ⟨W3.heap.size, 1, none⟩ = some (.int .i64 dy) := wcell (cs := [_, _]) (heap_alloc_new W3 _) 1
          go_wp2_with fail
          go_quiet (fail)
          have hbX : Hid (((W3.alloc (.cells #[.int .i64 dx, .int .i64 dy] 53)).drewN nq).heap[w.heap.size]? = some (.cells (vs.set j (.slice rp m c)).toArray 26 (0, 0))) := (Below.heap_alloc W3 _ _ hz3).trans hbx2.out
          have hOX : Hid (Own 3 W2.heap.size ((W3.alloc (.cells #[.int .i64 dx, .int .i64 dy] 53)).drewN nq) rp m c (asI (nbN a b j k))) := hO.out.alloc _
          have hgX : Hid (W2.grownBy ((W3.alloc (.cells #[.int .i64 dx, .int .i64 dy] 53)).drewN nq) (some w.heap.size)) := hg2.out.trans ((World.grownBy_alloc W3 _ _).trans ⟨rfl, rfl, rfl, Nat.le_refl _, fun _ _ _ => rfl⟩)
          have hzX : W2.heap.size ≤ ((W3.alloc (.cells #[.int .i64 dx, .int .i64 dy] 53)).drewN nq).heap.size := hgX.out.size
          generalize (W3.alloc (.cells #[.int .i64 dx, .int .i64 dy] 53)).drewN nq = X at *
          have k0 : X.cell? ⟨w.heap.size, j, none⟩ = some (.slice rp m c) := by rw [wcell hbX.out j, List.getElem?_set_self hjv]
          have f0 : X.frozen? ⟨w.heap.size, j, none⟩ = false := wfree hbX.out j
          have hzX1 : w.heap.size < X.heap.size := lt_of_heap hbX.out
          clear hbx2 hO hg2 hz3 hz23 hnei n0 n1
          by_cases c1 : 0 ≤ (x : Int) + dx
          · by_cases c2 : (x : Int) + dx < a
            · by_cases c3 : 0 ≤ (y : Int) + dy
              · by_cases c4 : (y : Int) + dy < b
                · obtain ⟨p, hp⟩ : ∃ p : Nat, (x : Int) + dx = p := ⟨_, (Int.toNat_of_nonneg c1).symm⟩
                  obtain ⟨q, hq⟩ : ∃ q : Nat, (y : Int) + dy = q := ⟨_, (Int.toNat_of_nonneg c3).symm⟩
                  rw [hp, hq] at hn1 ⊢
                  rw [hp] at c1 c2; rw [hq] at c3 c4
                  have hqa : q * a ≤ 64 := Nat.mul_le_mul (show q ≤ 8 by omega) ha
                  obtain ⟨Q, hQ⟩ : ∃ Q, Q = q * a := ⟨_, rfl⟩
                  have hQi : (q : Int) * (a : Int) = (Q : Int) := by rw [hQ]; push_cast; rfl
                  rw [← hQ] at hqa
                  have hv : Hid (asI (nbN a b j k) ++ [(Q : Int) + (p : Int)] = asI (nbN a b j (k + 1))) := by
                    show _ = _
                    rw [hnk.out, hn1.out, if_pos ⟨c1, c2, c3, c4⟩, hQi, asI_app, show ((Q : Int) + (p : Int)).toNat = Q + p by omega]
                    simp [asI]
                  clear hp hq hQ
                  go_wp2_with (at_builtin; refine wp_append1 rowT X rfl (.tmp 72) (.tmp 78) rfl W2.heap.size rp m c _ rfl hOX.out ((Q : Int) + (p : Int)) rfl ?_ hzX ?_; (omega); intro p6 c6 w6 hO7 hg6 hr6 hz6; have hb6 := (hg6.block _ hzX1 (hOX.out.apart _ hgd)).trans hbX.out; have k6 : w6.cell? ⟨w.heap.size, j, none⟩ = some (.slice rp m c) := (wcell hb6 j).trans (List.getElem?_set_self hjv); have f6 : w6.frozen? ⟨w.heap.size, j, none⟩ = false := wfree hb6 j)
                  have hb7 := wset hb6 j (.slice p6 (m + 1) c6)
                  have hbe : (vs.set j (.slice rp m c)).toArray.setIfInBounds j (.slice p6 (m + 1) c6) = (vs.set j (.slice p6 (m + 1) c6)).toArray := by simp
                  rw [hbe] at hb7
                  rw [hv.out] at hO7
                  have hO8 : Own 3 W2.heap.size (w6.setCell ⟨w.heap.size, j, none⟩ (.slice p6 (m + 1) c6)) p6 (m + 1) c6 (asI (nbN a b j (k + 1))) := hO7.keep fun y hy => wset_ne _ _ (by have := (hO7.block y hy).1; show y.block ≠ w.heap.size; omega)
                  have hg8 := Lib.hid (gset (hgX.out.andThen hg6 (fun y hy => by
                    cases rp with
                    | none => cases hy
                    | some z => simp at hy; subst hy; exact .inl (hOX.out.block z rfl).1)) j (.slice p6 (m + 1) c6))
                  replace hb7 := Lib.hid hb7; replace hO8 := Lib.hid hO8
                  clear hg6 hr6 hz6 hb6 k6 f6 hO7 k0 f0
                  go_wp2_with fail
                  have hgk2 := hgk2.out
                  go_roundg (8 - (k + 1))
                  case measure => omega
                  case rel => exact ⟨k + 1, p6, m + 1, c6, by omega, rfl, by go_num, hb7.out, hO8.out, by omega, hg8.out⟩
                · have hnk1 : Hid (nbN a b j (k + 1) = nbN a b j k) := by show _ = _; rw [hnk.out, hn1.out, if_neg (by omega), List.append_nil]
                  go_wp2_with fail
                  have hgk2 := hgk2.out
                  go_roundg (8 - (k + 1))
                  case measure => omega
                  case rel => exact ⟨k + 1, rp, m, c, by omega, rfl, by go_num, hbX.out, by rw [hnk1.out]; exact hOX.out, by omega, hgX.out⟩
              · have hnk1 : Hid (nbN a b j (k + 1) = nbN a b j k) := by show _ = _; rw [hnk.out, hn1.out, if_neg (by omega), List.append_nil]
                go_wp2_with fail
                have hgk2 := hgk2.out
                go_roundg (8 - (k + 1))
                case measure => omega
                case rel => exact ⟨k + 1, rp, m, c, by omega, rfl, by go_num, hbX.out, by rw [hnk1.out]; exact hOX.out, by omega, hgX.out⟩
            · have hnk1 : Hid (nbN a b j (k + 1) = nbN a b j k) := by show _ = _; rw [hnk.out, hn1.out, if_neg (by omega), List.append_nil]
              go_wp2_with fail
              have hgk2 := hgk2.out
              go_roundg (8 - (k + 1))
              case measure => omega
              case rel => exact ⟨k + 1, rp, m, c, by omega, rfl, by go_num, hbX.out, by rw [hnk1.out]; exact hOX.out, by omega, hgX.out⟩
          · have hnk1 : Hid (nbN a b j (k + 1) = nbN a b j k) := by show _ = _; rw [hnk.out, hn1.out, if_neg (by omega), List.append_nil]
            go_wp2_with fail
            have hgk2 := hgk2.out
            go_roundg (8 - (k + 1))
            case measure => omega
            case rel => exact ⟨k + 1, rp, m, c, by omega, rfl, by go_num, hbX.out, by rw [hnk1.out]; exact hOX.out, by omega, hgX.out⟩
        · obtain rfl : k = 8 := by omega
          have hk8 : ¬ ((8 : Int) < 8) := by omega
          have hFn : FRows W3 w.heap.size (vs.set j (.slice rp m c)) a b (j + 1) := by
            have hF2 := hFd.out.grown hg2
            intro p hp
            by_cases e : p = j
            · subst e
              have hml : (nb a b p).length = m := by have := hO.len; rw [asI_len] at this; exact this
              refine ⟨rp, c, by rw [List.getElem?_set_self (by rw [hvl.out]; exact hlt), hml], by rw [hml]; exact hO.in, by rw [hml]; exact OwnC.cap (k := 1) hO, fun y hy => by have := (hO.block y hy).1; omega⟩
            · obtain ⟨r1, c1, h1, h2, h3, h4⟩ := hF2 p (by omega)
              exact ⟨r1, c1, by rw [List.getElem?_set_ne (fun h => e h.symm)]; exact h1, h2, h3, h4⟩
          have hBn := Lib.hid (hBd.out.trans (show Below w.heap.size W2 W3 from ⟨hg2.os, hg2.tape, hg2.output, hg2.size, fun k hk => hg2.block k (by omega) (by intro e; injection e with e; omega)⟩))
          have hnoN : Hid (∀ p, j + 1 ≤ p → p < n → (vs.set j (.slice rp m c))[p]? = some (.slice none 0 0)) := fun p h1 h2 => by rw [List.getElem?_set_ne (by omega)]; exact hno.out p (by omega) h2
          have hlN : Hid ((vs.set j (Value.slice rp m c)).length = n) := by show _ = _; rw [List.length_set]; exact hvl.out
          replace hFn := Lib.hid hFn; replace hbx2 := Lib.hid hbx2
          clear hO hg2
          go_wp2_with fail
          have hgk := hgk.out
          go_roundg (n - (j + 1))
          case measure => omega
          case rel => exact ⟨j + 1, _, by omega, rfl, by go_num, hlN.out, hbx2.out, hFn.out, hnoN.out, hBn.out⟩
    · obtain rfl : n = j := by omega
      have hres : Hid (FieldIn W1 w.heap.size a b) := ⟨lt_of_heap hbx, fun p hp => by
        obtain ⟨rp, c, h1, h2, h3, _⟩ := hF p (by rw [hn.out]; exact hp)
        exact ⟨rp, c, by rw [wcell hbx p]; exact h1, h2, h3⟩⟩
      replace hBr := Lib.hid hBr
      clear hbx hF hno
      go_wp2_with fail
      go_ret2
      exact ⟨w.heap.size, rfl, Nat.le_refl _, hres.out, hBr.out⟩
end Go.Proofs.YtebgliipeaelhaaDoor
