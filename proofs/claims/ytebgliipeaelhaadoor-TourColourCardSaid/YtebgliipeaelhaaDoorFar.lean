/- What tour.Far computes: how far each place is; conditions: a board of 1 to 8 by 1 to 8, a place on it, the table of leaps as the program lays it. -/
import Derived.Test.YtebgliipeaelhaaDoorQue
import Derived.Test.YtebgliipeaelhaaDoorRep
import Derived.Test.YtebgliipeaelhaaDoorFrp
import Derived.Test.YtebgliipeaelhaaDoorWlk
namespace Go.Proofs.YtebgliipeaelhaaDoor
open Go.RowKit

theorem fa_cell {w : World} {g : Nat} {t : TypeId} {l : List Int} (h : Nums w g t l) {i : Nat} (hi : i < l.length) : w.cell? ⟨g, i, none⟩ = some (.int .i64 (fa l i)) := h.cell hi

set_option maxRecDepth 100000 in
set_option maxHeartbeats 4000000 in
theorem Far_any (a b x : Nat) (w : World) (ha1 : 1 ≤ a) (ha : a ≤ 8) (hb1 : 1 ≤ b) (hb : b ≤ 8) (hL : Lps w) (hx : x < a * b) :
    Calls Tryd.prog 7 #[.int .i64 a, .int .i64 b, .int .i64 x] w fun r w' => ∃ g far, r = .returned (.tuple #[.slice (some ⟨g, 0, none⟩) (a * b) (a * b), .int .i64 0]) ∧ Nums w' g 3 far ∧ FarOk a b x far ∧ Below w.heap.size w w' := by
  have hn64 : a * b ≤ 64 := Nat.mul_le_mul ha hb
  have hB0 := (Below.refl w.heap.size w).alloc (Nat.le_refl _) (.cells #[.int .i64 (x : Int)] 3)
  have hp : IntsIn (w.alloc (.cells #[.int .i64 (x : Int)] 3)) (some ⟨w.heap.size, 0, none⟩) 1 (asI [x]) := IntsIn.new w _ 3 _ 1 _ rfl (by simp [asI]) rfl
  have H := at_any a b (some ⟨w.heap.size, 0, none⟩) 1 1 [x] (w.alloc (.cells #[.int .i64 (x : Int)] 3)) ha1 ha hb1 hb (hL.below hB0) (by omega) hp (by intro q hq; simp at hq; rw [hq]; exact hx)
  have hBI : Hid (BI a b x (a * b) ((List.replicate (a * b) (-1)).set x 0) [x]) := BI.start hx
  obtain ⟨N, hN⟩ : ∃ N, N = a * b := ⟨_, rfl⟩
  rw [← hN] at hn64 hx H hBI ⊢
  replace hN := Lib.hid hN; replace hB0 := Lib.hid hB0
  replace ha := Lib.hid ha; replace hb := Lib.hid hb
  clear hp hL ha1 hb1
  have hz1 : w.heap.size ≤ (w.alloc (.cells #[.int .i64 (x : Int)] 3)).heap.size := hB0.out.size
  go_enter Tryd.func7, Tryd.ntmps7
  go_wp2_with fail
  refine H.mono ?_
  rintro r W ⟨g, rfl, hg, hF, hB⟩
  have hB1 : Hid (Below w.heap.size w W) := hB0.out.trans ⟨hB.os, hB.tape, hB.output, hB.size, fun k hk => hB.block k (by omega)⟩
  clear hB0 hB H
  obtain ⟨W0, rfl⟩ : ∃ W0 : World, W0 = W := ⟨_, rfl⟩
  replace hF := Lib.hid hF
  have hgl : g < W0.heap.size := hF.out.1
  have R := repeat1_any W0.heap.size 1 (-1) N (W0.alloc (.cells #[.int .i64 (-1)] 3)) (by omega) (by omega) (by rw [World.cell?_alloc_new]; rfl)
  go_wp2_with fail
  refine R.mono ?_
  rintro r W1 ⟨rfl, hh1, hB2⟩
  have hG : W0.heap.size < (W0.alloc (.cells #[.int .i64 (-1)] 3)).heap.size := by simp
  have hB3 : Below W0.heap.size W0 W1 := (((Below.refl W0.heap.size W0).alloc (Nat.le_refl _) (.cells #[.int .i64 (-1)] 3))).trans (hB2.mono (by omega))
  obtain ⟨G, hGe⟩ : ∃ G, G = (W0.alloc (.cells #[.int .i64 (-1)] 3)).heap.size := ⟨_, rfl⟩
  rw [← hGe] at hh1 hG ⊢
  have hN1 : Nums W1 G 3 (List.replicate N (-1)) := by
    have e : repL (-1) N N = (List.replicate N (-1 : Int)).map (Value.int .i64) := by unfold repL; simp
    rw [e] at hh1
    exact hh1
  have hB4 : Hid (Below G (W0.alloc (.cells #[.int .i64 (-1)] 3)) W1) := by show Below _ _ _; rw [hGe]; exact hB2
  have hfr := hN1.free x
  have hc1 := hN1.cell (i := x) (by simpa using hx)
  have hN2 := Lib.hid (hN1.set x 0)
  have hz3 : G < W1.heap.size := hN1.lt
  clear hN1 hh1 hB2 R
  replace hGe := Lib.hid hGe; replace hB3 := Lib.hid hB3
  go_wp2_with fail
  have hQ0 : Hid (QV (G + 1) ((W1.setCell ⟨G, x, none⟩ (.int .i64 0)).alloc (.cells #[.int .i64 (x : Int)] 3)) (some ⟨W1.heap.size, 0, none⟩) 1 1 (asI [x])) := by
    refine QV.new (by omega) ?_
    have h := heap_alloc_new (W1.setCell ⟨G, x, none⟩ (.int .i64 0)) (.cells #[.int .i64 (x : Int)] 3)
    rw [show (W1.setCell ⟨G, x, none⟩ (.int .i64 0)).heap.size = W1.heap.size by simp [World.setCell]] at h
    exact h
  have hN3 : Hid (Nums ((W1.setCell ⟨G, x, none⟩ (.int .i64 0)).alloc (.cells #[.int .i64 (x : Int)] 3)) G 3 ((List.replicate N (-1)).set x 0)) := hN2.out.alloc _
  have hB5 : Hid (Below W0.heap.size W0 ((W1.setCell ⟨G, x, none⟩ (.int .i64 0)).alloc (.cells #[.int .i64 (x : Int)] 3))) := (hB3.out.setCell (p := ⟨G, x, none⟩) (by show W0.heap.size ≤ G; omega) _).alloc (by simp [World.setCell]; omega) _
  clear hN2 hB3 hfr hc1 hB4 hGe
  generalize (W1.setCell ⟨G, x, none⟩ (.int .i64 0)).alloc (.cells #[.int .i64 (x : Int)] 3) = W2 at *
  go_loopg [11] N (fun gk qv W' => ∃ (m : Nat) (far : List Int) (Q : List Nat) (qp : Option Addr) (n cap : Nat), gk = m ∧ qv = .slice qp n cap ∧ Nums W' G 3 far ∧ QV (G + 1) W' qp n cap (asI Q) ∧ BI a b x m far Q ∧ Below W0.heap.size W0 W')
  case atStart => exact ⟨N, _, [x], _, 1, 1, rfl, rfl, hN3.out, hQ0.out, hBI.out, hB5.out⟩
  case round =>
    obtain ⟨m, far, Q, qp, n, cap, hgk, rfl, hN4, hQ4, hBJ, hB6⟩ := hrel
    obtain ⟨W3, rfl⟩ : ∃ W3 : World, W3 = wr := ⟨_, rfl⟩
    clear hQ0 hN3 hB5 hBI
    have hQl := hQ4.len
    rw [asI_len] at hQl
    cases Q with
    | nil =>
      obtain rfl : n = 0 := hQl.symm
      have hB7 : Hid (Below w.heap.size w W3) := hB1.out.trans (hB6.mono hB1.out.size)
      have hov := Lib.hid hBJ.over
      replace hN4 := Lib.hid hN4
      clear hQ4 hBJ hB6 hQl
      go_wp2_with fail
      go_ret2
      exact ⟨G, far, rfl, hN4.out, hov.out, hB7.out⟩
    | cons p T =>
      have hJ := hBJ.open
      have hm1 := hBJ.mea
      have hcapm := hJ.cap
      obtain ⟨hp1, hp2⟩ := hJ.inQ p (by simp)
      clear hBJ
      rw [show (a : Int) * (b : Int) = (N : Int) by rw [hN.out]; push_cast; rfl] at hcapm
      rw [← hN.out] at hp1
      simp only [List.length_cons] at hm1 hQl
      have hm64 : m ≤ 64 := by omega
      have hn64' : n ≤ 64 := by omega
      have hn0 : 0 < n := by omega
      obtain ⟨qg, qo, qcur, rfl, hqB, hqh, hqs, hqc, hqcell⟩ := hQ4.2 (by omega)
      have hq0 : W3.cell? ⟨qg, qo, none⟩ = some (.int .i64 (p : Int)) := by
        have h := hqcell 0 hn0
        rw [asI_at] at h
        rw [cell_of_row W3 qg qo _ 3 (0, 0) hqh]
        exact h
      obtain ⟨rp, c, f0, f2, f3⟩ := hF.out.2 p (by rw [← hN.out]; exact hp1)
      have f1 := (hB6.cell (p := ⟨g, p, none⟩) hgl).trans f0
      obtain ⟨qs, hqse⟩ : ∃ qs, qs = nb a b p := ⟨_, rfl⟩
      rw [← hqse] at f1 f2 f3
      clear f0
      obtain ⟨nn, hnn⟩ : ∃ nn, nn = qs.length := ⟨_, rfl⟩
      rw [← hnn] at f1 f2 f3
      have hn8 : nn ≤ 8 := by rw [hnn, hqse]; exact nb_len a b p
      have hB60 : Hid (Below W0.heap.size W0 W3) := hB6
      replace hgk := Lib.hid hgk
      replace f2 := Lib.hid f2
      replace f3 := Lib.hid f3; replace hqse := Lib.hid hqse; replace hnn := Lib.hid hnn; replace hN4 := Lib.hid hN4; replace hQ4 := Lib.hid hQ4; replace hJ := Lib.hid hJ; replace hm1 := Lib.hid hm1; replace hcapm := Lib.hid hcapm; replace hp2 := Lib.hid hp2
      clear hqcell hqh hQl hB6
      go_wp2_with fail
      go_loopg [11, 46] nn (fun gk qv iv W' => ∃ (i : Nat) (far : List Int) (T : List Nat) (qp : Option Addr) (n cap : Nat), i ≤ nn ∧ gk = nn - i ∧ iv = .int .i64 i ∧ qv = .slice qp n cap ∧ Nums W' G 3 far ∧ QV (G + 1) W' qp n cap (asI (p :: T)) ∧ BJ a b x m i far p T ∧ Below W0.heap.size W0 W')
      case atStart => exact ⟨0, far, T, _, n, cap, by omega, rfl, rfl, rfl, hN4.out, hQ4.out, hJ.out, hB60.out⟩
      case round =>
        clear hJ hQ4 hN4 hB60 f1 hq0 hqs hqc hqB hn64' hn0
        obtain ⟨i, far, T, qp, n, cap, hi, hgk2, rfl, rfl, hN5, hQ5, hJ, hB7⟩ := hrel
        obtain ⟨W4, rfl⟩ : ∃ W4 : World, W4 = wr := ⟨_, rfl⟩
        replace hgk2 := Lib.hid hgk2
        have hQl := hQ5.len
        rw [asI_len, List.length_cons] at hQl
        by_cases hlt : i < nn
        · obtain ⟨bb, o, rfl, _, hcc⟩ := (f2.out.below (hB7.mono (Nat.le_refl _))).at (by omega)
          have hq := hcc i hlt
          rw [asI_at] at hq
          clear hcc
          have hiq : i < (nb a b p).length := by rw [← hqse.out, ← hnn.out]; exact hlt
          have hqN : st qs i < N := by
            rw [hqse.out, hN.out]; unfold st; rw [List.getElem?_eq_getElem hiq]; exact nb_lt 8 (List.getElem_mem hiq)
          obtain ⟨q, hqe⟩ : ∃ q, q = st qs i := ⟨_, rfl⟩
          have hlen := hJ.len
          have hqe2 : st (nb a b p) i = q := by rw [hqe, hqse.out]
          rw [← hqe] at hq hqN
          have d1 := fa_cell hN5 (i := q) (by rw [hlen, ← hN.out]; exact hqN)
          have d2 := hN5.free q
          have d3 := fa_cell hN5 (i := p) (by rw [hlen, ← hN.out]; exact hp1)
          have hcap2 := hJ.cap
          have hpp := (hJ.inQ p (by simp)).2
          rw [show (a : Int) * (b : Int) = (N : Int) by rw [hN.out]; push_cast; rfl] at hcap2
          by_cases hu : fa far q < 0
          · have hnew := hJ.new ha.out hb.out hiq (by rw [hqe2]; exact hu)
            rw [hqe2] at hnew
            obtain ⟨u, hue⟩ : ∃ u, u = fa far q := ⟨_, rfl⟩
            obtain ⟨v, hve⟩ : ∃ v, v = fa far p := ⟨_, rfl⟩
            rw [← hue] at d1 hu; rw [← hve] at d3 hcap2 hpp hnew
            have hv64 : v ≤ 64 := by omega
            have hNx := Lib.hid (hN5.set q (v + 1))
            obtain ⟨qg, qo, qcur, rfl, hqB, hqh, hqs, hqc, hqcell⟩ := hQ5.2 (by omega)
            have hq0 : W4.cell? ⟨qg, qo, none⟩ = some (.int .i64 (p : Int)) := by
              have h := hqcell 0 (by omega)
              rw [asI_at] at h
              rw [cell_of_row W4 qg qo _ 3 (0, 0) hqh]
              exact h
            have hQx : Hid (QV (G + 1) (W4.setCell ⟨G, q, none⟩ (.int .i64 (v + 1))) (some ⟨qg, qo, none⟩) n cap (asI (p :: T))) := hQ5.keep fun k hk _ => wset_ne _ _ (by show k ≠ G; omega)
            have hBx : Hid (Below W0.heap.size W0 (W4.setCell ⟨G, q, none⟩ (.int .i64 (v + 1)))) := hB7.setCell (p := ⟨G, q, none⟩) (by show W0.heap.size ≤ G; omega) _
            have hGx : G + 1 ≤ (W4.setCell ⟨G, q, none⟩ (.int .i64 (v + 1))).heap.size := hNx.out.lt
            have hn0 : 0 < n := by omega
            have hmm := hm1.out
            have hn1 : n < 1099511627776 := by have := hJ.mea; omega
            clear hN5 hQ5 hJ hB7 hqcell hqh hqs hqc hqB
            replace hnew := Lib.hid hnew; replace hue := Lib.hid hue; replace hve := Lib.hid hve; replace hlen := Lib.hid hlen; replace hqe := Lib.hid hqe; replace hqe2 := Lib.hid hqe2
            have hgn : Hid (W4.heap.size = (W4.setCell ⟨G, q, none⟩ (.int .i64 (v + 1))).heap.size) := by show _ = _; simp [World.setCell]
            have hW0G : Hid (W0.heap.size ≤ G) := Nat.le_of_lt hG
            go_wp2_with (at_builtin; go_loud (refine wp_appendQ (W4.setCell ⟨G, q, none⟩ (.int .i64 (v + 1))) rfl _ _ rfl (G + 1) _ n cap _ rfl hQx.out (q : Int) W4.heap.size hgn rfl hn0 hn1 hGx ?_); intro p6 c6 w6 hQ7 hb6 hz6)
            have hN7 : Hid (Nums w6 G 3 (far.set q (v + 1))) := hNx.out.below hb6 (by omega)
            have hB8 : Hid (Below W0.heap.size W0 w6) := hBx.out.trans (hb6.mono (by have := hW0G.out; omega))
            have hQ8 : Hid (QV (G + 1) w6 p6 (n + 1) c6 (asI (p :: (T ++ [q])))) := by
              rw [show asI (p :: (T ++ [q])) = asI (p :: T) ++ [(q : Int)] by simp [asI]]; exact hQ7
            clear hQ7 hb6 hz6 hBx hQx hNx hGx
            go_wp2_with fail
            have hgk2 := hgk2.out
            go_roundg (nn - (i + 1))
            case measure => omega
            case rel => exact ⟨i + 1, _, T ++ [q], p6, n + 1, c6, by omega, rfl, by go_num, rfl, hN7.out, hQ8.out, hnew.out, hB8.out⟩
          · have hold := hJ.old hiq (by rw [hqe2]; omega)
            obtain ⟨u, hue⟩ : ∃ u, u = fa far q := ⟨_, rfl⟩
            rw [← hue] at d1 hu
            clear hJ d3 hcap2 hpp hqe hqe2
            replace hue := Lib.hid hue; replace hold := Lib.hid hold; replace hN5 := Lib.hid hN5; replace hQ5 := Lib.hid hQ5; replace hB7 := Lib.hid hB7; replace hlen := Lib.hid hlen
            go_wp2_with fail
            have hgk2 := hgk2.out
            go_roundg (nn - (i + 1))
            case measure => omega
            case rel => exact ⟨i + 1, far, T, _, n, cap, by omega, rfl, by go_num, rfl, hN5.out, hQ5.out, hold.out, hB7.out⟩
        · obtain rfl : i = nn := by omega
          have hcl : Hid (BI a b x (m - 1) far T) := by
            have h : BJ a b x m (nb a b p).length far p T := by rw [← hqse.out, ← hnn.out]; exact hJ
            exact h.close
          obtain ⟨p', hsl, hQ6⟩ := hQ5.pop
          have hn0 : 0 < n := by omega
          have hn1 : n ≤ 64 := by have := hJ.mea; omega
          have hm0 : Hid (0 < m) := by have := hJ.mea; show _ < _; omega
          obtain ⟨qg, qo, qcur, rfl, hqB, hqh, hqs, hqc, hqcell⟩ := hQ5.2 (by omega)
          replace hN5 := Lib.hid hN5; replace hB7 := Lib.hid hB7; replace hQ6 := Lib.hid hQ6
          clear hJ hQ5 hqh hqcell hqs hqB
          by_cases hc1 : cap = 1
          · have hpe : p' = some ⟨qg, qo, none⟩ := by simp [sliced, hc1] at hsl; exact hsl.symm
            subst hpe
            subst hc1
            clear hsl
            obtain rfl : n = 1 := by omega
            go_wp2_with fail
            have hgk := hgk.out
            go_roundg (m - 1)
            case measure => have := hm0.out; omega
            case rel => exact ⟨m - 1, far, T, _, _, _, rfl, rfl, hN5.out, hQ6.out, hcl.out, hB7.out⟩
          · have hpe : p' = some ⟨qg, qo + 1, none⟩ := by simp [sliced, hc1, Addr.add] at hsl; exact hsl.symm
            subst hpe
            clear hsl
            go_wp2_with fail
            have hgk := hgk.out
            go_roundg (m - 1)
            case measure => have := hm0.out; omega
            case rel => exact ⟨m - 1, far, T, _, _, _, rfl, rfl, hN5.out, hQ6.out, hcl.out, hB7.out⟩
end Go.Proofs.YtebgliipeaelhaaDoor
