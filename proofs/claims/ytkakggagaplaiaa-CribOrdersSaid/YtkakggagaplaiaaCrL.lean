/- The walk of gameroomkeep.CribOrders; conditions: the numbers fit their kind. -/
import Derived.Test.YtkakggagaplaiaaCrO
import Derived.Test.YtkakggagaplaiaaCrW
import Derived.Test.YtkakggagaplaiaaHnd
namespace Go.Proofs.Ytkakggagaplaiaa
open Go.RowKit

theorem lit29 : show5 ([12, 13, 15, 38] ++ [14]) false = 29 := by decide +kernel
theorem IntsIn.four {w : World} {p : Option Addr} {O : List Nat} (h : IntsIn w p 5 (asI O)) (q : Option Addr) (hq : q = p) : IntsIn w q 4 (asI (O.take 4)) := by
  have h1 := h.part 0 4 (by omega) (by omega) q (fun _ => by
    rw [hq]
    cases p with
    | none => rfl
    | some a => simp [Addr.add])
  have e : ((asI O).take 4).drop 0 = asI (O.take 4) := by unfold asI; rw [List.drop_zero, List.map_take]
  rw [e] at h1
  exact h1
theorem five_split {O : List Nat} (h : O.length = 5) : O.take 4 ++ [st O 4] = O := by
  have := take_snoc O 4 (by omega)
  rw [List.take_of_length_le (by omega)] at this
  exact this.symm
set_option maxRecDepth 100000 in
set_option maxHeartbeats 16000000 in
theorem orders_any (p : Option Addr) (nr c0 : Nat) (zs : List Int) (za : Int) (w : World) (hr : nr ≤ 9223372036854775807) (hx : IntsIn w p nr zs) (hz : ∀ j, j < nr → -9223372036854775808 ≤ zs[j]?.getD 0 ∧ zs[j]?.getD 0 ≤ 9223372036854775807)
    (ha : -9223372036854775808 ≤ za ∧ za ≤ 9223372036854775807) :
    Calls Try.prog 8 #[.slice p nr c0, .int .i64 za] w fun e w' => e = .returned (.bool true) ∧ Below w.heap.size w w' := by
  have HH := Lib.hid (hand_any p nr c0 5 zs w (by omega) hr hx hz)
  have PA := Lib.hid (fun W => picked_any za 24 W ha.1 ha.2 (by omega) (by omega) 24 rfl)
  have lx : pick za 24 < fac 4 := pick_lt za 24 (by omega)
  clear hx hz ha
  generalize pick za 24 = x at *
  go_enter Try.func8, Try.ntmps8
  go_wp2_with fail
  refine HH.out.mono ?_
  rintro e w1 ⟨q, co, O, rfl, hO, hl, hd, h52, hB1⟩
  have hcap := OwnC.cap (k := 1) hO
  have hx1 := hO.in
  clear hO HH
  obtain ⟨bb, oo, rfl, hbb, hcc⟩ := hx1.at (by omega)
  have hspl := five_split hl
  obtain ⟨Q, hQ⟩ : ∃ Q, O.take 4 = Q := ⟨_, rfl⟩
  obtain ⟨s, hs⟩ : ∃ s, st O 4 = s := ⟨_, rfl⟩
  rw [hQ, hs] at hspl
  have hQl : Q.length = 4 := by rw [← hQ]; simp [hl]
  have h4 : IntsIn w1 (some ⟨bb, oo, none⟩) 4 (asI Q) := by rw [← hQ]; exact hx1.four _ rfl
  have hcell : Hid (∀ j, j < 5 → w1.cell? ⟨bb, oo + j, none⟩ = some (.int .i64 (st O j : Nat))) := fun j hj => by rw [hcc j hj, asI_at]
  have c4 : w1.cell? ⟨bb, oo + 4, none⟩ = some (.int .i64 (s : Nat)) := by rw [← hs]; exact hcell.out 4 (by omega)
  have hQ52 : ∀ y ∈ Q ++ [s], y < 52 := by rw [hspl]; exact h52
  have hQd : (Q ++ [s]).Nodup := by rw [hspl]; exact hd
  have b29 := show_29 hQl hQ52 hQd
  have bcr := show_crib (Q ++ [s])
  have hlow4 : bb < w1.heap.size := hbb
  have HS0 : Hid (∀ k, Calls Try.prog 26 #[.slice (some ⟨bb, oo, none⟩) 4 co, .int .i64 (s : Nat), .bool false] (w1.drewN k) fun e w' => e = .returned (.tuple #[.int .i64 (show5 (Q ++ [s]) false : Nat), .int .i64 0]) ∧ Below (w1.drewN k).heap.size (w1.drewN k) w') := fun k => Show_any _ co s false Q (w1.drewN k) (h4.drewN k) hQ52 hQd
  have HS1 : Hid (∀ W, Below w1.heap.size w1 W → Calls Try.prog 26 #[.slice (some ⟨bb, oo, none⟩) 4 co, .int .i64 (s : Nat), .bool true] W fun e w' => e = .returned (.tuple #[.int .i64 (show5 (Q ++ [s]) true : Nat), .int .i64 0]) ∧ Below W.heap.size W w') := fun W hW => Show_any _ co s true Q W (h4.below hW) hQ52 hQd
  have hper : Hid (∀ K : List Nat, K.Perm Q → (∀ y ∈ K ++ [s], y < 52) ∧ (K ++ [s]).Nodup ∧ show5 (K ++ [s]) false = show5 (Q ++ [s]) false) := fun K hK => by
    have hp := hK.append_right [s]
    exact ⟨fun y hy => hQ52 y (hp.mem_iff.1 hy), (hp.nodup_iff).2 hQd, show_perm (by rw [hK.length_eq]; exact hQl) hK⟩
  have hQst : Hid (∀ j, j < 4 → st O j = st Q j) := fun j hj => by
    rw [← hQ]; unfold st; rw [List.getElem?_take_of_lt hj]
  replace hx1 := Lib.hid hx1; replace hB1 := Lib.hid hB1; replace h4 := Lib.hid h4; replace hQ52 := Lib.hid hQ52; replace hQd := Lib.hid hQd; replace hd := Lib.hid hd; replace h52 := Lib.hid h52; replace hspl := Lib.hid hspl; replace hQ := Lib.hid hQ; replace hs := Lib.hid hs; replace hl := Lib.hid hl
  clear hcc
  generalize hV0 : show5 (Q ++ [s]) false = V0 at *
  generalize hV1 : show5 (Q ++ [s]) true = V1 at *
  replace hV0 := Lib.hid hV0; replace hV1 := Lib.hid hV1
  have i1 : (4 : Int) ≤ (co : Int) := by omega
  go_upto_region 2 with fail
  go_cut [6, 7] (fun v e wx => v = .int .i64 (V0 : Nat) ∧ e = .int .i64 0 ∧ Below w1.heap.size w1 wx)
  case first =>
    go_region_law (go_simp; refine (HS0.out 1).mono ?_; rintro e w5 ⟨rfl, hB5⟩; replace hB5 := Lib.hid hB5)
    all_goals
      go_wp2_with fail
      go_meet
      exact ⟨rfl, rfl, (below_drewN (Below.refl w1.heap.size w1) 1).trans hB5.out⟩
  case rest =>
    obtain ⟨rfl, rfl, hB2⟩ := hcut
    obtain ⟨W2, rfl⟩ : ∃ W2 : World, W2 = wc := ⟨_, rfl⟩
    have c4' : W2.cell? ⟨bb, oo + 4, none⟩ = some (.int .i64 (s : Nat)) := (hB2.cell (p := ⟨bb, oo + 4, none⟩) hlow4).trans c4
    have HS2 := Lib.hid (HS1.out (W2.drewN 1) (below_drewN hB2 1))
    replace hB2 := Lib.hid hB2
    clear HS0 c4
    go_upto_region 3 with fail
    go_cut [8, 9] (fun v e wx => v = .int .i64 (V1 : Nat) ∧ e = .int .i64 0 ∧ Below W2.heap.size W2 wx)
    case first =>
      go_region_law (go_simp; refine HS2.out.mono ?_; rintro e w5 ⟨rfl, hB5⟩; replace hB5 := Lib.hid hB5)
      all_goals
        go_wp2_with fail
        go_meet
        exact ⟨rfl, rfl, (below_drewN (Below.refl W2.heap.size W2) 1).trans hB5.out⟩
    case rest =>
      obtain ⟨rfl, rfl, hB3⟩ := hcut
      obtain ⟨W3, rfl⟩ : ∃ W3 : World, W3 = wc := ⟨_, rfl⟩
      have hB13 := Lib.hid (hB2.out.trans (hB3.mono hB2.out.size))
      clear HS2 HS1 c4' hB3 hB2
      have HN := Lib.hid (nth_any 4 x W3 (by omega) (by omega) lx)
      have ho : Hid (IsOrd 4 (nth 4 x)) := nth_ord lx
      generalize nth 4 x = o at *
      replace lx := Lib.hid lx
      go_wp2_with fail
      refine (PA.out _).mono ?_
      rintro e w' ⟨rfl, rfl⟩
      go_wp2_with fail
      refine HN.out.mono ?_
      rintro e w4 ⟨qo, c4, rfl, hOo, hB4⟩
      obtain ⟨bo, oo2, rfl, hbo, hco0⟩ := hOo.in.at (by omega)
      have hco : Hid (∀ i, i < 4 → w4.cell? ⟨bo, oo2 + i, none⟩ = some (.int .i64 (st o i : Nat))) := fun i hi => by rw [hco0 i hi, asI_at]
      clear hco0
      have hB14 := Lib.hid (hB13.out.trans (hB4.mono hB13.out.size))
      clear HN PA hOo hB4 hB13
      have z0 : decide ((V0 : Int) < 0) = false := decide_eq_false (by omega)
      have z1 : decide ((29 : Int) < (V0 : Int)) = false := decide_eq_false (by omega)
      have z2 : decide ((V0 : Int) < (V1 : Int)) = false := decide_eq_false (by omega)
      have z3 : decide (V0 < V1) = false := decide_eq_false (by omega)
      have z4 : decide (29 < V0) = false := decide_eq_false (by omega)
      replace b29 := Lib.hid b29; replace bcr := Lib.hid bcr
      have hol : Hid (o.length = 4) := ho.out.len
      have hK : Hid ((o.map (st Q)).Perm Q) := by
        have h1 := ho.out.map (st Q)
        rw [map_range hQl] at h1
        exact h1
      have hw1 : w1.heap.size ≤ w4.heap.size := hB14.out.size
      go_wp2_with fail
      go_loopg [12, 13] 4 (fun gk tv iv W' => ∃ (i m c' : Nat) (q : Option Addr), i ≤ 4 ∧ gk = 4 - i ∧ iv = .int .i64 i ∧ tv = .slice q m c' ∧ Hid (m = i) ∧ Own 3 w4.heap.size W' q m c' (asI ((o.take i).map (st Q))) ∧ Below w4.heap.size w4 W')
      case atStart => exact ⟨0, 0, 0, none, by omega, by omega, rfl, rfl, Lib.hid rfl, by simpa [asI] using Own.nil _ _ _, Below.refl _ _⟩
      case round =>
        obtain ⟨i, m, c', q, hi, hgk, rfl, rfl, hm, hO, hB⟩ := hrel
        obtain ⟨W5, rfl⟩ : ∃ W5 : World, W5 = wr := ⟨_, rfl⟩
        replace hgk := Lib.hid hgk
        have hB5 := hB14.out.trans (hB.mono hw1)
        by_cases hlt : i < 4
        · have e0 : W5.cell? ⟨bo, oo2 + i, none⟩ = some (.int .i64 (st o i : Nat)) := (hB.cell (p := ⟨bo, oo2 + i, none⟩) hbo).trans (hco.out i hlt)
          have hoi := ho.out.st_lt hlt
          have e1 : W5.cell? ⟨bb, oo + st o i, none⟩ = some (.int .i64 (st Q (st o i) : Nat)) := by
            rw [← hQst.out _ hoi]
            exact (hB5.cell (p := ⟨bb, oo + st o i, none⟩) hlow4).trans (hcell.out _ (by omega))
          have hstep : Hid (asI ((o.take (i + 1)).map (st Q)) = asI ((o.take i).map (st Q)) ++ [((st Q (st o i) : Nat) : Int)]) := by
            show _ = _
            rw [take_snoc o i (by rw [hol.out]; exact hlt)]
            simp [asI]
          generalize st Q (st o i) = v at *
          generalize st o i = u at *
          have hm2 : m < 1000 := by have := hm.out; omega
          have hqb := Lib.hid hO.rowb
          have hBs := Lib.hid hB.size
          have j1 : (u : Int) < 5 := by omega
          have j2 : (0 : Int) ≤ (u : Int) := by omega
          replace hO := Lib.hid hO; replace hB := Lib.hid hB; replace hB5 := Lib.hid hB5
          go_wp2_with (at_builtin; refine wp_append1 intG W5 rfl _ _ rfl w4.heap.size q m c' _ rfl hO.out (v : Int) rfl (by omega) hBs.out ?_; intro q2 c3 w7 hO7 hg7 _ hz7; replace hO7 := Lib.hid hO7; replace hg7 := Lib.hid hg7)
          have hO8 : Hid (Own 3 w4.heap.size w7 q2 (m + 1) c3 (asI ((o.take (i + 1)).map (st Q)))) := by rw [hstep.out]; exact hO7.out
          have hB8 := Lib.hid (hB.out.grown hg7.out hBs.out hqb.out)
          clear hO hO7 hg7 hB hstep e0 e1 hqb
          have hgk := hgk.out
          go_roundg (4 - (i + 1))
          case measure => omega
          case rel => exact ⟨i + 1, m + 1, c3, q2, by omega, rfl, by go_num, rfl, by show _ = _; have := hm.out; omega, hO8.out, hB8.out⟩
        · obtain rfl : i = 4 := by omega
          obtain rfl : m = 4 := hm.out
          have hxk := hO.in
          rw [List.take_of_length_le (by rw [hol.out]; exact Nat.le_refl _)] at hxk
          obtain ⟨k1, k2, k3⟩ := hper.out _ hK.out
          have HS5 := Lib.hid (Show_any q c' s false _ W5 hxk k1 k2)
          rw [k3] at HS5
          have e4 : W5.cell? ⟨bb, oo + 4, none⟩ = some (.int .i64 (s : Nat)) := by
            rw [← hs.out]
            exact (hB5.cell (p := ⟨bb, oo + 4, none⟩) hlow4).trans (hcell.out 4 (by omega))
          have hBw := Lib.hid (hB1.out.trans (hB5.mono hB1.out.size))
          clear hO hB hxk k1 k2 k3 hB5
          go_wp2_with fail
          refine HS5.out.mono ?_
          rintro e w6 ⟨rfl, hB6⟩
          have hB7 := Lib.hid (hBw.out.trans (hB6.mono hBw.out.size))
          clear HS5 hB6 hBw e4
          have hB8 := Lib.hid (hB7.out.alloc hB7.out.size (.cells #[.int .i64 12, .int .i64 13, .int .i64 15, .int .i64 38] 3))
          have hN8 : Nums (w6.alloc (.cells #[.int .i64 12, .int .i64 13, .int .i64 15, .int .i64 38] 3)) w6.heap.size 3 (asI [12, 13, 15, 38]) := heap_alloc_new w6 _
          have HL := Lib.hid (Show_any (some ⟨w6.heap.size, 0, none⟩) 4 14 false [12, 13, 15, 38] _ (hN8.in rfl) (by decide) (by decide))
          rw [lit29] at HL
          replace HL : Hid (Calls Try.prog 26 #[.slice (some ⟨w6.heap.size, 0, none⟩) 4 4, .int .i64 14, .bool false] (w6.alloc (.cells #[.int .i64 12, .int .i64 13, .int .i64 15, .int .i64 38] 3)) fun e w' => e = .returned (.tuple #[.int .i64 29, .int .i64 0]) ∧ Below (w6.alloc (.cells #[.int .i64 12, .int .i64 13, .int .i64 15, .int .i64 38] 3)).heap.size (w6.alloc (.cells #[.int .i64 12, .int .i64 13, .int .i64 15, .int .i64 38] 3)) w') := HL
          clear hN8
          go_wp2_with fail
          refine HL.out.mono ?_
          rintro e w9 ⟨rfl, hB9⟩
          have hB10 := Lib.hid (hB8.out.trans (hB9.mono hB8.out.size))
          clear HL hB9
          go_wp2_with fail
          go_ret
          exact ⟨rfl, hB10.out⟩
end Go.Proofs.Ytkakggagaplaiaa
