import Derived.Test.YtcibkchfdiijfaaHxMf
import Derived.Test.YtcibkchfdiijfaaHxMg0
import Derived.Test.YtcibkchfdiijfaaHxSb
import Derived.Deep.RegionLaw
import Derived.Deep.Cut
import Derived.Deep.DeepCutAuto
/- gameroomkeep.HexMore walks: the law; no conditions beyond numbers that an int holds. -/
namespace Go.Proofs.Ytcibkchfdiijfaa
open Go.RowKit Go.Shelf

set_option maxRecDepth 20000 in
set_option maxHeartbeats 4000000 in
theorem more_law (gq : Option Addr) (gl gcap : Nat) (W H : Int) (xs : List Int) (w : World) (wi ai : Int) (hl : gl ≤ 9223372036854775807) (hW1 : -9223372036854775808 ≤ W) (hW2 : W ≤ 9223372036854775807) (hH1 : -9223372036854775808 ≤ H) (hH2 : H ≤ 9223372036854775807)
    (hx : IntsIn w gq gl xs) (hw1 : -9223372036854775808 ≤ wi) (hw2 : wi ≤ 9223372036854775807) (ha1 : -9223372036854775808 ≤ ai) (ha2 : ai ≤ 9223372036854775807) :
    Calls Try.prog 3 #[.agg #[.int .i64 W, .int .i64 H, .slice gq gl gcap], .int .i64 wi, .int .i64 ai] w fun e w' => e = .returned (.bool true) ∧ Below w.heap.size w w' := by
  have hbx := heap_alloc_new w (.cells #[.int .i64 W, .int .i64 H, .slice gq gl gcap] 24)
  have hB0 : Below w.heap.size w (w.alloc (.cells #[.int .i64 W, .int .i64 H, .slice gq gl gcap] 24)) := (Below.refl _ w).alloc (Nat.le_refl _) _
  obtain ⟨w1, hww⟩ : ∃ w1 : World, w1 = w.alloc (.cells #[.int .i64 W, .int .i64 H, .slice gq gl gcap] 24) := ⟨_, rfl⟩
  rw [← hww] at hbx hB0
  have HP := Lib.hid (fun W' => picked_any wi 2 W' hw1 hw2 (by omega) (by omega) 2 rfl)
  have hpl := pick_lt wi 2 (by omega)
  obtain ⟨who, hwho⟩ : ∃ who, who = 1 + pick wi 2 := ⟨_, rfl⟩
  have hw12 : who = 1 ∨ who = 2 := by omega
  have hwc : (1 : Int) + (pick wi 2 : Nat) = (who : Int) := by rw [hwho]; push_cast; rfl
  have hwcw : IntKind.i64.wrap (who : Int) = who := IntWalk.i64_in _ (by omega)
  have HG := Lib.hid (gridr_any 2 2 w1 (by omega) (by omega) 4 rfl none 0 0 [] 0 (by omega) (by omega) (fun j hj => absurd hj (Nat.not_lt_zero j)) (IntsIn.nil _ _))
  have hz4 : rawG [] 0 4 = List.replicate 4 0 := by decide
  rw [hz4, show ((0 : Nat) : Int) = 0 from rfl, show ((2 : Nat) : Int) = 2 from rfl] at HG
  have HS0 : Hid (∀ (W2 : World) (q : Option Addr) (c : Nat), IntsIn W2 q 4 (asI (List.replicate 4 0)) → Calls Try.prog 6 #[.agg #[.int .i64 2, .int .i64 2, .slice q 4 c], .int .i64 2] W2 fun e w' => ∃ (p : Option Addr) (l cc : Nat), e = .returned (.tuple #[.int .i64 2, .slice p l cc, .int .i64 0]) ∧ 0 < l ∧ l ≤ 100 ∧ Below W2.heap.size W2 w') := fun W2 q c h => by
    have := Solve_yes 2 4 c 2 q (List.replicate 4 0) W2 rfl (by omega) (by omega) (by simp) h (fun j => by unfold st; rw [List.getElem?_replicate]; split <;> simp) (.inr rfl)
    refine this.mono ?_
    rintro e w' ⟨h, hB⟩
    rcases h with ⟨h, _⟩ | ⟨_, v, p, l, cc, rfl, hv, hl, hl1⟩
    · exact absurd h (by decide)
    · obtain rfl := more_empty hv
      exact ⟨p, l, cc, rfl, hl join_empty rfl, hl1, hB⟩
  have hBl := lt_of_heap hbx
  have hx1 := hx.below hB0
  generalize pick wi 2 = pk at *
  replace hx1 := Lib.hid hx1; replace hB0 := Lib.hid hB0; replace hwho := Lib.hid hwho; replace hz4 := Lib.hid hz4
  clear hx
  have kp : Hid (∀ W2 : World, Below w1.heap.size w1 W2 → W2.heap[w.heap.size]? = some (.cells #[.int .i64 W, .int .i64 H, .slice gq gl gcap] 24 (0, 0)) ∧ W2.cell? ⟨w.heap.size, 0, none⟩ = some (.int .i64 W) ∧ W2.cell? ⟨w.heap.size, 1, none⟩ = some (.int .i64 H) ∧ W2.cell? ⟨w.heap.size, 2, none⟩ = some (.slice gq gl gcap)) := fun W2 h => by
    have hb := (h.block _ hBl).trans hbx
    exact ⟨hb, wcell (cs := [_, _, _]) hb 0, wcell (cs := [_, _, _]) hb 1, wcell (cs := [_, _, _]) hb 2⟩
  go_enter Try.func3, Try.ntmps3
  go_upto_region 5 with (first
    | (go_at_call 8; (with_reducible refine (HP.out _).mono ?_); rintro e w' ⟨rfl, rfl⟩)
    | (go_at_call 7; rw [← hww]; replace hww := Lib.hid hww; (with_reducible refine HG.out.mono ?_); rintro e W2 ⟨q3, c3, rfl, hO3, hB2⟩; have HS1 := Lib.hid (HS0.out W2 q3 c3 hO3.in); replace hO3 := Lib.hid hO3; replace hB2 := Lib.hid hB2)
    | (go_at_call 6; (with_reducible refine HS1.out.mono ?_); rintro e W3 ⟨p9, l9, cc9, rfl, hl9, hl8, hB3⟩; have hB13 := hB2.out.trans (hB3.mono hB2.out.size); have el9 : ((l9 : Int) == 0) = false := by { simp; omega }; obtain ⟨eb, e0, e1, e2⟩ := kp.out W3 hB13; replace hB13 := Lib.hid hB13; replace hB3 := Lib.hid hB3; replace eb := Lib.hid eb))
  have hx3 := hx1.out.below hB13.out
  clear HP HG HS0 HS1
  cases hok : okH W H xs with
  | false =>
    have HS := Lib.hid (Solve_no gq gl gcap who W H xs W3 hl hW1 hW2 hH1 hH2 hx3 hw12 hok)
    clear hx3
    go_wp2_with (go_at_call 6; (with_reducible refine HS.out.mono ?_); rintro e W4 ⟨rfl, hB4⟩; replace hB4 := Lib.hid hB4)
    go_ret
    exact ⟨rfl, hB0.out.trans ((hB13.out.trans (hB4.out.mono hB13.out.size)).mono hB0.out.size)⟩
  | true =>
    obtain ⟨n, s, rfl, rfl, rfl, hn1, hn2, hsl, hs2⟩ := okH_yes hok
    obtain ⟨N, hN⟩ : ∃ N, N = n * n := ⟨_, rfl⟩
    obtain rfl : gl = N := by have := hx3.len; rw [asI_len] at this; omega
    have hN1 : 1 ≤ gl := by rw [hN]; exact Nat.mul_le_mul hn1 hn1
    have hN100 : gl ≤ 100 := by rw [hN]; exact Nat.mul_le_mul hn2 hn2
    have HY := Solve_yes n gl gcap who gq s W3 hN hn1 hn2 (by rw [hsl, hN]) hx3 hs2 hw12
    have hbd : Hid (Bd n s) := ⟨hn1, hsl, hs2⟩
    by_cases h9 : 9 < s.countP (· == 0)
    · have HS : Hid (Calls Try.prog 6 #[.agg #[.int .i64 (n : Int), .int .i64 (n : Int), .slice gq gl gcap], .int .i64 (who : Int)] W3 fun e w' => e = .returned (.tuple #[.int .i64 0, .slice none 0 0, .int .i64 2]) ∧ Below W3.heap.size W3 w') := HY.mono fun e w' h => ⟨h.1.elim (fun a => a.2) fun a => absurd a.1 (by omega), h.2⟩
      clear HY hx3
      replace h9 := Lib.hid h9; replace hN := Lib.hid hN; replace hsl := Lib.hid hsl; replace hs2 := Lib.hid hs2; replace hok := Lib.hid hok
      go_wp2_with (go_at_call 6; (with_reducible refine HS.out.mono ?_); rintro e W4 ⟨rfl, hB4⟩; replace hB4 := Lib.hid hB4)
      go_ret
      exact ⟨rfl, hB0.out.trans ((hB13.out.trans (hB4.out.mono hB13.out.size)).mono hB0.out.size)⟩
    · have h99 : Hid (s.countP (· == 0) ≤ 9) := by show _ ≤ _; omega
      have HS : Hid (Calls Try.prog 6 #[.agg #[.int .i64 (n : Int), .int .i64 (n : Int), .slice gq gl gcap], .int .i64 (who : Int)] W3 fun e w' => (∃ (v : Nat) (p : Option Addr) (l cc : Nat), e = .returned (.tuple #[.int .i64 (v : Int), .slice p l cc, .int .i64 0]) ∧ Vl n s who v) ∧ Below W3.heap.size W3 w') := HY.mono fun e w' h => ⟨h.1.elim (fun a => absurd a.1 h9) fun ⟨_, v, p, l, cc, h1, h2, _⟩ => ⟨v, p, l, cc, h1, h2⟩, h.2⟩
      have HPa := Lib.hid (fun W4 => picked_any ai gl W4 ha1 ha2 hN1 (by omega) (gl : Int) rfl)
      have hkl := pick_lt ai gl hN1
      have eN0 : ((gl : Int) == 0) = false := by simp; omega
      clear HY
      generalize pick ai gl = k at *
      replace h9 := Lib.hid h9; replace hN := Lib.hid hN; replace hsl := Lib.hid hsl; replace hs2 := Lib.hid hs2; replace hx3 := Lib.hid hx3; replace hok := Lib.hid hok
      go_upto_region 8 with (go_at_call 6; (with_reducible refine HS.out.mono ?_); rintro e W4 ⟨⟨v, p, l, cc, rfl, hv⟩, hB4⟩; obtain ⟨eb4, f0, f1, f2⟩ := kp.out W4 (hB13.out.trans (hB4.mono hB13.out.size)); replace eb4 := Lib.hid eb4; replace hv := Lib.hid hv; replace hB4 := Lib.hid hB4)
      have hBw4 : Hid (Below w.heap.size w W4) := hB0.out.trans ((hB13.out.trans (hB4.out.mono hB13.out.size)).mono hB0.out.size)
      have hv12 := hv.out.1
      clear HS
      by_cases hvw : v = who
      · have evw : ((v : Int) != (who : Int)) = false := by rw [hvw]; simp
        have hvl : Hid (Vl n s who who) := by have := hv.out; rw [hvw] at this; exact this
        replace hvw := Lib.hid hvw
        go_upto_region 11 with (go_at_call 8; (with_reducible refine (HPa.out _).mono ?_); rintro e w' ⟨rfl, rfl⟩)
        have hx4 := hx3.out.below hB4.out
        obtain ⟨bb, oo, hgq, hbb, hcc⟩ := hx4.at hN1
        have ck := hcc k hkl
        rw [asI_at] at ck
        subst hgq
        clear hcc
        obtain ⟨x, hxk⟩ : ∃ x, x = st s k := ⟨_, rfl⟩
        rw [← hxk] at ck
        replace hx4 := Lib.hid hx4
        by_cases hx0 : x = 0
        · have e0x : ((x : Int) != 0) = false := by simp; omega
          have h0 : Hid (st s k = 0) := hxk.symm.trans hx0
          replace hxk := Lib.hid hxk; replace hx0 := Lib.hid hx0
          have HC := Lib.hid (ints_any (some ⟨bb, oo, none⟩) gl gcap (asI s) W4.drew (by omega) (by omega) (hx4.out.keep (Nat.le_refl _) fun _ _ _ => rfl))
          have kp4 : Hid (∀ W6 : World, Below W4.heap.size W4 W6 → W6.cell? ⟨w.heap.size, 0, none⟩ = some (.int .i64 (n : Int)) ∧ W6.cell? ⟨w.heap.size, 1, none⟩ = some (.int .i64 (n : Int))) := fun W6 h => by
            have hb := (h.block _ (lt_of_heap eb4.out)).trans eb4.out
            exact ⟨wcell (cs := [_, _, _]) hb 0, wcell (cs := [_, _, _]) hb 1⟩
          have hBA : Below W4.heap.size W4 (W4.alloc (.cells #[.int .i64 0, .int .i64 0, .slice none 0 0] 24)).drew := ((Below.refl _ W4).alloc (Nat.le_refl _) _).drew
          have HC2 := Lib.hid (ints_any (some ⟨bb, oo, none⟩) gl gcap (asI s) (W4.alloc (.cells #[.int .i64 0, .int .i64 0, .slice none 0 0] 24)).drew (by omega) (by omega) (hx4.out.below hBA))
          have kp6 : Hid (∀ w6 : World, Below (W4.heap.size + 1) (W4.alloc (.cells #[.int .i64 0, .int .i64 0, .slice none 0 0] 24)).drew w6 → (w6.cell? ⟨w.heap.size, 0, none⟩ = some (.int .i64 (n : Int)) ∧ w6.cell? ⟨w.heap.size, 1, none⟩ = some (.int .i64 (n : Int))) ∧ w6.heap[W4.heap.size]? = some (.cells #[.int .i64 0, .int .i64 0, .slice none 0 0] 24 (0, 0))) := fun w6 h =>
            ⟨kp4.out w6 (hBA.trans (h.mono (by omega))), (h.block _ (by omega)).trans (heap_alloc_new W4 (.cells #[.int .i64 0, .int .i64 0, .slice none 0 0] 24))⟩
          have a0 : (W4.alloc (.cells #[.int .i64 0, .int .i64 0, .slice none 0 0] 24)).cell? ⟨w.heap.size, 0, none⟩ = some (.int .i64 (n : Int)) := (World.cell?_of_block (hBA.block _ (lt_of_heap eb4.out))).trans f0
          have a1 : (W4.alloc (.cells #[.int .i64 0, .int .i64 0, .slice none 0 0] 24)).cell? ⟨w.heap.size, 1, none⟩ = some (.int .i64 (n : Int)) := (World.cell?_of_block (hBA.block _ (lt_of_heap eb4.out))).trans f1
          have a2 : (W4.alloc (.cells #[.int .i64 0, .int .i64 0, .slice none 0 0] 24)).cell? ⟨w.heap.size, 2, none⟩ = some (.slice (some ⟨bb, oo, none⟩) gl gcap) := (World.cell?_of_block (hBA.block _ (lt_of_heap eb4.out))).trans f2
          have hsz6 : Hid ((W4.alloc (.cells #[.int .i64 0, .int .i64 0, .slice none 0 0] 24)).drew.heap.size = W4.heap.size + 1) := by show _ = _; simp [World.drew]
          rw [hsz6.out] at HC2
          replace hBA := Lib.hid hBA
          go_upto_region 13 with fail
          go_cut [14] (fun v X => BoxS W4 n gl s v X)
          case first =>
            go_region_law (go_simp; go_at_call 9; first | ((with_reducible refine HC.out.mono ?_); rintro e w6 ⟨p6, c6, rfl, hO6, hb6⟩; obtain ⟨k0, k1⟩ := kp4.out w6 ((Below.refl _ W4).drew.trans hb6); obtain ⟨k3, k4⟩ := kp4.out (w6.alloc (.cells #[.int .i64 0, .int .i64 0, .slice none 0 0] 24)) (((Below.refl _ W4).drew.trans hb6).alloc hb6.size _); have hbox : Hid (BoxS W4 n gl s (.pointer (some ⟨w6.heap.size, 0, none⟩)) (w6.alloc (.cells #[.int .i64 (n : Int), .int .i64 (n : Int), .slice p6 gl c6] 24))) := boxS_new hO6 ((Below.refl _ W4).drew.trans hb6) hN1; clear hO6 hb6) | ((with_reducible refine HC2.out.mono ?_); rintro e w6 ⟨p6, c6, rfl, hO6, hb6⟩; obtain ⟨⟨k0, k1⟩, k2⟩ := kp6.out w6 hb6; have m0 := wcell (cs := [_, _, _]) k2 0; have m1 := wcell (cs := [_, _, _]) k2 1; have m2 := wcell (cs := [_, _, _]) k2 2; have mf := wfree k2 0; have mf1 := wfree k2 1; have mf2 := wfree k2 2; simp only [List.getElem?_cons_zero, List.getElem?_cons_succ] at m0 m1 m2; replace k2 := Lib.hid k2; have hbox : Hid (BoxS W4 n gl s (.pointer (some ⟨W4.heap.size, 0, none⟩)) (((w6.setCell ⟨W4.heap.size, 0, none⟩ (.int .i64 (n : Int))).setCell ⟨W4.heap.size, 1, none⟩ (.int .i64 (n : Int))).setCell ⟨W4.heap.size, 2, none⟩ (.slice p6 gl c6))) := boxS_set hO6 hb6 hN1; clear hO6 hb6))
            all_goals
              go_simp
              go_wp2_with fail
              go_meet
              exact hbox.out
          case rest =>
            obtain ⟨wl, g, gc, rfl, hwl, hO, hne, hwb, hbx5⟩ := hcut
            obtain ⟨W6, rfl⟩ : ∃ W6 : World, W6 = wc := ⟨_, rfl⟩
            have h2c := wcell (cs := [_, _, _]) hwl 2
            have cg := hO.cell hkl
            have fg := hO.free k
            have hset := hO.set k (who : Int)
            rw [← asI_set] at hset
            have hwl' : (W6.setCell ⟨g, k, none⟩ (.int .i64 (who : Int))).heap[wl]? = some (.cells #[.int .i64 (n : Int), .int .i64 (n : Int), .slice (some ⟨g, 0, none⟩) gl gc] 24 (0, 0)) := (Below.heap_setCell W6 ⟨g, k, none⟩ _ wl hne).trans hwl
            have hgB := (hO.block _ rfl).1
            have hB6 : Hid (Below w.heap.size w (W6.setCell ⟨g, k, none⟩ (.int .i64 (who : Int)))) := (hBw4.out.trans (hbx5.mono hBw4.out.size)).setCell (p := ⟨g, k, none⟩) (Nat.le_trans hBw4.out.size hgB) _
            have hkn : k < n * n := by rw [← hN.out]; exact hkl
            have hbd2 := hbd.out.set (v := who) hkn (by omega)
            have HY2 := Solve_yes n gl gc who (some ⟨g, 0, none⟩) (s.set k who) (W6.setCell ⟨g, k, none⟩ (.int .i64 (who : Int))) hN.out hn1 hn2 (by rw [List.length_set, hsl.out, hN.out]) hset.in hbd2.le hw12
            have hc9 := cnt_less hbd.out hkn h0.out hw12 h99.out
            have HS2 : Hid (Calls Try.prog 6 #[.agg #[.int .i64 (n : Int), .int .i64 (n : Int), .slice (some ⟨g, 0, none⟩) gl gc], .int .i64 (who : Int)] (W6.setCell ⟨g, k, none⟩ (.int .i64 (who : Int))) fun e w' => (∃ (p : Option Addr) (l cc : Nat), e = .returned (.tuple #[.int .i64 (who : Int), .slice p l cc, .int .i64 0])) ∧ Below (W6.setCell ⟨g, k, none⟩ (.int .i64 (who : Int))).heap.size (W6.setCell ⟨g, k, none⟩ (.int .i64 (who : Int))) w') := HY2.mono fun e w' h => ⟨h.1.elim (fun a => absurd a.1 (by omega)) fun ⟨_, b, p, l, cc, h1, h2, _⟩ => ⟨p, l, cc, by rw [h1, vl_more hbd.out hkn h0.out hvl.out h2]⟩, h.2⟩
            have l0 := wcell (cs := [_, _, _]) hwl' 0
            have l1 := wcell (cs := [_, _, _]) hwl' 1
            have l2 := wcell (cs := [_, _, _]) hwl' 2
            simp only [List.getElem?_cons_zero, List.getElem?_cons_succ] at h2c l0 l1 l2
            clear hwl hO hset hwl' hbx5 HC kp4 HPa kp HY2 hc9
            replace hne := Lib.hid hne; replace hbd2 := Lib.hid hbd2
            go_wp2_with (go_at_call 6; (with_reducible refine HS2.out.mono ?_); rintro e W7 ⟨⟨p7, l7, cc7, rfl⟩, hB7⟩; replace hB7 := Lib.hid hB7)
            have hBe : Hid (Below w.heap.size w W7) := hB6.out.trans (hB7.out.mono hB6.out.size)
            go_ret
            exact ⟨rfl, hBe.out⟩
        · have e0x : ((x : Int) != 0) = true := by simp; omega
          replace hxk := Lib.hid hxk; replace hx0 := Lib.hid hx0
          go_wp2_with fail
          go_ret
          exact ⟨rfl, hBw4.out⟩
      · have evw : ((v : Int) != (who : Int)) = true := by simp; omega
        replace hvw := Lib.hid hvw
        go_wp2_with fail
        go_ret
        exact ⟨rfl, hBw4.out⟩
end Go.Proofs.Ytcibkchfdiijfaa
