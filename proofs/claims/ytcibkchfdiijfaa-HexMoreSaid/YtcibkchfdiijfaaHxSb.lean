import Derived.Test.YtcibkchfdiijfaaHxSa
import Derived.Deep.RegionLaw
import Derived.Deep.Cut
import Derived.Deep.DeepCutAuto
/- gameroomkeep.HexShort walks: the law; no conditions beyond numbers that an int holds. -/
namespace Go.Proofs.Ytcibkchfdiijfaa
open Go.RowKit Go.Shelf

/-- the new board's box. -/
def BoxS (W2 : World) (n N : Nat) (s : List Nat) (v : Value) (X : World) : Prop :=
  ∃ wl g gc : Nat, v = .pointer (some ⟨wl, 0, none⟩) ∧ X.heap[wl]? = some (.cells #[.int .i64 (n : Int), .int .i64 (n : Int), .slice (some ⟨g, 0, none⟩) N gc] 24 (0, 0)) ∧ Own 3 W2.heap.size X (some ⟨g, 0, none⟩) N gc (asI s) ∧ wl ≠ g ∧ W2.heap.size ≤ wl ∧ Below W2.heap.size W2 X
theorem boxS_new {W2 w6 : World} {p6 : Option Addr} {n N c6 : Nat} {s : List Nat} (hO6 : Own 3 W2.heap.size w6 p6 N c6 (asI s)) (hb6 : Below W2.heap.size W2 w6) (hn : 1 ≤ N) :
    BoxS W2 n N s (.pointer (some ⟨w6.heap.size, 0, none⟩)) (w6.alloc (.cells #[.int .i64 (n : Int), .int .i64 (n : Int), .slice p6 N c6] 24)) := by
  obtain ⟨g, rfl, h1, h2, _⟩ := hO6.where (by omega)
  exact ⟨w6.heap.size, g, c6, rfl, heap_alloc_new _ _, hO6.alloc _, by omega, hb6.size, hb6.alloc hb6.size _⟩
theorem boxS_set {W2 w6 : World} {p6 : Option Addr} {n N c6 : Nat} {s : List Nat} (hO6 : Own 3 (W2.heap.size + 1) w6 p6 N c6 (asI s)) (hb6 : Below (W2.heap.size + 1) (W2.alloc (.cells #[.int .i64 0, .int .i64 0, .slice none 0 0] 24)).drew w6) (hn : 1 ≤ N) :
    BoxS W2 n N s (.pointer (some ⟨W2.heap.size, 0, none⟩)) (((w6.setCell ⟨W2.heap.size, 0, none⟩ (.int .i64 (n : Int))).setCell ⟨W2.heap.size, 1, none⟩ (.int .i64 (n : Int))).setCell ⟨W2.heap.size, 2, none⟩ (.slice p6 N c6)) := by
  obtain ⟨g, rfl, h1, h2, _⟩ := hO6.where (by omega)
  have h8 : w6.heap[W2.heap.size]? = some (.cells #[.int .i64 0, .int .i64 0, .slice none 0 0] 24 (0, 0)) := (hb6.block _ (by omega)).trans (heap_alloc_new W2 (.cells #[.int .i64 0, .int .i64 0, .slice none 0 0] 24))
  have hB : Below W2.heap.size W2 w6 := (((Below.refl _ W2).alloc (Nat.le_refl _) (.cells #[.int .i64 0, .int .i64 0, .slice none 0 0] 24)).drew).trans (hb6.mono (by omega))
  have hne : g ≠ W2.heap.size := by omega
  refine ⟨W2.heap.size, g, c6, rfl, ?_, ?_, by omega, Nat.le_refl _, ((hB.setCell (p := ⟨W2.heap.size, 0, none⟩) (Nat.le_refl _) _).setCell (p := ⟨W2.heap.size, 1, none⟩) (Nat.le_refl _) _).setCell (p := ⟨W2.heap.size, 2, none⟩) (Nat.le_refl _) _⟩
  · simpa using wset (wset (wset h8 0 (.int .i64 (n : Int))) 1 (.int .i64 (n : Int))) 2 (.slice (some ⟨g, 0, none⟩) N c6)
  · refine (hO6.mono (by omega)).keep fun a ha => ?_
    cases ha
    rw [wset_ne _ _ hne, wset_ne _ _ hne, wset_ne _ _ hne]
set_option maxRecDepth 20000 in
set_option maxHeartbeats 4000000 in
theorem short_law (gq : Option Addr) (gl gcap : Nat) (W H : Int) (xs : List Int) (w : World) (wi ai : Int) (hl : gl ≤ 9223372036854775807) (hW1 : -9223372036854775808 ≤ W) (hW2 : W ≤ 9223372036854775807) (hH1 : -9223372036854775808 ≤ H) (hH2 : H ≤ 9223372036854775807)
    (hx : IntsIn w gq gl xs) (hw1 : -9223372036854775808 ≤ wi) (hw2 : wi ≤ 9223372036854775807) (ha1 : -9223372036854775808 ≤ ai) (ha2 : ai ≤ 9223372036854775807) :
    Calls Try.prog 5 #[.agg #[.int .i64 W, .int .i64 H, .slice gq gl gcap], .int .i64 wi, .int .i64 ai] w fun e w' => e = .returned (.bool true) ∧ Below w.heap.size w w' := by
  have hbx := heap_alloc_new w (.cells #[.int .i64 W, .int .i64 H, .slice gq gl gcap] 24)
  have hB0 : Below w.heap.size w (w.alloc (.cells #[.int .i64 W, .int .i64 H, .slice gq gl gcap] 24)) := (Below.refl _ w).alloc (Nat.le_refl _) _
  obtain ⟨w1, hww⟩ : ∃ w1 : World, w1 = w.alloc (.cells #[.int .i64 W, .int .i64 H, .slice gq gl gcap] 24) := ⟨_, rfl⟩
  rw [← hww] at hbx hB0
  have HP := Lib.hid (picked_any wi 2 w1 hw1 hw2 (by omega) (by omega) 2 rfl)
  have hpl := pick_lt wi 2 (by omega)
  obtain ⟨who, hwho⟩ : ∃ who, who = 1 + pick wi 2 := ⟨_, rfl⟩
  have hw12 : who = 1 ∨ who = 2 := by omega
  have hwc : (1 : Int) + (pick wi 2 : Nat) = (who : Int) := by rw [hwho]; push_cast; rfl
  have hwcw : IntKind.i64.wrap (who : Int) = who := IntWalk.i64_in _ (by omega)
  have HG := Lib.hid (gridr_any 3 3 w1 (by omega) (by omega) 9 rfl none 0 0 [] 0 (by omega) (by omega) (fun j hj => absurd hj (Nat.not_lt_zero j)) (IntsIn.nil _ _))
  have hz9 : rawG [] 0 9 = List.replicate 9 0 := by decide
  rw [hz9, show ((0 : Nat) : Int) = 0 from rfl, show ((3 : Nat) : Int) = 3 from rfl] at HG
  have hz : ∀ j, st (List.replicate 9 0) j = 0 := fun j => by unfold st; rw [List.getElem?_replicate]; split <;> rfl
  have HS0 : Hid (∀ (W2 : World) (q : Option Addr) (c : Nat), IntsIn W2 q 9 (asI (List.replicate 9 0)) → Calls Try.prog 11 #[.agg #[.int .i64 3, .int .i64 3, .slice q 9 c], .int .i64 1] W2 fun e w' => e = .returned (.tuple #[.int .i64 3, .int .i64 0]) ∧ Below W2.heap.size W2 w') := fun W2 q c h => by
    have := Shortest_yes 3 9 1 c q (List.replicate 9 0) W2 rfl (by omega) (by omega) (by simp) h (fun j => by rw [hz]; omega) (.inl rfl)
    refine this.mono ?_
    rintro e w' ⟨r, rfl, hr, _, hB⟩
    have := short_empty hz hr
    subst this
    exact ⟨rfl, hB⟩
  have hBl := lt_of_heap hbx
  have hx1 := hx.below hB0
  generalize pick wi 2 = pk at *
  replace hx1 := Lib.hid hx1; replace hB0 := Lib.hid hB0; replace hwho := Lib.hid hwho; replace hz := Lib.hid hz; replace hz9 := Lib.hid hz9
  clear hx
  have kp : Hid (∀ W2 : World, Below w1.heap.size w1 W2 → W2.heap[w.heap.size]? = some (.cells #[.int .i64 W, .int .i64 H, .slice gq gl gcap] 24 (0, 0)) ∧ W2.cell? ⟨w.heap.size, 0, none⟩ = some (.int .i64 W) ∧ W2.cell? ⟨w.heap.size, 1, none⟩ = some (.int .i64 H) ∧ W2.cell? ⟨w.heap.size, 2, none⟩ = some (.slice gq gl gcap)) := fun W2 h => by
    have hb := (h.block _ hBl).trans hbx
    exact ⟨hb, wcell (cs := [_, _, _]) hb 0, wcell (cs := [_, _, _]) hb 1, wcell (cs := [_, _, _]) hb 2⟩
  replace hww := Lib.hid hww
  go_enter Try.func5, Try.ntmps5
  go_upto_region 5 with (first
    | (go_at_call 8; rw [← hww.out]; (with_reducible refine HP.out.mono ?_); rintro e w' ⟨rfl, rfl⟩)
    | (go_at_call 7; (with_reducible refine HG.out.mono ?_); rintro e W2 ⟨q3, c3, rfl, hO3, hB2⟩; have HS1 := Lib.hid (HS0.out W2 q3 c3 hO3.in); replace hO3 := Lib.hid hO3; replace hB2 := Lib.hid hB2)
    | (go_at_call 11; (with_reducible refine HS1.out.mono ?_); rintro e W3 ⟨rfl, hB3⟩; have hB13 := hB2.out.trans (hB3.mono hB2.out.size); obtain ⟨eb, e0, e1, e2⟩ := kp.out W3 hB13; replace hB13 := Lib.hid hB13; replace hB3 := Lib.hid hB3; replace eb := Lib.hid eb))
  have hx3 := hx1.out.below hB13.out
  clear HP HG HS0 HS1
  cases hok : okH W H xs with
  | false =>
    have HS := Lib.hid (Shortest_no gq gl gcap who W H xs W3 hl hW1 hW2 hH1 hH2 hx3 hw12 hok)
    clear hx3
    go_wp2_with (go_at_call 11; (with_reducible refine HS.out.mono ?_); rintro e W4 ⟨rfl, hB4⟩; replace hB4 := Lib.hid hB4)
    go_ret
    exact ⟨rfl, hB0.out.trans ((hB13.out.trans (hB4.out.mono hB13.out.size)).mono hB0.out.size)⟩
  | true =>
    obtain ⟨n, s, rfl, rfl, rfl, hn1, hn2, hsl, hs2⟩ := okH_yes hok
    obtain ⟨N, hN⟩ : ∃ N, N = n * n := ⟨_, rfl⟩
    obtain rfl : gl = N := by have := hx3.len; rw [asI_len] at this; omega
    have hN1 : 1 ≤ gl := by rw [hN]; exact Nat.mul_le_mul hn1 hn1
    have hN100 : gl ≤ 100 := by rw [hN]; exact Nat.mul_le_mul hn2 hn2
    have HS : Hid (∀ W4 : World, Below W3.heap.size W3 W4 → Calls Try.prog 11 #[.agg #[.int .i64 (n : Int), .int .i64 (n : Int), .slice gq gl gcap], .int .i64 (who : Int)] W4 fun e w' => ∃ r : Int, e = .returned (.tuple #[.int .i64 r, .int .i64 0]) ∧ ShortI n who s r ∧ r ≤ 200 ∧ Below W4.heap.size W4 w') := fun W4 h => Shortest_yes n gl who gcap gq s W4 hN hn1 hn2 (by rw [hsl, hN]) (hx3.below h) hs2 hw12
    have HJ : Hid (∀ W4 : World, Below W3.heap.size W3 W4 → Calls Try.prog 10 #[.agg #[.int .i64 (n : Int), .int .i64 (n : Int), .slice gq gl gcap]] W4 fun e w' => ∃ (j : Nat) (p : Option Addr) (l cc : Nat), e = .returned (.tuple #[.int .i64 (j : Int), .slice p l cc, .int .i64 0]) ∧ JoinI n s j ∧ (j ≠ 0 → n ≤ l) ∧ l ≤ 10000 ∧ Below W4.heap.size W4 w') := fun W4 h => Joined_yes gq n gl gcap s W4 hN hn1 hn2 (by rw [hsl, hN]) (hx3.below h) hs2
    have HPa := Lib.hid (fun W4 => picked_any ai gl W4 ha1 ha2 hN1 (by omega) (gl : Int) rfl)
    have hkl := pick_lt ai gl hN1
    generalize pick ai gl = k at *
    replace hN := Lib.hid hN; replace hsl := Lib.hid hsl; replace hs2 := Lib.hid hs2; replace hx3 := Lib.hid hx3; replace hok := Lib.hid hok
    go_upto_region 9 with (first
      | (go_at_call 11; (with_reducible refine (HS.out _ (Below.refl _ _)).mono ?_); rintro e W4 ⟨r, rfl, hr, hr200, hB4⟩; obtain ⟨eb4, f0, f1, f2⟩ := kp.out W4 (hB13.out.trans (hB4.mono hB13.out.size)); replace eb4 := Lib.hid eb4; replace hr := Lib.hid hr; replace hB4 := Lib.hid hB4)
      | (go_at_call 10; (with_reducible refine (HJ.out _ hB4.out).mono ?_); rintro e W5 ⟨j, p, l, cc, rfl, hJI, hjl, hl4, hB5⟩; have hB35 := hB4.out.trans (hB5.mono hB4.out.size); obtain ⟨eb5, g0, g1, g2⟩ := kp.out W5 (hB13.out.trans (hB35.mono hB13.out.size)); replace eb5 := Lib.hid eb5; replace hB35 := Lib.hid hB35; replace hB5 := Lib.hid hB5; replace hJI := Lib.hid hJI; replace hjl := Lib.hid hjl))
    have hsj := short_join hn1 hs2.out hw12 hr.out hJI.out
    obtain ⟨b1, hb1⟩ : ∃ b1, b1 = (r == 0) := ⟨_, rfl⟩
    have hb1' : ((j : Int) == (who : Int)) = b1 := by
      rw [hb1, Bool.eq_iff_iff, beq_iff_eq, beq_iff_eq, hsj.1]; omega
    have hb1'' : (r == 0) = b1 := hb1.symm
    obtain ⟨b2, hb2⟩ : ∃ b2, b2 = (r == -1) := ⟨_, rfl⟩
    have hb2' : ((j : Int) == 3 - (who : Int)) = b2 := by
      rw [hb2, Bool.eq_iff_iff, beq_iff_eq, beq_iff_eq, hsj.2]; omega
    have hb2'' : (r == -1) = b2 := hb2.symm
    have hw3 : IntKind.i64.wrap (3 - (who : Int)) = 3 - (who : Int) := IntWalk.i64_in _ (by omega)
    replace hb1 := Lib.hid hb1; replace hb2 := Lib.hid hb2; replace hsj := Lib.hid hsj
    have hBw5 : Hid (Below w.heap.size w W5) := hB0.out.trans ((hB13.out.trans (hB35.out.mono hB13.out.size)).mono hB0.out.size)
    clear HJ
    go_upto_region 12 with (go_at_call 8; (with_reducible refine (HPa.out _).mono ?_); rintro e w' ⟨rfl, rfl⟩)
    by_cases hr1 : r < 1
    · have d1 : decide (r < 1) = true := decide_eq_true hr1
      go_wp2_with fail
      go_ret
      exact ⟨rfl, hBw5.out⟩
    · have d1 : decide (r < 1) = false := decide_eq_false hr1
      have hx5 := hx3.out.below hB35.out
      obtain ⟨bb, oo, hgq, hbb, hcc⟩ := hx5.at hN1
      have ck := hcc k hkl
      rw [asI_at] at ck
      subst hgq
      clear hcc
      obtain ⟨x, hxk⟩ : ∃ x, x = st s k := ⟨_, rfl⟩
      rw [← hxk] at ck
      replace hx5 := Lib.hid hx5
      by_cases hx0 : x = 0
      · have e0x : ((x : Int) != 0) = false := by simp; omega
        replace hxk := Lib.hid hxk; replace hx0 := Lib.hid hx0
        have HC := Lib.hid (ints_any (some ⟨bb, oo, none⟩) gl gcap (asI s) W5.drew (by omega) (by omega) (hx5.out.keep (Nat.le_refl _) fun _ _ _ => rfl))
        have kp5 : Hid (∀ W6 : World, Below W5.heap.size W5 W6 → W6.cell? ⟨w.heap.size, 0, none⟩ = some (.int .i64 (n : Int)) ∧ W6.cell? ⟨w.heap.size, 1, none⟩ = some (.int .i64 (n : Int))) := fun W6 h => by
          have hb := (h.block _ (lt_of_heap eb5.out)).trans eb5.out
          exact ⟨wcell (cs := [_, _, _]) hb 0, wcell (cs := [_, _, _]) hb 1⟩
        have hBA : Below W5.heap.size W5 (W5.alloc (.cells #[.int .i64 0, .int .i64 0, .slice none 0 0] 24)).drew := ((Below.refl _ W5).alloc (Nat.le_refl _) _).drew
        have HC2 := Lib.hid (ints_any (some ⟨bb, oo, none⟩) gl gcap (asI s) (W5.alloc (.cells #[.int .i64 0, .int .i64 0, .slice none 0 0] 24)).drew (by omega) (by omega) (hx5.out.below hBA))
        have kp6 : Hid (∀ w6 : World, Below (W5.heap.size + 1) (W5.alloc (.cells #[.int .i64 0, .int .i64 0, .slice none 0 0] 24)).drew w6 → (w6.cell? ⟨w.heap.size, 0, none⟩ = some (.int .i64 (n : Int)) ∧ w6.cell? ⟨w.heap.size, 1, none⟩ = some (.int .i64 (n : Int))) ∧ w6.heap[W5.heap.size]? = some (.cells #[.int .i64 0, .int .i64 0, .slice none 0 0] 24 (0, 0))) := fun w6 h =>
          ⟨kp5.out w6 (hBA.trans (h.mono (by omega))), (h.block _ (by omega)).trans (heap_alloc_new W5 (.cells #[.int .i64 0, .int .i64 0, .slice none 0 0] 24))⟩
        have a0 : (W5.alloc (.cells #[.int .i64 0, .int .i64 0, .slice none 0 0] 24)).cell? ⟨w.heap.size, 0, none⟩ = some (.int .i64 (n : Int)) := (World.cell?_of_block (hBA.block _ (lt_of_heap eb5.out))).trans g0
        have a1 : (W5.alloc (.cells #[.int .i64 0, .int .i64 0, .slice none 0 0] 24)).cell? ⟨w.heap.size, 1, none⟩ = some (.int .i64 (n : Int)) := (World.cell?_of_block (hBA.block _ (lt_of_heap eb5.out))).trans g1
        have a2 : (W5.alloc (.cells #[.int .i64 0, .int .i64 0, .slice none 0 0] 24)).cell? ⟨w.heap.size, 2, none⟩ = some (.slice (some ⟨bb, oo, none⟩) gl gcap) := (World.cell?_of_block (hBA.block _ (lt_of_heap eb5.out))).trans g2
        have hsz6 : Hid ((W5.alloc (.cells #[.int .i64 0, .int .i64 0, .slice none 0 0] 24)).drew.heap.size = W5.heap.size + 1) := by show _ = _; simp [World.drew]
        rw [hsz6.out] at HC2
        replace hBA := Lib.hid hBA
        go_upto_region 14 with fail
        go_cut [15] (fun v X => BoxS W5 n gl s v X)
        case first =>
          go_region_law (go_simp; go_at_call 9; first | ((with_reducible refine HC.out.mono ?_); rintro e w6 ⟨p6, c6, rfl, hO6, hb6⟩; obtain ⟨k0, k1⟩ := kp5.out w6 ((Below.refl _ W5).drew.trans hb6); obtain ⟨k3, k4⟩ := kp5.out (w6.alloc (.cells #[.int .i64 0, .int .i64 0, .slice none 0 0] 24)) (((Below.refl _ W5).drew.trans hb6).alloc hb6.size _); have hbox : Hid (BoxS W5 n gl s (.pointer (some ⟨w6.heap.size, 0, none⟩)) (w6.alloc (.cells #[.int .i64 (n : Int), .int .i64 (n : Int), .slice p6 gl c6] 24))) := boxS_new hO6 ((Below.refl _ W5).drew.trans hb6) hN1; clear hO6 hb6) | ((with_reducible refine HC2.out.mono ?_); rintro e w6 ⟨p6, c6, rfl, hO6, hb6⟩; obtain ⟨⟨k0, k1⟩, k2⟩ := kp6.out w6 hb6; have m0 := wcell (cs := [_, _, _]) k2 0; have m1 := wcell (cs := [_, _, _]) k2 1; have m2 := wcell (cs := [_, _, _]) k2 2; have mf := wfree k2 0; have mf1 := wfree k2 1; have mf2 := wfree k2 2; simp only [List.getElem?_cons_zero, List.getElem?_cons_succ] at m0 m1 m2; replace k2 := Lib.hid k2; have hbox : Hid (BoxS W5 n gl s (.pointer (some ⟨W5.heap.size, 0, none⟩)) (((w6.setCell ⟨W5.heap.size, 0, none⟩ (.int .i64 (n : Int))).setCell ⟨W5.heap.size, 1, none⟩ (.int .i64 (n : Int))).setCell ⟨W5.heap.size, 2, none⟩ (.slice p6 gl c6))) := boxS_set hO6 hb6 hN1; clear hO6 hb6))
          all_goals
            go_simp
            go_wp2_with fail
            go_meet
            exact hbox.out
        case rest =>
          obtain ⟨wl, g, gc, rfl, hwl, hO, hne, hwb, hbx5⟩ := hcut
          obtain ⟨W6, rfl⟩ : ∃ W6 : World, W6 = wc := ⟨_, rfl⟩
          have h2c := wcell (cs := [_, _, _]) hwl 2
          have cg := hO.cell hkl
          have fg := hO.free k
          have hset := hO.set k (who : Int)
          rw [← asI_set] at hset
          have hwl' : (W6.setCell ⟨g, k, none⟩ (.int .i64 (who : Int))).heap[wl]? = some (.cells #[.int .i64 (n : Int), .int .i64 (n : Int), .slice (some ⟨g, 0, none⟩) gl gc] 24 (0, 0)) := (Below.heap_setCell W6 ⟨g, k, none⟩ _ wl hne).trans hwl
          have hgB := (hO.block _ rfl).1
          have hB6 : Hid (Below w.heap.size w (W6.setCell ⟨g, k, none⟩ (.int .i64 (who : Int)))) := (hBw5.out.trans (hbx5.mono hBw5.out.size)).setCell (p := ⟨g, k, none⟩) (Nat.le_trans hBw5.out.size hgB) _
          have HS2 := Lib.hid (Shortest_yes n gl who gc (some ⟨g, 0, none⟩) (s.set k who) (W6.setCell ⟨g, k, none⟩ (.int .i64 (who : Int))) hN.out hn1 hn2 (by rw [List.length_set, hsl.out, hN.out]) hset.in (fun j => by
            unfold st; rw [List.getElem?_set]
            split
            · split
              · simp; omega
              · simp
            · exact hs2.out j) hw12)
          have hmo : Hid (∀ m, ShortI n who (s.set k who) m → m = r ∨ m = r - 1) := fun m hm => short_more (by rw [← hxk.out]; exact hx0.out) (by rw [hsl.out, ← hN.out]; exact hkl) hr.out (by omega) hm hw12
          have l0 := wcell (cs := [_, _, _]) hwl' 0
          have l1 := wcell (cs := [_, _, _]) hwl' 1
          have l2 := wcell (cs := [_, _, _]) hwl' 2
          simp only [List.getElem?_cons_zero, List.getElem?_cons_succ] at h2c l0 l1 l2
          clear hwl hO hset hwl' hbx5 HC kp5 HPa HS kp
          replace hne := Lib.hid hne
          go_upto_region 17 with (go_at_call 11; (with_reducible refine HS2.out.mono ?_); rintro e W7 ⟨m, rfl, hm, _, hB7⟩; replace hm := Lib.hid hm; replace hB7 := Lib.hid hB7)
          have hBe : Hid (Below w.heap.size w W7) := hB6.out.trans (hB7.out.mono hB6.out.size)
          have hrr : -9223372036854775808 ≤ r - 1 ∧ r - 1 ≤ 9223372036854775807 := by omega
          have hwr : IntKind.i64.wrap (r - 1) = r - 1 := IntWalk.i64_in _ hrr
          rcases hmo.out m hm.out with rfl | rfl
          · go_wp2_with fail
            go_ret
            exact ⟨rfl, hBe.out⟩
          · have e3 : ((r - 1 : Int) == r) = false := by simp; omega
            go_wp2_with fail
            go_ret
            exact ⟨rfl, hBe.out⟩
      · have e0x : ((x : Int) != 0) = true := by simp; omega
        replace hxk := Lib.hid hxk; replace hx0 := Lib.hid hx0
        go_wp2_with fail
        go_ret
        exact ⟨rfl, hBw5.out⟩
end Go.Proofs.Ytcibkchfdiijfaa
