/- The places that Threats tells; conditions: a board whose signs have fallen, k of 1 to 10. -/
import Derived.Test.YtfoojdkbonmmgaaFBs
namespace Go.Proofs.Ytfoojdkbonmmgaa
open Go.RowKit

theorem asI_len' (s : List Nat) : (asI s).length = s.length := by simp [asI]
def TL (wb : List Nat → Nat → Bool) (s : List Nat) (who j : Nat) : List Nat := (List.range j).filter fun i => st s i == 0 && wb (s.set i who) i
theorem TL_yes {wb : List Nat → Nat → Bool} {s : List Nat} {who j : Nat} (h0 : st s j = 0) (h : wb (s.set j who) j = true) : asI (TL wb s who (j + 1)) = asI (TL wb s who j) ++ [(j : Int)] := by
  unfold TL
  rw [List.range_succ, List.filter_append, List.filter_cons_of_pos (by simp [h0, h]), List.filter_nil]
  simp [asI]
theorem TL_no {wb : List Nat → Nat → Bool} {s : List Nat} {who j : Nat} (h : ¬ (st s j = 0 ∧ wb (s.set j who) j = true)) : TL wb s who (j + 1) = TL wb s who j := by
  unfold TL
  rw [List.range_succ, List.filter_append, List.filter_cons_of_neg (by simpa using h), List.filter_nil, List.append_nil]
theorem TL_len (wb : List Nat → Nat → Bool) (s : List Nat) (who j : Nat) : (TL wb s who j).length ≤ j := by
  unfold TL; have := List.length_filter_le (fun i => st s i == 0 && wb (s.set i who) i) (List.range j); simpa using this
/-- what Threats leaves. -/
def ThrEnd (wb : List Nat → Nat → Bool) (w : World) (n who : Nat) (s : List Nat) (e : Ending) (W' : World) : Prop :=
  Below w.heap.size w W' ∧ ∃ q c, e = .returned (.tuple #[.slice q (TL wb s who n).length c, .int .i64 0]) ∧ IntsIn W' q (TL wb s who n).length (asI (TL wb s who n))
set_option maxRecDepth 20000 in
set_option maxHeartbeats 4000000 in
theorem threats_any (wb : List Nat → Nat → Bool) (q : Option Addr) (n c a b k who : Nat) (s : List Nat) (w : World) (ha1 : 1 ≤ a) (ha : a ≤ 10) (hb1 : 1 ≤ b) (hb : b ≤ 10) (hn : n = a * b) (hx : IntsIn w q n (asI s)) (hs : ∀ j, st s j ≤ 2) (hk1 : 1 ≤ k) (hk : k ≤ 10) (hw : who = 1 ∨ who = 2) (hst : Stk a n s)
    (hwb : ∀ cs x y, x < a → y < b → (wb cs (y * a + x) = true ↔ Row4 (cf a b cs) (st cs (y * a + x) : Nat) x y k)) :
    Calls Try.prog 9 #[.agg #[.int .i64 (a : Int), .int .i64 (b : Int), .slice q n c], .int .i64 who, .int .i64 k] w (ThrEnd wb w n who s) := by
  have hn100 : n ≤ 100 := by rw [hn]; exact Nat.mul_le_mul ha hb
  have hsl : s.length = n := by have := hx.len; simpa [asI] using this
  have e0 := heap_alloc_new w (.cells #[.int .i64 (a : Int), .int .i64 (b : Int), .slice q n c] 29)
  have hb0 := (Below.refl w.heap.size w).alloc (Nat.le_refl _) (.cells #[.int .i64 (a : Int), .int .i64 (b : Int), .slice q n c] 29)
  have HM := Lib.hid (opened_any q n c a b s _ ha1 ha hb1 hb hn (hx.below hb0) hs)
  have d0 := wcell (cs := [_, _, _]) e0 0
  have d1 := wcell (cs := [_, _, _]) e0 1
  have d2 := wcell (cs := [_, _, _]) e0 2
  have HF := Lib.hid (fun W => far_any k W hk1 hk)
  have hw1 : 1 ≤ who ∧ who ≤ 2 := by omega
  obtain ⟨hw1, hw2⟩ := hw1
  have hwi : ((who : Int) != 1 && (who : Int) != 2) = false := by rcases hw with rfl | rfl <;> rfl
  replace hn := Lib.hid hn; replace hs := Lib.hid hs; replace hsl := Lib.hid hsl; replace hwb := Lib.hid hwb; replace hst := Lib.hid hst; replace hwi := Lib.hid hwi
  replace hb0 := Lib.hid hb0; replace e0 := Lib.hid e0
  clear hx
  go_enter Try.func9, Try.ntmps9
  go_wp2_with fail
  generalize w.alloc (.cells #[.int .i64 (a : Int), .int .i64 (b : Int), .slice q n c] 29) = W1 at *
  refine HM.out.mono ?_
  rintro e W2 ⟨hbo, hr⟩
  have hb2 := Lib.hid (hb0.out.trans (hbo.mono hb0.out.size))
  rcases hr with ⟨hns, rfl⟩ | ⟨_, wl, g, gc, mv, rfl, hmv, hwl, hO, hne, hwb1⟩
  · exact absurd hst.out hns
  · have hwB : w.heap.size ≤ wl := Nat.le_trans hb0.out.size hwb1
    have hgB : w.heap.size ≤ g := Nat.le_trans hb0.out.size (hO.block _ rfl).1
    have c3 := wcell (cs := [_, _, _, _, _]) hwl 3
    have f3 := wfree hwl 3
    have hwl3 : (W2.setCell ⟨wl, 3, none⟩ (.int .i64 (k : Int))).heap[wl]? = some (.cells #[.int .i64 (a : Int), .int .i64 (b : Int), .slice (some ⟨g, 0, none⟩) n gc, .int .i64 (k : Int), .int .i64 (mv : Nat)] 41 (0, 0)) := by rw [wset hwl]; rfl
    have hO3 : Own 3 w.heap.size (W2.setCell ⟨wl, 3, none⟩ (.int .i64 (k : Int))) (some ⟨g, 0, none⟩) n gc (asI s) := (hO.mono hb0.out.size).keep fun x hx => by cases hx; exact wset_ne _ _ hne.symm
    have hb3 := Lib.hid (hb2.out.setCell (p := ⟨wl, 3, none⟩) hwB (.int .i64 (k : Int)))
    have hgc : n ≤ gc := OwnC.cap (k := 1) hO
    clear HM hbo d0 d1 d2 hO hwl
    replace hO3 := Lib.hid hO3; replace hwl3 := Lib.hid hwl3
    have HFk := Lib.hid (HF.out W2)
    go_wp2_with fail
    refine HFk.out.mono ?_
    rintro e w' ⟨rfl, rfl⟩
    clear HF HFk
    by_cases hwe : who = 1
    · have hq1 : ((who : Int) != 1) = false := by simp; omega
      replace hwe := Lib.hid hwe
      go_upto_region 9 with fail
      generalize W2.setCell ⟨wl, 3, none⟩ (.int .i64 (k : Int)) = W3 at *
      have hO3' := hO3.out
      have hwl3' := hwl3.out
      obtain ⟨c0, c1, c2, c3⟩ := wcells hwl3'
      clear f3 hq1
      go_wp2_with fail
      go_loopg [10, 42] n (fun gk lv jv W' => ∃ (j m c : Nat) (p : Option Addr), gk = n - j ∧ j ≤ n ∧ jv = .int .i64 (j : Nat) ∧ lv = .slice p m c ∧ Hid (m = (TL wb s who j).length) ∧ Hid (Own 3 W3.heap.size W' p m c (asI (TL wb s who j))) ∧ Hid (Own 3 w.heap.size W' (some ⟨g, 0, none⟩) n gc (asI s)) ∧ Hid (W3.grownBy W' (some g)))
      case atStart => exact ⟨0, 0, 0, none, by omega, by omega, rfl, rfl, rfl, Own.nil _ _ _, hO3', grown_below (Below.refl _ _) _⟩
      case round =>
        clear hO3' hwl3' c0 c1 c2 c3
        obtain ⟨j, m, c, p, hgk, hj, rfl, rfl, hm, hl, hO, hgr⟩ := hrel
        obtain ⟨W4, rfl⟩ : ∃ W4 : World, W4 = wr := ⟨_, rfl⟩
        replace hgk := Lib.hid hgk
        have hwl4 := (hgr.out.block wl (lt_of_heap hwl3.out) (by simpa using hne)).trans hwl3.out
        have hg3 : g < W3.heap.size := (hO3.out.block _ rfl).2
        rcases Nat.lt_or_ge j n with hlt | hge
        · have cj := hO.out.cell hlt
          rw [asI_at] at cj
          have fj := hO.out.free j
          obtain ⟨c0, c1, c2, c3⟩ := wcells hwl4
          by_cases hz : st s j = 0
          · rw [hz] at cj
            have hjl : j < s.length := by rw [hsl.out]; exact hlt
            have hO5 := hO.out.set j (who : Int)
            rw [← asI_set] at hO5
            have hgr5 := grown_set hgr.out j (.int .i64 (who : Int))
            have hl5 : Own 3 W3.heap.size (W4.setCell ⟨g, j, none⟩ (.int .i64 (who : Int))) p m c (asI (TL wb s who j)) := hl.out.keep fun x hx => wset_ne _ _ (by have := (hl.out.block x hx).1; show x.block ≠ g; omega)
            have hwl5 := (hgr5.block wl (lt_of_heap hwl3.out) (by simpa using hne)).trans hwl3.out
            have hst2 : Hid (st (s.set j who) j = who) := by show _ = _; unfold st; rw [List.getElem?_set_self hjl]; rfl
            obtain ⟨hy', hx'⟩ : j / a < b ∧ j % a < a := ⟨Nat.div_lt_of_lt_mul (by rw [← hn.out]; exact hlt), Nat.mod_lt _ (by omega)⟩
            have hjat : Hid (j = j / a * a + j % a) := by show _ = _; rw [Nat.mul_comm]; exact (Nat.div_add_mod j a).symm
            have HWn := Lib.hid (wonG_any wl g gc a b k j (j % a) (j / a) n (s.set j who) (W4.setCell ⟨g, j, none⟩ (.int .i64 (who : Int))) ha1 ha hb hx' hy' hjat hn mv hwl5 hO5.in who hst2)
            have hws := hwb.out (s.set j who) (j % a) (j / a) hx' hy'
            rw [← hjat.out, hst2.out] at hws
            have hback := Lib.hid (set_back (v := who) hjl hz)
            replace hws := Lib.hid hws; replace hO5 := Lib.hid hO5; replace hgr5 := Lib.hid hgr5; replace hl5 := Lib.hid hl5; replace hz := Lib.hid hz
            clear hx' hy' hl hO hgr hwl4 hst2
            go_wp2_with fail
            generalize W4.setCell ⟨g, j, none⟩ (.int .i64 (who : Int)) = W5 at *
            refine HWn.out.mono ?_
            rintro e W6 ⟨⟨bw, rfl, hbw⟩, hb6⟩
            have hwbb : wb (s.set j who) j = bw := by rw [Bool.eq_iff_iff]; exact hws.out.trans hbw.symm
            have hl6 := hl5.out.below hb6 (Nat.le_refl _)
            have hO6 := hO5.out.below hb6 (Nat.le_refl _)
            have hgr6 := grown_trans hgr5.out (grown_below hb6 (some g))
            have hz6 : W3.heap.size ≤ W6.heap.size := hgr6.size
            have hwl6 := (hgr6.block wl (lt_of_heap hwl3.out) (by simpa using hne)).trans hwl3.out
            clear HWn hb6 hbw hws cj fj c0 c1 c2 c3 hl5 hO5 hgr5 hwl5
            obtain ⟨c0, c1, c2, c3⟩ := wcells hwl6
            cases bw with
            | false =>
              have hT := Lib.hid (TL_no (wb := wb) (s := s) (who := who) (j := j) fun h => by rw [hwbb] at h; exact absurd h.2 (by simp))
              have cj := hO6.cell hlt
              have fj := hO6.free j
              have hO7 := hO6.set j ((0 : Nat) : Int)
              rw [← asI_set, hback.out] at hO7
              have hl7 : Own 3 W3.heap.size (W6.setCell ⟨g, j, none⟩ (.int .i64 0)) p m c (asI (TL wb s who j)) := hl6.keep fun x hx => wset_ne _ _ (by have := (hl6.block x hx).1; show x.block ≠ g; omega)
              have hgr7 := Lib.hid (grown_set hgr6 j (.int .i64 0))
              generalize (asI (s.set j who))[j]?.getD 0 = old at cj
              replace hl7 := Lib.hid hl7; replace hO7 := Lib.hid hO7; replace hwbb := Lib.hid hwbb
              clear hl6 hO6 hgr6 hwl6
              go_wp2_with fail
              have hgk := hgk.out
              go_roundg (n - (j + 1))
              case measure => omega
              case rel => exact ⟨j + 1, m, c, p, rfl, by omega, by go_num, rfl, by rw [hT.out]; exact hm, by rw [hT.out]; exact hl7, hO7, hgr7⟩
            | true =>
              have hT := Lib.hid (TL_yes (wb := wb) (s := s) (who := who) (j := j) hz.out hwbb)
              have hmn : m ≤ n := by rw [hm.out]; exact Nat.le_trans (TL_len _ _ _ _) hj
              replace hl6 := Lib.hid hl6; replace hO6 := Lib.hid hO6; replace hgr6 := Lib.hid hgr6; replace hwbb := Lib.hid hwbb; replace hwl6 := Lib.hid hwl6
              have AP : Hid (∀ p7 c7 (w7 : World), Own 3 W3.heap.size w7 p7 (m + 1) c7 (asI (TL wb s who j) ++ [(j : Int)]) → W6.grownBy w7 (p.map (·.block)) → Own 3 w.heap.size w7 (some ⟨g, 0, none⟩) n gc (asI (s.set j who)) ∧ W3.grownBy w7 (some g) ∧ w7.heap[wl]? = some (.cells #[.int .i64 (a : Int), .int .i64 (b : Int), .slice (some ⟨g, 0, none⟩) n gc, .int .i64 (k : Int), .int .i64 (mv : Nat)] 41 (0, 0))) := fun p7 c7 w7 h1 h2 => by
                have hpx : ∀ x : Nat, x < W3.heap.size → some x ≠ p.map (·.block) := fun x hx e => by
                  cases p with
                  | none => cases e
                  | some y => simp at e; have := (hl6.out.block y rfl).1; omega
                refine ⟨hO6.out.keep fun x hx => by cases hx; exact h2.block g (Nat.lt_of_lt_of_le hg3 hz6) (hpx g hg3), ⟨h2.os.trans hgr6.out.os, h2.tape.trans hgr6.out.tape, h2.output.trans hgr6.out.output, Nat.le_trans hgr6.out.size h2.size, fun x hx hne2 => (h2.block x (Nat.lt_of_lt_of_le hx hz6) (hpx x hx)).trans (hgr6.out.block x hx hne2)⟩, (h2.block wl (lt_of_heap hwl6.out) (hpx wl (lt_of_heap hwl3.out))).trans hwl6.out⟩
              go_wp2_with (at_builtin; refine wp_append1 intG W6 rfl (.tmp 60) (.tmp 62) rfl W3.heap.size p m c _ rfl hl6.out (j : Int) rfl (by omega) hz6 ?_; intro p7 c7 w7 hl7 hg7 hr7 hz7; obtain ⟨hO7, hgr7, hwl7⟩ := AP.out p7 c7 w7 hl7 hg7; have k0 := (wcells hwl7).1; have k1 := (wcells hwl7).2.1; have k2 := (wcells hwl7).2.2.1; have k3 := (wcells hwl7).2.2.2; have cj7 := hO7.cell hlt; have fj7 := hO7.free j; replace hl7 := Lib.hid hl7; replace hg7 := Lib.hid hg7; replace hO7 := Lib.hid hO7; replace hgr7 := Lib.hid hgr7; replace hwl7 := Lib.hid hwl7)
              rw [← hT.out] at hl7
              have hO8 := hO7.out.set j ((0 : Nat) : Int)
              rw [← asI_set, hback.out] at hO8
              have hl8 : Own 3 W3.heap.size (w7.setCell ⟨g, j, none⟩ (.int .i64 0)) p7 (m + 1) c7 (asI (TL wb s who (j + 1))) := hl7.out.keep fun x hx => wset_ne _ _ (by have := (hl7.out.block x hx).1; show x.block ≠ g; omega)
              have hgr8 := Lib.hid (grown_set hgr7.out j (.int .i64 0))
              have hml : Hid (m + 1 = (TL wb s who (j + 1)).length) := by have := hl8.len; rw [asI_len'] at this; exact this.symm
              replace hl8 := Lib.hid hl8; replace hO8 := Lib.hid hO8
              have hgk := hgk.out
              go_roundg (n - (j + 1))
              case measure => omega
              case rel => exact ⟨j + 1, m + 1, c7, p7, rfl, by omega, by go_num, rfl, hml, hl8, hO8, hgr8⟩
          · have hT := Lib.hid (TL_no (wb := wb) (s := s) (who := who) (j := j) fun h => hz h.1)
            generalize st s j = sv at *
            have hzi : ¬ (sv : Int) = 0 := by omega
            have hzd : decide ((sv : Int) = 0) = false := decide_eq_false hzi
            have hzb : ((sv : Int) != 0) = true := by simp; omega
            clear hwl4
            go_wp2_with fail
            have hgk := hgk.out
            go_roundg (n - (j + 1))
            case measure => omega
            case rel => exact ⟨j + 1, m, c, p, rfl, by omega, by go_num, rfl, by rw [hT.out]; exact hm, by rw [hT.out]; exact hl, hO, hgr⟩
        · obtain rfl : j = n := by omega
          have hfin := Lib.hid (hb3.out.grown hgr.out hb3.out.size (fun x hx => by simp at hx; subst hx; exact hgB))
          have hm' := hm.out
          subst hm'
          have hlin := Lib.hid hl.out.in
          clear hwl4 hl hO hgr
          go_wp2_with fail
          go_ret2
          exact ⟨hfin.out, p, c, rfl, hlin.out⟩
    · have hq1 : ((who : Int) != 1) = true := by simp; omega
      have hq2 : ((who : Int) != 2) = false := by simp; omega
      replace hwe := Lib.hid hwe
      go_upto_region 9 with fail
      generalize W2.setCell ⟨wl, 3, none⟩ (.int .i64 (k : Int)) = W3 at *
      have hO3' := hO3.out
      have hwl3' := hwl3.out
      obtain ⟨c0, c1, c2, c3⟩ := wcells hwl3'
      clear f3 hq1 hq2
      go_wp2_with fail
      go_loopg [10, 42] n (fun gk lv jv W' => ∃ (j m c : Nat) (p : Option Addr), gk = n - j ∧ j ≤ n ∧ jv = .int .i64 (j : Nat) ∧ lv = .slice p m c ∧ Hid (m = (TL wb s who j).length) ∧ Hid (Own 3 W3.heap.size W' p m c (asI (TL wb s who j))) ∧ Hid (Own 3 w.heap.size W' (some ⟨g, 0, none⟩) n gc (asI s)) ∧ Hid (W3.grownBy W' (some g)))
      case atStart => exact ⟨0, 0, 0, none, by omega, by omega, rfl, rfl, rfl, Own.nil _ _ _, hO3', grown_below (Below.refl _ _) _⟩
      case round =>
        clear hO3' hwl3' c0 c1 c2 c3
        obtain ⟨j, m, c, p, hgk, hj, rfl, rfl, hm, hl, hO, hgr⟩ := hrel
        obtain ⟨W4, rfl⟩ : ∃ W4 : World, W4 = wr := ⟨_, rfl⟩
        replace hgk := Lib.hid hgk
        have hwl4 := (hgr.out.block wl (lt_of_heap hwl3.out) (by simpa using hne)).trans hwl3.out
        have hg3 : g < W3.heap.size := (hO3.out.block _ rfl).2
        rcases Nat.lt_or_ge j n with hlt | hge
        · have cj := hO.out.cell hlt
          rw [asI_at] at cj
          have fj := hO.out.free j
          obtain ⟨c0, c1, c2, c3⟩ := wcells hwl4
          by_cases hz : st s j = 0
          · rw [hz] at cj
            have hjl : j < s.length := by rw [hsl.out]; exact hlt
            have hO5 := hO.out.set j (who : Int)
            rw [← asI_set] at hO5
            have hgr5 := grown_set hgr.out j (.int .i64 (who : Int))
            have hl5 : Own 3 W3.heap.size (W4.setCell ⟨g, j, none⟩ (.int .i64 (who : Int))) p m c (asI (TL wb s who j)) := hl.out.keep fun x hx => wset_ne _ _ (by have := (hl.out.block x hx).1; show x.block ≠ g; omega)
            have hwl5 := (hgr5.block wl (lt_of_heap hwl3.out) (by simpa using hne)).trans hwl3.out
            have hst2 : Hid (st (s.set j who) j = who) := by show _ = _; unfold st; rw [List.getElem?_set_self hjl]; rfl
            obtain ⟨hy', hx'⟩ : j / a < b ∧ j % a < a := ⟨Nat.div_lt_of_lt_mul (by rw [← hn.out]; exact hlt), Nat.mod_lt _ (by omega)⟩
            have hjat : Hid (j = j / a * a + j % a) := by show _ = _; rw [Nat.mul_comm]; exact (Nat.div_add_mod j a).symm
            have HWn := Lib.hid (wonG_any wl g gc a b k j (j % a) (j / a) n (s.set j who) (W4.setCell ⟨g, j, none⟩ (.int .i64 (who : Int))) ha1 ha hb hx' hy' hjat hn mv hwl5 hO5.in who hst2)
            have hws := hwb.out (s.set j who) (j % a) (j / a) hx' hy'
            rw [← hjat.out, hst2.out] at hws
            have hback := Lib.hid (set_back (v := who) hjl hz)
            replace hws := Lib.hid hws; replace hO5 := Lib.hid hO5; replace hgr5 := Lib.hid hgr5; replace hl5 := Lib.hid hl5; replace hz := Lib.hid hz
            clear hx' hy' hl hO hgr hwl4 hst2
            go_wp2_with fail
            generalize W4.setCell ⟨g, j, none⟩ (.int .i64 (who : Int)) = W5 at *
            refine HWn.out.mono ?_
            rintro e W6 ⟨⟨bw, rfl, hbw⟩, hb6⟩
            have hwbb : wb (s.set j who) j = bw := by rw [Bool.eq_iff_iff]; exact hws.out.trans hbw.symm
            have hl6 := hl5.out.below hb6 (Nat.le_refl _)
            have hO6 := hO5.out.below hb6 (Nat.le_refl _)
            have hgr6 := grown_trans hgr5.out (grown_below hb6 (some g))
            have hz6 : W3.heap.size ≤ W6.heap.size := hgr6.size
            have hwl6 := (hgr6.block wl (lt_of_heap hwl3.out) (by simpa using hne)).trans hwl3.out
            clear HWn hb6 hbw hws cj fj c0 c1 c2 c3 hl5 hO5 hgr5 hwl5
            obtain ⟨c0, c1, c2, c3⟩ := wcells hwl6
            cases bw with
            | false =>
              have hT := Lib.hid (TL_no (wb := wb) (s := s) (who := who) (j := j) fun h => by rw [hwbb] at h; exact absurd h.2 (by simp))
              have cj := hO6.cell hlt
              have fj := hO6.free j
              have hO7 := hO6.set j ((0 : Nat) : Int)
              rw [← asI_set, hback.out] at hO7
              have hl7 : Own 3 W3.heap.size (W6.setCell ⟨g, j, none⟩ (.int .i64 0)) p m c (asI (TL wb s who j)) := hl6.keep fun x hx => wset_ne _ _ (by have := (hl6.block x hx).1; show x.block ≠ g; omega)
              have hgr7 := Lib.hid (grown_set hgr6 j (.int .i64 0))
              generalize (asI (s.set j who))[j]?.getD 0 = old at cj
              replace hl7 := Lib.hid hl7; replace hO7 := Lib.hid hO7; replace hwbb := Lib.hid hwbb
              clear hl6 hO6 hgr6 hwl6
              go_wp2_with fail
              have hgk := hgk.out
              go_roundg (n - (j + 1))
              case measure => omega
              case rel => exact ⟨j + 1, m, c, p, rfl, by omega, by go_num, rfl, by rw [hT.out]; exact hm, by rw [hT.out]; exact hl7, hO7, hgr7⟩
            | true =>
              have hT := Lib.hid (TL_yes (wb := wb) (s := s) (who := who) (j := j) hz.out hwbb)
              have hmn : m ≤ n := by rw [hm.out]; exact Nat.le_trans (TL_len _ _ _ _) hj
              replace hl6 := Lib.hid hl6; replace hO6 := Lib.hid hO6; replace hgr6 := Lib.hid hgr6; replace hwbb := Lib.hid hwbb; replace hwl6 := Lib.hid hwl6
              have AP : Hid (∀ p7 c7 (w7 : World), Own 3 W3.heap.size w7 p7 (m + 1) c7 (asI (TL wb s who j) ++ [(j : Int)]) → W6.grownBy w7 (p.map (·.block)) → Own 3 w.heap.size w7 (some ⟨g, 0, none⟩) n gc (asI (s.set j who)) ∧ W3.grownBy w7 (some g) ∧ w7.heap[wl]? = some (.cells #[.int .i64 (a : Int), .int .i64 (b : Int), .slice (some ⟨g, 0, none⟩) n gc, .int .i64 (k : Int), .int .i64 (mv : Nat)] 41 (0, 0))) := fun p7 c7 w7 h1 h2 => by
                have hpx : ∀ x : Nat, x < W3.heap.size → some x ≠ p.map (·.block) := fun x hx e => by
                  cases p with
                  | none => cases e
                  | some y => simp at e; have := (hl6.out.block y rfl).1; omega
                refine ⟨hO6.out.keep fun x hx => by cases hx; exact h2.block g (Nat.lt_of_lt_of_le hg3 hz6) (hpx g hg3), ⟨h2.os.trans hgr6.out.os, h2.tape.trans hgr6.out.tape, h2.output.trans hgr6.out.output, Nat.le_trans hgr6.out.size h2.size, fun x hx hne2 => (h2.block x (Nat.lt_of_lt_of_le hx hz6) (hpx x hx)).trans (hgr6.out.block x hx hne2)⟩, (h2.block wl (lt_of_heap hwl6.out) (hpx wl (lt_of_heap hwl3.out))).trans hwl6.out⟩
              go_wp2_with (at_builtin; refine wp_append1 intG W6 rfl (.tmp 60) (.tmp 62) rfl W3.heap.size p m c _ rfl hl6.out (j : Int) rfl (by omega) hz6 ?_; intro p7 c7 w7 hl7 hg7 hr7 hz7; obtain ⟨hO7, hgr7, hwl7⟩ := AP.out p7 c7 w7 hl7 hg7; have k0 := (wcells hwl7).1; have k1 := (wcells hwl7).2.1; have k2 := (wcells hwl7).2.2.1; have k3 := (wcells hwl7).2.2.2; have cj7 := hO7.cell hlt; have fj7 := hO7.free j; replace hl7 := Lib.hid hl7; replace hg7 := Lib.hid hg7; replace hO7 := Lib.hid hO7; replace hgr7 := Lib.hid hgr7; replace hwl7 := Lib.hid hwl7)
              rw [← hT.out] at hl7
              have hO8 := hO7.out.set j ((0 : Nat) : Int)
              rw [← asI_set, hback.out] at hO8
              have hl8 : Own 3 W3.heap.size (w7.setCell ⟨g, j, none⟩ (.int .i64 0)) p7 (m + 1) c7 (asI (TL wb s who (j + 1))) := hl7.out.keep fun x hx => wset_ne _ _ (by have := (hl7.out.block x hx).1; show x.block ≠ g; omega)
              have hgr8 := Lib.hid (grown_set hgr7.out j (.int .i64 0))
              have hml : Hid (m + 1 = (TL wb s who (j + 1)).length) := by have := hl8.len; rw [asI_len'] at this; exact this.symm
              replace hl8 := Lib.hid hl8; replace hO8 := Lib.hid hO8
              have hgk := hgk.out
              go_roundg (n - (j + 1))
              case measure => omega
              case rel => exact ⟨j + 1, m + 1, c7, p7, rfl, by omega, by go_num, rfl, hml, hl8, hO8, hgr8⟩
          · have hT := Lib.hid (TL_no (wb := wb) (s := s) (who := who) (j := j) fun h => hz h.1)
            generalize st s j = sv at *
            have hzi : ¬ (sv : Int) = 0 := by omega
            have hzd : decide ((sv : Int) = 0) = false := decide_eq_false hzi
            have hzb : ((sv : Int) != 0) = true := by simp; omega
            clear hwl4
            go_wp2_with fail
            have hgk := hgk.out
            go_roundg (n - (j + 1))
            case measure => omega
            case rel => exact ⟨j + 1, m, c, p, rfl, by omega, by go_num, rfl, by rw [hT.out]; exact hm, by rw [hT.out]; exact hl, hO, hgr⟩
        · obtain rfl : j = n := by omega
          have hfin := Lib.hid (hb3.out.grown hgr.out hb3.out.size (fun x hx => by simp at hx; subst hx; exact hgB))
          have hm' := hm.out
          subst hm'
          have hlin := Lib.hid hl.out.in
          clear hwl4 hl hO hgr
          go_wp2_with fail
          go_ret2
          exact ⟨hfin.out, p, c, rfl, hlin.out⟩
end Go.Proofs.Ytfoojdkbonmmgaa
