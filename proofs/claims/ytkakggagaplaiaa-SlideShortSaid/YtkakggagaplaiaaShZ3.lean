/- The law SlideShort: its walk where wide is true; no conditions but the argument's kind. -/
import Derived.Test.YtkakggagaplaiaaShD
import Derived.Test.YtkakggagaplaiaaShG
import Derived.Test.YtkakggagaplaiaaShL
import Derived.Test.YtkakggagaplaiaaSlT
import Derived.BigQuiet
namespace Go.Proofs.Ytkakggagaplaiaa
open Go.RowKit

theorem smR_succ3 (a b d : Nat) : smR a b (d + 1) sg0 = smR a b d sg0 + (stg a b d).2.length := rfl
theorem ok_says3 {d : Nat} {L : List Nat} (hd : d ≤ 21) (h : L ∈ (stg 3 2 d).2) : lsS 3 L 6 ≤ d ∧ d % 2 = (3 - 1 - ixN L 0 % 3 + (2 - 1) - ixN L 0 / 3) % 2 := by
  have hab : (3 = 2 ∧ 2 = 3 ∨ 3 = 3 ∧ 2 = 2) := by decide
  have := ((stages hab).1 d (by omega)).2 L h
  unfold okB at this
  rw [Bool.and_eq_true] at this
  exact ⟨of_decide_eq_true this.1, by simpa using this.2⟩
set_option maxRecDepth 20000 in
set_option maxHeartbeats 4000000 in
theorem short3_any (k : Int) (w : World) (hk : -9223372036854775808 ≤ k ∧ k ≤ 9223372036854775807) :
    Calls Try.prog 10 #[.int .i64 k, .bool true] w fun e w' => e = .returned (.bool true) ∧ Below w.heap.size w w' := by
  have hab : (3 = 2 ∧ 2 = 3 ∨ 3 = 3 ∧ 2 = 2) := by decide
  have HC := Lib.hid (fun s W (hs : s ≤ 21) => count_any 3 2 s W hab hs)
  have h360 := Lib.hid (stages hab).2.2
  have PA := Lib.hid (fun W => picked_any k 720 W hk.1 hk.2 (by omega) (by omega) 720 rfl)
  have lk := pick_lt k 720 (by omega)
  clear hk
  generalize pick k 720 = x at *
  have HOK := Lib.hid (fun d hd h => ok_says3 (d := d) (L := nth 6 x) hd h)
  have HFC := Lib.hid (fun hc => found_can hab lk hc)
  have hOrd := Lib.hid (nth_ord (n := 6) (k := x) (by simpa [fac] using lk))
  replace hab := Lib.hid hab
  replace lk := Lib.hid lk
  go_enter Try.func10, Try.ntmps10
  go_upto_region 5 with fail
  go_wp2_with fail
  go_loopg [7, 8] 22 (fun gk sv iv W' => ∃ j : Nat, j ≤ 22 ∧ gk = 22 - j ∧ iv = .int .i64 (j : Nat) ∧ sv = .int .i64 (smR 3 2 j sg0 : Nat) ∧ Hid (Below w.heap.size w W'))
  case atStart => exact ⟨0, by omega, by omega, rfl, rfl, Below.refl _ _⟩
  case round =>
    obtain ⟨j, hj, hgk, rfl, rfl, hB⟩ := hrel
    obtain ⟨W1, rfl⟩ : ∃ W1 : World, W1 = wr := ⟨_, rfl⟩
    replace hgk := Lib.hid hgk
    rcases Nat.lt_or_ge j 22 with hlt | hge
    · have HJ := Lib.hid (HC.out j W1 (by omega))
      have hs1 : smR 3 2 (j + 1) sg0 ≤ 360 := by rw [← h360.out]; exact smR_mono 3 2 (by omega)
      have hs2 := smR_succ3 3 2 j
      have dj : decide ((j : Int) ≤ 21) = true := decide_eq_true (by omega)
      have hwr : IntKind.i64.wrap (((smR 3 2 j sg0 : Nat) : Int) + ((stg 3 2 j).2.length : Nat)) = ((smR 3 2 (j + 1) sg0 : Nat) : Int) := by
        rw [hs2]; push_cast; exact IntWalk.i64_in _ (by omega)
      replace hs2 := Lib.hid hs2
      go_wp2_with fail
      refine HJ.out.mono ?_
      rintro e W2 ⟨rfl, hb2⟩
      have hB2 : Below w.heap.size w W2 := hB.out.trans (hb2.mono hB.out.size)
      clear HJ hb2
      go_wp2_with fail
      have hgk := hgk.out
      go_roundg (22 - (j + 1))
      case measure => omega
      case rel => exact ⟨j + 1, by omega, rfl, by go_num, by first | rfl | (rw [hs2.out]; go_num), hB2⟩
    · obtain rfl : j = 22 := by omega
      have dj : decide (((22 : Nat) : Int) ≤ 21) = false := by decide
      rw [h360.out]
      clear HC
      go_upto_region 14 with fail
      have HT := Lib.hid (tray_any 3 2 6 x W1 (by omega) (by omega) (by omega) (by omega) (Lib.hid rfl) (by simpa [fac] using lk.out))
      go_wp2_with fail
      refine (PA.out _).mono ?_
      rintro e w' ⟨rfl, rfl⟩
      go_wp2_with fail
      refine HT.out.mono ?_
      rintro e W2 ⟨p, c, rfl, hO, hb2⟩
      have z1 := heap_alloc_new W2 (.cells #[.int .i64 0, .int .i64 0, .slice none 0 0] 39)
      have y0 : (W2.alloc (.cells #[.int .i64 0, .int .i64 0, .slice none 0 0] 39)).cell? ⟨W2.heap.size, 0, none⟩ = some (.int .i64 0) := wcell (cs := [_, _, _]) z1 0
      have y1 : (W2.alloc (.cells #[.int .i64 0, .int .i64 0, .slice none 0 0] 39)).cell? ⟨W2.heap.size, 1, none⟩ = some (.int .i64 0) := wcell (cs := [_, _, _]) z1 1
      have y2 : (W2.alloc (.cells #[.int .i64 0, .int .i64 0, .slice none 0 0] 39)).cell? ⟨W2.heap.size, 2, none⟩ = some (.slice none 0 0) := wcell (cs := [_, _, _]) z1 2
      have v0 := wfree z1 0
      have v1 := wfree z1 1
      have v2 := wfree z1 2
      replace z1 := Lib.hid z1
      have hc6 : 6 ≤ c := OwnC.cap (k := 1) hO
      have q3 := heap_alloc_new W2 (.cells #[.int .i64 (3 : Int), .int .i64 (2 : Int), .slice p 6 c] 39)
      have hB23 : Below W2.heap.size W2 (W2.alloc (.cells #[.int .i64 (3 : Int), .int .i64 (2 : Int), .slice p 6 c] 39)) := (Below.refl _ W2).alloc (Nat.le_refl _) _
      have hx3 := hO.in.below hB23
      have hs3 : (W2.alloc (.cells #[.int .i64 (3 : Int), .int .i64 (2 : Int), .slice p 6 c] 39)).heap.size = W2.heap.size + 1 := by simp
      have hB3 : Below w.heap.size w (W2.alloc (.cells #[.int .i64 (3 : Int), .int .i64 (2 : Int), .slice p 6 c] 39)) := hB.out.trans ((hb2.mono hB.out.size).trans (hB23.mono (Nat.le_trans hB.out.size hb2.size)))
      have hle : w.heap.size ≤ W2.heap.size := Nat.le_trans hB.out.size hb2.size
      replace q3 := Lib.hid q3; replace hx3 := Lib.hid hx3; replace hs3 := Lib.hid hs3; replace hB3 := Lib.hid hB3; replace hle := Lib.hid hle
      go_upto_region 15 with fail
      clear y0 y1 y2 v0 v1 v2 z1 HT hb2 hO hB23 PA hB
      generalize W2.alloc (.cells #[.int .i64 (3 : Int), .int .i64 (2 : Int), .slice p 6 c] 39) = W3 at *
      generalize W2.heap.size = R at *
      have HQ := Lib.hid (fun W (h : Below (R + 1) W3 W) => (wcell (cs := [_, _, _]) ((h.block R (by omega)).trans q3.out) 0 : W.cell? ⟨R, 0, none⟩ = some (.int .i64 (3 : Int))))
      have HQ1 := Lib.hid (fun W (h : Below (R + 1) W3 W) => (wcell (cs := [_, _, _]) ((h.block R (by omega)).trans q3.out) 1 : W.cell? ⟨R, 1, none⟩ = some (.int .i64 (2 : Int))))
      have HQ2 := Lib.hid (fun W (h : Below (R + 1) W3 W) => (wcell (cs := [_, _, _]) ((h.block R (by omega)).trans q3.out) 2 : W.cell? ⟨R, 2, none⟩ = some (.slice p 6 c)))
      have HX := Lib.hid (fun W (h : Below (R + 1) W3 W) => (hx3.out.below (by rw [hs3.out]; exact h) : IntsIn W p 6 (asI (nth 6 x))))
      have HE := Lib.hid (fun W (h : Below (R + 1) W3 W) => (hB3.out.trans (h.mono (Nat.le_succ_of_le hle.out)) : Below w.heap.size w W))
      have HR := Lib.hid (fun W (h : Below (R + 1) W3 W) => (by have := h.size; rw [hs3.out] at this; exact this : R + 1 ≤ W.heap.size))
      have hb3 := Lib.hid (Below.refl (R + 1) W3)
      have k0 := HQ.out W3 (Below.refl _ _)
      have k1 := HQ1.out W3 (Below.refl _ _)
      have k2 := HQ2.out W3 (Below.refl _ _)
      have HM := Lib.hid (can_any 3 2 6 c p (nth 6 x) W3 (by omega) (by omega) (by omega) (by omega) (Lib.hid rfl) hc6 (HX.out W3 (Below.refl _ _)) hOrd.out)
      clear hx3 hB3 hle q3
      go_wp2_with fail
      refine HM.out.mono ?_
      rintro e W4 ⟨rfl, hb4⟩
      rw [hs3.out] at hb4
      clear HM k0 k1 k2 hb3 hs3
      have k0 := HQ.out W4 hb4
      have k1 := HQ1.out W4 hb4
      have k2 := HQ2.out W4 hb4
      have hz4 := HR.out W4 hb4
      have HM := Lib.hid (least_any 3 2 c p (nth 6 x) W4 (by omega) (by omega) (by omega) (by omega) (Lib.hid rfl) (HX.out W4 hb4) hOrd.out)
      replace hb4 := Lib.hid hb4; replace hz4 := Lib.hid hz4
      go_wp2_with fail
      refine HM.out.mono ?_
      rintro e W5 ⟨rfl, hb5⟩
      have hb5 : Below (R + 1) W3 W5 := hb4.out.trans (hb5.mono hz4.out)
      clear HM k0 k1 k2 hb4 hz4
      have k0 := HQ.out W5 hb5
      have k1 := HQ1.out W5 hb5
      have k2 := HQ2.out W5 hb5
      have hz5 := Lib.hid (HR.out W5 hb5)
      obtain ⟨cn, hcn⟩ : ∃ cn, canS 3 2 (nth 6 x) = cn := ⟨_, rfl⟩
      rw [hcn]
      replace hcn := Lib.hid hcn
      cases cn with
      | false =>
        have HM := Lib.hid (homeN_any 3 2 c p (nth 6 x) W5 (by decide) hc6 (HX.out W5 hb5) hOrd.out hcn.out)
        replace hb5 := Lib.hid hb5
        go_wp2_with fail
        refine HM.out.mono ?_
        rintro e W6 ⟨rfl, hb6⟩
        have hb6 : Below (R + 1) W3 W6 := hb5.out.trans (hb6.mono hz5.out)
        have hfin := Lib.hid (HE.out W6 hb6)
        clear HM k0 k1 k2 hb5 hz5 hb6 HQ HQ1 HQ2 HX HE HR
        go_wp2_with fail
        go_ret
        exact ⟨rfl, hfin.out⟩
      | true =>
        have HM := Lib.hid (homeB_any 3 2 c p (nth 6 x) W5 (by decide) hc6 (HX.out W5 hb5) hOrd.out hcn.out (HFC.out hcn.out))
        replace hb5 := Lib.hid hb5
        go_wp2_with fail
        refine HM.out.mono ?_
        rintro e W6 ⟨d, q, cq, hd, hmem, rfl, hb6⟩
        have hb6 : Below (R + 1) W3 W6 := hb5.out.trans (hb6.mono hz5.out)
        have hfin := Lib.hid (HE.out W6 hb6)
        have hx6 := HX.out W6 hb6
        have k2 := HQ2.out W6 hb6
        obtain ⟨hl1, hl2⟩ := HOK.out d hd hmem
        clear HM k0 k1 hb5 hz5 hb6 HQ HQ1 HQ2 HX HE HR HOK HFC hmem
        obtain ⟨hg, hg0⟩ := st_ix hOrd.out (by omega)
        have hgne : Hid (∀ j, j < 6 → j ≠ ixN (nth 6 x) 0 → st (nth 6 x) j ≠ 0) := fun j hj hne h0 => hne (ix_at hOrd.out hj h0).symm
        obtain ⟨pb, po, rfl, hpb, hpc⟩ := hx6.at (by omega)
        have hcl : Hid (∀ i, i < 6 → W6.cell? ⟨pb, po + i, none⟩ = some (.int .i64 (st (nth 6 x) i : Nat))) := fun i hi => by
          have := hpc i hi; rwa [asI_at] at this
        clear hpc hx6 hcn hOrd hab h360 lk
        generalize lsS 3 (nth 6 x) 6 = ls at *
        generalize ixN (nth 6 x) 0 = g at *
        have c1 : decide ((ls : Int) ≤ (d : Int)) = true := decide_eq_true (by omega)
        have c2 : decide ((d : Int) ≤ 21) = true := decide_eq_true (by omega)
        have hdm : (d : Int).tmod 2 = ((d % 2 : Nat) : Int) := by rw [Int.tmod_eq_emod_of_nonneg (by omega)]; push_cast; rfl
        rw [hl2] at hdm
        replace hdm := Lib.hid hdm; replace c1 := Lib.hid c1; replace c2 := Lib.hid c2
        clear hl2 hl1
        go_wp2_with fail
        go_loopg [19] 6 (fun gk iv W' => ∃ j : Nat, j ≤ g ∧ gk = 6 - j ∧ iv = .int .i64 (j : Nat) ∧ W' = W6)
        case atStart => exact ⟨0, by omega, by omega, rfl, rfl⟩
        case round =>
          obtain ⟨j, hj, hgk, rfl, rfl⟩ := hrel
          replace hgk := Lib.hid hgk
          have cj := hcl.out j (by omega)
          rcases Nat.lt_or_ge j g with hlt | hge
          · have hs0 := hgne.out j (by omega) (by omega)
            generalize st (nth 6 x) j = s at *
            have hd0 : decide ((s : Int) = 0) = false := decide_eq_false (by omega)
            have hn0 : ¬ (s : Int) = 0 := by omega
            clear hgne hcl
            go_wp2_with fail
            have hgk := hgk.out
            go_roundg (6 - (j + 1))
            case measure => omega
            case rel => exact ⟨j + 1, by omega, rfl, by go_num, rfl⟩
          · obtain rfl : j = g := by omega
            rw [hg0] at cj
            have c1 := c1.out
            have c2 := c2.out
            have c1p : (ls : Int) ≤ (d : Int) := of_decide_eq_true c1
            have c2p : (d : Int) ≤ 21 := of_decide_eq_true c2
            have c1q : ((d : Int) ≥ (ls : Int)) = True := by simp [c1p]
            have hdm := hdm.out
            clear hgne hcl hg0 hge
            rcases (show j = 0 ∨ j = 1 ∨ j = 2 ∨ j = 3 ∨ j = 4 ∨ j = 5 by omega) with rfl | rfl | rfl | rfl | rfl | rfl
            all_goals (
              try simp only [Nat.add_zero] at cj
              simp only [Nat.reduceMod, Nat.reduceDiv, Nat.reduceSub, Nat.reduceAdd, Nat.zero_mod, Nat.zero_div, Nat.sub_zero] at hdm
              go_wp2_with fail
              go_quiet (fail)
              go_wp2_with fail
              go_ret
              exact ⟨rfl, below_drewN hfin.out _⟩)
end Go.Proofs.Ytkakggagaplaiaa
