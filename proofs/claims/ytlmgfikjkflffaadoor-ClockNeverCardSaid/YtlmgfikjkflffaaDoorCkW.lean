/- What a press of the device computes; conditions: the device lies in block g as DevAt tells, and its numbers are small. -/
import Derived.Test.YtlmgfikjkflffaaDoorCkD
import Derived.Deep.RegionHeld3
import Derived.Deep.DeepCutAuto
import Derived.Deep.CutBlock
import Derived.Deep.RegionLaw
import Derived.Laws.Bits64b
namespace Go.Proofs.YtlmgfikjkflffaaDoor
open Go.RowKit

def devR (c : Ct) (d : Dv) : Array Value := #[.int .i64 c.base, .int .i64 c.kind, .int .i64 c.bonus, .int .i64 c.moves, .int .i64 c.more, .int .i64 d.t0, .int .i64 d.t1, .int .i64 d.fl, .int .i64 d.mv, .int .i64 d.m0, .int .i64 d.m1]
def DevAt (w : World) (g : Nat) (c : Ct) (d : Dv) : Prop := w.heap[g]? = some (.cells (devR c d) 45 (0, 0))
section
variable {w w' : World} {g : Nat} {c : Ct} {d : Dv}
theorem DevAt.cell (h : DevAt w g c d) (i : Nat) : w.cell? ⟨g, i, none⟩ = (devR c d)[i]? := by rw [cell_of_row w g i _ 45 (0, 0) h]
theorem DevAt.free (h : DevAt w g c d) (i : Nat) : w.frozen? ⟨g, i, none⟩ = false := wfree h i
theorem DevAt.set (h : DevAt w g c d) (i : Nat) (v : Value) (e : Dv) (he : (devR c d).setIfInBounds i v = devR c e) : DevAt (w.setCell ⟨g, i, none⟩ v) g c e := by
  unfold DevAt
  rw [wset h i v, he]
theorem DevAt.drew (h : DevAt w g c d) : DevAt w.drew g c d := h
theorem DevAt.lt (h : DevAt w g c d) : g < w.heap.size := lt_of_heap h
theorem DevAt.below {B : Nat} (h : DevAt w g c d) (hb : Below B w w') (hg : g < B) : DevAt w' g c d := (hb.block g hg).trans h
theorem DevAt.grown {row : Option Nat} (h : DevAt w g c d) (hb : w.grownBy w' row) (hg : some g ≠ row) : DevAt w' g c d := (hb.block g h.lt hg).trans h
end
/-- only block g has been written. -/
structure OnlyG (w w' : World) (g : Nat) : Prop where
  gr : w.grownBy w' (some g)
  sz : w'.heap.size = w.heap.size
theorem OnlyG.refl (w : World) (g : Nat) : OnlyG w w g := ⟨grown_below (Below.refl _ _) _, rfl⟩
theorem OnlyG.set {w w' : World} {g : Nat} (h : OnlyG w w' g) (i : Nat) (v : Value) : OnlyG w (w'.setCell ⟨g, i, none⟩ v) g := ⟨grown_set h.gr i v, by simpa [World.setCell] using h.sz⟩
theorem OnlyG.drew {w w' : World} {g : Nat} (h : OnlyG w w' g) : OnlyG w w'.drew g := ⟨grown_drew h.gr, h.sz⟩
theorem OnlyG.drewN {w w' : World} {g : Nat} (h : OnlyG w w' g) (k : Nat) : OnlyG w (w'.drewN k) g := ⟨grown_drewN h.gr k, h.sz⟩
theorem OnlyG.of {w w' w2 : World} {g : Nat} (h : OnlyG w w' g) (e1 : w2.os = w'.os) (e2 : w2.tape = w'.tape) (e3 : w2.output = w'.output) (e4 : w2.heap = w'.heap) : OnlyG w w2 g :=
  ⟨⟨e1.trans h.gr.os, e2.trans h.gr.tape, e3.trans h.gr.output, by rw [e4]; exact h.gr.size, fun i hi hne => by rw [e4]; exact h.gr.block i hi hne⟩, by rw [e4]; exact h.sz⟩
theorem and_one (n : Nat) : bits .and .i64 (n : Int) 1 = ((n % 2 : Nat) : Int) := by
  have h1 : (BitVec.ofInt 64 1).toNat = 2 ^ 1 - 1 := by decide
  have key : (BitVec.ofInt 64 (n : Int) &&& BitVec.ofInt 64 1).toNat = ((n : Int) % ((2 ^ 64 : Nat) : Int)).toNat % 2 ^ 1 := by
    rw [BitVec.toNat_and, BitVec.toNat_ofInt, h1, Nat.and_two_pow_sub_one_eq_mod]
  show IntKind.i64.wrap ((BitVec.ofInt 64 (n : Int) &&& BitVec.ofInt 64 1).toNat : Nat) = _
  rw [key, IntKind.wrap_i64]
  omega

set_option maxRecDepth 20000 in
set_option maxHeartbeats 8000000 in
theorem press0_any (w : World) (g : Nat) (c : Ct) (d : Dv) (u : Nat) (hD : DevAt w g c d) (hp : d.mv % 2 = 0) (hb : c.bonus ≤ 36000000) (hmo : c.more ≤ 36000000) (hmv : c.moves ≤ 1000)
    (hu : u ≤ 36000000) (ht : d.t0 ≤ 100000000000) (hm : d.m0 ≤ 1000) (hv : d.mv ≤ 1000) :
    Calls Tryd.prog 21 #[.pointer (some ⟨g, 0, none⟩), .int .i64 u] w fun e w' => e = .returned (.bool (stepS c d u).2) ∧ DevAt w' g c (stepS c d u).1 ∧ OnlyG w w' g := by
  have hst : stepS c d u = match pressS c d.t0 d.m0 u with
    | none => ({ d with t0 := 0, fl := 0 }, false)
    | some r => ({ d with t0 := r.1, m0 := r.2, mv := d.mv + 1 }, true) := by
    unfold stepS
    first | rw [if_pos (by omega)] | rw [if_neg (by omega)]
    cases pressS c d.t0 d.m0 u <;> rfl
  unfold pressS at hst
  have hand := and_one d.mv
  rw [hp] at hand
  have c1 : w.cell? ⟨g, 1, none⟩ = some (.int .i64 c.kind) := by rw [hD.cell]; rfl
  have c2 : w.cell? ⟨g, 2, none⟩ = some (.int .i64 c.bonus) := by rw [hD.cell]; rfl
  have c8 : w.cell? ⟨g, 8, none⟩ = some (.int .i64 d.mv) := by rw [hD.cell]; rfl
  have ct : w.cell? ⟨g, 5, none⟩ = some (.int .i64 d.t0) := by rw [hD.cell]; rfl
  obtain ⟨tk, htk⟩ : ∃ tk, takenS c u = tk := ⟨_, rfl⟩
  rw [htk] at hst
  have htu : tk ≤ u := by rw [← htk]; unfold takenS; split <;> omega
  obtain ⟨d1, hd1⟩ : ∃ d1 : Dv, d1 = { d with t0 := 0, fl := 0 } := ⟨_, rfl⟩
  have hF : DevAt ((w.setCell ⟨g, 5, none⟩ (.int .i64 0)).setCell ⟨g, 7, none⟩ (.int .i64 0)) g c d1 := by
    rw [hd1]
    exact DevAt.set (d := { d with t0 := 0 }) (hD.set 5 _ _ rfl) 7 _ _ rfl
  have hF2 : OnlyG w ((w.setCell ⟨g, 5, none⟩ (.int .i64 0)).setCell ⟨g, 7, none⟩ (.int .i64 0)) g := ((OnlyG.refl w g).set _ _).set _ _
  have f0 := hD.free 5
  have c7 : (w.setCell ⟨g, 5, none⟩ (.int .i64 0)).cell? ⟨g, 7, none⟩ = some (.int .i64 d.fl) := by rw [DevAt.cell (c := c) (d := { d with t0 := 0 }) (hD.set 5 (.int .i64 0) _ rfl)]; rfl
  have f1 : (w.setCell ⟨g, 5, none⟩ (.int .i64 0)).frozen? ⟨g, 7, none⟩ = false := (hD.set 5 (.int .i64 0) { d with t0 := 0 } rfl).free 7
  have hE : DevAt (w.setCell ⟨g, 5, none⟩ (.int .i64 ((d.t0 - tk : Nat) : Int))) g c { d with t0 := d.t0 - tk } := hD.set 5 _ _ rfl
  have hE2 : OnlyG w (w.setCell ⟨g, 5, none⟩ (.int .i64 ((d.t0 - tk : Nat) : Int))) g := (OnlyG.refl w g).set _ _
  replace hst := Lib.hid hst; replace hF := Lib.hid hF; replace hF2 := Lib.hid hF2; replace hE := Lib.hid hE; replace hE2 := Lib.hid hE2; replace hp := Lib.hid hp; replace htk := Lib.hid htk
  replace hD := Lib.hid hD; replace hd1 := Lib.hid hd1
  go_enter Tryd.func21, Tryd.ntmps21
  go_upto_if 26 with fail
  go_cut [7] (fun s wx => s = .int .i64 (tk : Int) ∧ wx = w)
  case first =>
    by_cases h3 : c.kind = 3
    · have z3 : ((c.kind : Int) == 3) = true := by simp [h3]
      by_cases h4 : c.bonus ≤ u
      · have htk2 : (u : Int) - c.bonus = tk := by have := htk.out; unfold takenS at this; rw [if_pos h3] at this; omega
        have h5 : 0 ≤ (tk : Int) := by omega
        replace h3 := Lib.hid h3
        go_wp2_with fail
        go_meet
        exact ⟨rfl, rfl⟩
      · have htk2 : tk = 0 := by have := htk.out; unfold takenS at this; rw [if_pos h3] at this; omega
        have h5 : (u : Int) - c.bonus < 0 := by omega
        replace h3 := Lib.hid h3; replace htk2 := Lib.hid htk2
        go_wp2_with fail
        go_meet
        all_goals exact ⟨by rw [htk2.out]; rfl, rfl⟩
    · have z3 : ((c.kind : Int) == 3) = false := by simp; omega
      have htk2 : tk = u := by have := htk.out; unfold takenS at this; rw [if_neg h3] at this; omega
      replace h3 := Lib.hid h3; replace htk2 := Lib.hid htk2
      go_wp2_with fail
      go_meet
      exact ⟨by rw [htk2.out], rfl⟩
  case rest =>
    obtain ⟨rfl, hw0⟩ := hcut
    obtain rfl := hw0.symm
    clear hw0
    by_cases hlt : d.t0 < tk
    · have hst2 := hst.out
      rw [if_pos hlt] at hst2
      replace hst2 := Lib.hid hst2; clear hst
      go_wp2_with fail
      go_ret
      rw [hst2.out]
      exact ⟨rfl, by rw [← hd1.out]; exact hF.out, hF2.out⟩
    · have hst2 := hst.out
      rw [if_neg hlt] at hst2
      have hlt' : tk ≤ d.t0 := by omega
      clear hlt hst
      have hsub : (d.t0 : Int) - (tk : Int) = ((d.t0 - tk : Nat) : Int) := by omega
      obtain ⟨t1, ht1⟩ : ∃ t1, d.t0 - tk = t1 := ⟨_, rfl⟩
      rw [ht1] at hsub hst2 hE hE2
      have ht1b : t1 ≤ 100000000000 := by omega
      replace hst2 := Lib.hid hst2; replace ht1 := Lib.hid ht1
      clear hF hF2
      go_upto_block 0 with fail
      generalize w.setCell ⟨g, 5, none⟩ (.int .i64 (t1 : Int)) = w1 at *
      clear c1 c2 c7 c8 ct f0 f1 hand
      obtain ⟨t2, ht2⟩ : ∃ t2, giveS c t1 u = t2 := ⟨_, rfl⟩
      have ht2b : t2 ≤ 200000000000 := by
        have := giveS_le c t1 u
        rw [ht2] at this
        split at this <;> omega
      have k1 : w1.cell? ⟨g, 1, none⟩ = some (.int .i64 c.kind) := by rw [hE.out.cell]; rfl
      have k2 : w1.cell? ⟨g, 2, none⟩ = some (.int .i64 c.bonus) := by rw [hE.out.cell]; rfl
      have kt : w1.cell? ⟨g, 5, none⟩ = some (.int .i64 t1) := by rw [hE.out.cell]; rfl
      have f0 := hE.out.free 5
      replace ht2 := Lib.hid ht2
      go_cut [] (fun wx => DevAt wx g c { d with t0 := t2 } ∧ OnlyG w wx g)
      case first =>
        have hG : DevAt (w1.setCell ⟨g, 5, none⟩ (.int .i64 (t2 : Int))) g c { d with t0 := t2 } := hE.out.set 5 _ _ rfl
        have hG2 : OnlyG w (w1.setCell ⟨g, 5, none⟩ (.int .i64 (t2 : Int))) g := hE2.out.set _ _
        replace hG := Lib.hid hG; replace hG2 := Lib.hid hG2
        by_cases h1 : c.kind = 1
        · have z1 : ((c.kind : Int) == 1) = true := by simp [h1]
          have hw : (t1 : Int) + c.bonus = t2 := by have := ht2.out; unfold giveS at this; rw [if_pos h1] at this; omega
          replace h1 := Lib.hid h1; replace hw := Lib.hid hw
          go_wp2_with fail
          go_region_law (fail)
          all_goals
            go_wp2_with fail
            go_meet
            rw [IntWalk.i64_in _ (by omega), hw.out]
            exact ⟨hG.out.drew, hG2.out.drew⟩
        · have z1 : ((c.kind : Int) == 1) = false := by simp; omega
          by_cases h2 : c.kind = 2
          · have z2 : ((c.kind : Int) == 2) = true := by simp [h2]
            by_cases h3 : c.bonus ≤ u
            · have hw : (t1 : Int) + c.bonus = t2 := by have := ht2.out; unfold giveS at this; rw [if_neg h1, if_pos h2] at this; omega
              have h4 : (c.bonus : Int) ≤ u := by omega
              have h5 : min (c.bonus : Int) u = c.bonus := by omega
              replace h1 := Lib.hid h1; replace h2 := Lib.hid h2; replace hw := Lib.hid hw
              go_wp2_with fail
              go_region_law (fail)
              all_goals
                go_wp2_with fail
                go_meet
                rw [IntWalk.i64_in _ (by omega), hw.out]
                exact ⟨hG.out.drew, hG2.out.drew⟩
            · have hw : (t1 : Int) + u = t2 := by have := ht2.out; unfold giveS at this; rw [if_neg h1, if_pos h2] at this; omega
              have h4 : (u : Int) < c.bonus := by omega
              have h5 : min (c.bonus : Int) u = u := by omega
              replace h1 := Lib.hid h1; replace h2 := Lib.hid h2; replace hw := Lib.hid hw
              go_wp2_with fail
              go_region_law (fail)
              all_goals
                go_wp2_with fail
                go_meet
                rw [IntWalk.i64_in _ (by omega), hw.out]
                exact ⟨hG.out.drew, hG2.out.drew⟩
          · have z2 : ((c.kind : Int) == 2) = false := by simp; omega
            have e2 : t2 = t1 := by have := ht2.out; unfold giveS at this; rw [if_neg h1, if_neg h2] at this; omega
            replace h1 := Lib.hid h1; replace h2 := Lib.hid h2; replace e2 := Lib.hid e2
            go_wp2_with fail
            go_meet
            exact ⟨by rw [e2.out]; exact hE.out, hE2.out⟩
      case rest =>
        obtain ⟨hG, hG2⟩ := hcut
        clear k1 k2 kt f0 hE hE2
        obtain ⟨w2, rfl⟩ : ∃ w2 : World, w2 = wc := ⟨_, rfl⟩
        have k8 : w2.cell? ⟨g, 8, none⟩ = some (.int .i64 d.mv) := by rw [hG.cell]; rfl
        have f8 := hG.free 8
        have hv2 : (d.mv : Int) + 1 = ((d.mv + 1 : Nat) : Int) := by omega
        have hH : DevAt (w2.setCell ⟨g, 8, none⟩ (.int .i64 ((d.mv + 1 : Nat) : Int))) g c { d with t0 := t2, mv := d.mv + 1 } := hG.set 8 _ _ rfl
        have hH2 : OnlyG w (w2.setCell ⟨g, 8, none⟩ (.int .i64 ((d.mv + 1 : Nat) : Int))) g := hG2.set _ _
        rw [← hv2] at hH hH2
        replace hG := Lib.hid hG; replace hG2 := Lib.hid hG2; replace hH := Lib.hid hH; replace hH2 := Lib.hid hH2; replace hv2 := Lib.hid hv2
        go_upto_region 17 with fail
        generalize w2.setCell ⟨g, 8, none⟩ (.int .i64 ((d.mv : Int) + 1)) = w3 at *
        clear k8 f8
        have km : w3.cell? ⟨g, 9, none⟩ = some (.int .i64 d.m0) := by rw [hH.out.cell]; rfl
        have fm := hH.out.free 9
        have hm2 : (d.m0 : Int) + 1 = ((d.m0 + 1 : Nat) : Int) := by omega
        go_cut [] (fun wx => DevAt wx g c { d with t0 := t2, mv := d.mv + 1, m0 := d.m0 + 1 } ∧ OnlyG w wx g)
        case first =>
          have hI : DevAt (w3.setCell ⟨g, 9, none⟩ (.int .i64 ((d.m0 + 1 : Nat) : Int))) g c { d with t0 := t2, mv := d.mv + 1, m0 := d.m0 + 1 } := hH.out.set 9 _ _ rfl
          have hI2 : OnlyG w (w3.setCell ⟨g, 9, none⟩ (.int .i64 ((d.m0 + 1 : Nat) : Int))) g := hH2.out.set _ _
          have hw : (d.m0 : Int) + 1 = ((d.m0 + 1 : Nat) : Int) := by omega
          replace hI := Lib.hid hI; replace hI2 := Lib.hid hI2; replace hm2 := Lib.hid hm2; replace hw := Lib.hid hw
          go_region_law (fail)
          all_goals
            go_wp2_with fail
            go_meet
            rw [IntWalk.i64_in _ (by omega), hw.out]
            exact ⟨hI.out.drew, hI2.out.drew⟩
        case rest =>
          obtain ⟨hI, hI2⟩ := hcut
          clear km fm hH hH2 hm2
          obtain ⟨w4, rfl⟩ : ∃ w4 : World, w4 = wc := ⟨_, rfl⟩
          have k3 : w4.cell? ⟨g, 3, none⟩ = some (.int .i64 c.moves) := by rw [hI.cell]; rfl
          have k4 : w4.cell? ⟨g, 4, none⟩ = some (.int .i64 c.more) := by rw [hI.cell]; rfl
          have km : w4.cell? ⟨g, 9, none⟩ = some (.int .i64 ((d.m0 + 1 : Nat) : Int)) := by rw [hI.cell]; rfl
          have kt : w4.cell? ⟨g, 5, none⟩ = some (.int .i64 t2) := by rw [hI.cell]; rfl
          have ft := hI.free 5
          obtain ⟨mm, hmm⟩ : ∃ mm, d.m0 + 1 = mm := ⟨_, rfl⟩
          rw [hmm] at km hI
          have hend : endS c d.m0 t2 = if 0 < c.moves ∧ mm % c.moves = 0 then t2 + c.more else t2 := by unfold endS; rw [hmm]
          have hst3 := hst2.out
          rw [ht2.out, hmm] at hst3
          replace hmm := Lib.hid hmm
          clear hst2 ht2
          by_cases hz : 0 < c.moves
          · have hzm : 0 < (c.moves : Int) := by omega
            have hzd : decide (0 < c.moves) = true := decide_eq_true hz
            have hzn : ¬ ((c.moves : Int) = 0) := by omega
            have hzn2 : ((c.moves : Int) == 0) = false := by simp; omega
            by_cases hr : mm % c.moves = 0
            · rw [if_pos ⟨hz, hr⟩] at hend
              rw [hend] at hst3
              have hr2 : (mm : Int) % (c.moves : Int) = 0 := by
                have : ((mm % c.moves : Nat) : Int) = 0 := by rw [hr]; rfl
                rwa [Int.natCast_emod] at this
              have hJ : DevAt (w4.setCell ⟨g, 5, none⟩ (.int .i64 ((t2 + c.more : Nat) : Int))) g c { d with t0 := t2 + c.more, mv := d.mv + 1, m0 := mm } := hI.set 5 _ _ rfl
              have hJ2 : OnlyG w (w4.setCell ⟨g, 5, none⟩ (.int .i64 ((t2 + c.more : Nat) : Int))) g := hI2.set _ _
              have hw : (t2 : Int) + c.more = ((t2 + c.more : Nat) : Int) := by omega
              replace hJ := Lib.hid hJ; replace hJ2 := Lib.hid hJ2; replace hst3 := Lib.hid hst3; replace hI := Lib.hid hI; replace hI2 := Lib.hid hI2; replace hend := Lib.hid hend; replace hr := Lib.hid hr; replace hw := Lib.hid hw
              go_wp2_with fail
              go_quiet (fail)
              go_wp2_with fail
              go_region_law (fail)
              all_goals
                go_wp2_with fail
                go_ret
                rw [hst3.out]
                refine ⟨rfl, ?_, ?_⟩
                · rw [IntWalk.i64_in _ (by omega), hw.out]; exact hJ.out
                · rw [IntWalk.i64_in _ (by omega), hw.out]; exact hJ2.out.of rfl rfl rfl rfl
            · rw [if_neg (fun x => hr x.2)] at hend
              rw [hend] at hst3
              have hr2 : ¬ (mm : Int) % (c.moves : Int) = 0 := by
                intro h
                apply hr
                have : ((mm % c.moves : Nat) : Int) = 0 := by rw [Int.natCast_emod]; exact h
                exact_mod_cast this
              have hr3 : ((mm : Int) % (c.moves : Int) == 0) = false := by simpa using hr2
              replace hst3 := Lib.hid hst3; replace hI := Lib.hid hI; replace hI2 := Lib.hid hI2; replace hend := Lib.hid hend; replace hr := Lib.hid hr
              go_wp2_with fail
              go_quiet (fail)
              go_wp2_with fail
              go_ret
              rw [hst3.out]
              exact ⟨rfl, hI.out, hI2.out.of rfl rfl rfl rfl⟩
          · rw [if_neg (fun x => hz x.1)] at hend
            rw [hend] at hst3
            have hzd : decide (0 < c.moves) = false := decide_eq_false hz
            have hzm : ¬ 0 < (c.moves : Int) := by omega
            replace hst3 := Lib.hid hst3; replace hI := Lib.hid hI; replace hI2 := Lib.hid hI2; replace hend := Lib.hid hend
            go_wp2_with fail
            go_quiet (fail)
            go_wp2_with fail
            go_ret
            rw [hst3.out]
            exact ⟨rfl, hI.out, hI2.out.of rfl rfl rfl rfl⟩

set_option maxRecDepth 20000 in
set_option maxHeartbeats 8000000 in
theorem press1_any (w : World) (g : Nat) (c : Ct) (d : Dv) (u : Nat) (hD : DevAt w g c d) (hp : d.mv % 2 = 1) (hb : c.bonus ≤ 36000000) (hmo : c.more ≤ 36000000) (hmv : c.moves ≤ 1000)
    (hu : u ≤ 36000000) (ht : d.t1 ≤ 100000000000) (hm : d.m1 ≤ 1000) (hv : d.mv ≤ 1000) :
    Calls Tryd.prog 21 #[.pointer (some ⟨g, 0, none⟩), .int .i64 u] w fun e w' => e = .returned (.bool (stepS c d u).2) ∧ DevAt w' g c (stepS c d u).1 ∧ OnlyG w w' g := by
  have hst : stepS c d u = match pressS c d.t1 d.m1 u with
    | none => ({ d with t1 := 0, fl := 1 }, false)
    | some r => ({ d with t1 := r.1, m1 := r.2, mv := d.mv + 1 }, true) := by
    unfold stepS
    first | rw [if_pos (by omega)] | rw [if_neg (by omega)]
    cases pressS c d.t1 d.m1 u <;> rfl
  unfold pressS at hst
  have hand := and_one d.mv
  rw [hp] at hand
  have c1 : w.cell? ⟨g, 1, none⟩ = some (.int .i64 c.kind) := by rw [hD.cell]; rfl
  have c2 : w.cell? ⟨g, 2, none⟩ = some (.int .i64 c.bonus) := by rw [hD.cell]; rfl
  have c8 : w.cell? ⟨g, 8, none⟩ = some (.int .i64 d.mv) := by rw [hD.cell]; rfl
  have ct : w.cell? ⟨g, 6, none⟩ = some (.int .i64 d.t1) := by rw [hD.cell]; rfl
  obtain ⟨tk, htk⟩ : ∃ tk, takenS c u = tk := ⟨_, rfl⟩
  rw [htk] at hst
  have htu : tk ≤ u := by rw [← htk]; unfold takenS; split <;> omega
  obtain ⟨d1, hd1⟩ : ∃ d1 : Dv, d1 = { d with t1 := 0, fl := 1 } := ⟨_, rfl⟩
  have hF : DevAt ((w.setCell ⟨g, 6, none⟩ (.int .i64 0)).setCell ⟨g, 7, none⟩ (.int .i64 1)) g c d1 := by
    rw [hd1]
    exact DevAt.set (d := { d with t1 := 0 }) (hD.set 6 _ _ rfl) 7 _ _ rfl
  have hF2 : OnlyG w ((w.setCell ⟨g, 6, none⟩ (.int .i64 0)).setCell ⟨g, 7, none⟩ (.int .i64 1)) g := ((OnlyG.refl w g).set _ _).set _ _
  have f0 := hD.free 6
  have c7 : (w.setCell ⟨g, 6, none⟩ (.int .i64 0)).cell? ⟨g, 7, none⟩ = some (.int .i64 d.fl) := by rw [DevAt.cell (c := c) (d := { d with t1 := 0 }) (hD.set 6 (.int .i64 0) _ rfl)]; rfl
  have f1 : (w.setCell ⟨g, 6, none⟩ (.int .i64 0)).frozen? ⟨g, 7, none⟩ = false := (hD.set 6 (.int .i64 0) { d with t1 := 0 } rfl).free 7
  have hE : DevAt (w.setCell ⟨g, 6, none⟩ (.int .i64 ((d.t1 - tk : Nat) : Int))) g c { d with t1 := d.t1 - tk } := hD.set 6 _ _ rfl
  have hE2 : OnlyG w (w.setCell ⟨g, 6, none⟩ (.int .i64 ((d.t1 - tk : Nat) : Int))) g := (OnlyG.refl w g).set _ _
  replace hst := Lib.hid hst; replace hF := Lib.hid hF; replace hF2 := Lib.hid hF2; replace hE := Lib.hid hE; replace hE2 := Lib.hid hE2; replace hp := Lib.hid hp; replace htk := Lib.hid htk
  replace hD := Lib.hid hD; replace hd1 := Lib.hid hd1
  go_enter Tryd.func21, Tryd.ntmps21
  go_upto_if 26 with fail
  go_cut [7] (fun s wx => s = .int .i64 (tk : Int) ∧ wx = w)
  case first =>
    by_cases h3 : c.kind = 3
    · have z3 : ((c.kind : Int) == 3) = true := by simp [h3]
      by_cases h4 : c.bonus ≤ u
      · have htk2 : (u : Int) - c.bonus = tk := by have := htk.out; unfold takenS at this; rw [if_pos h3] at this; omega
        have h5 : 0 ≤ (tk : Int) := by omega
        replace h3 := Lib.hid h3
        go_wp2_with fail
        go_meet
        exact ⟨rfl, rfl⟩
      · have htk2 : tk = 0 := by have := htk.out; unfold takenS at this; rw [if_pos h3] at this; omega
        have h5 : (u : Int) - c.bonus < 0 := by omega
        replace h3 := Lib.hid h3; replace htk2 := Lib.hid htk2
        go_wp2_with fail
        go_meet
        all_goals exact ⟨by rw [htk2.out]; rfl, rfl⟩
    · have z3 : ((c.kind : Int) == 3) = false := by simp; omega
      have htk2 : tk = u := by have := htk.out; unfold takenS at this; rw [if_neg h3] at this; omega
      replace h3 := Lib.hid h3; replace htk2 := Lib.hid htk2
      go_wp2_with fail
      go_meet
      exact ⟨by rw [htk2.out], rfl⟩
  case rest =>
    obtain ⟨rfl, hw0⟩ := hcut
    obtain rfl := hw0.symm
    clear hw0
    by_cases hlt : d.t1 < tk
    · have hst2 := hst.out
      rw [if_pos hlt] at hst2
      replace hst2 := Lib.hid hst2; clear hst
      go_wp2_with fail
      go_ret
      rw [hst2.out]
      exact ⟨rfl, by rw [← hd1.out]; exact hF.out, hF2.out⟩
    · have hst2 := hst.out
      rw [if_neg hlt] at hst2
      have hlt' : tk ≤ d.t1 := by omega
      clear hlt hst
      have hsub : (d.t1 : Int) - (tk : Int) = ((d.t1 - tk : Nat) : Int) := by omega
      obtain ⟨t1, ht1⟩ : ∃ t1, d.t1 - tk = t1 := ⟨_, rfl⟩
      rw [ht1] at hsub hst2 hE hE2
      have ht1b : t1 ≤ 100000000000 := by omega
      replace hst2 := Lib.hid hst2; replace ht1 := Lib.hid ht1
      clear hF hF2
      go_upto_block 0 with fail
      generalize w.setCell ⟨g, 6, none⟩ (.int .i64 (t1 : Int)) = w1 at *
      clear c1 c2 c7 c8 ct f0 f1 hand
      obtain ⟨t2, ht2⟩ : ∃ t2, giveS c t1 u = t2 := ⟨_, rfl⟩
      have ht2b : t2 ≤ 200000000000 := by
        have := giveS_le c t1 u
        rw [ht2] at this
        split at this <;> omega
      have k1 : w1.cell? ⟨g, 1, none⟩ = some (.int .i64 c.kind) := by rw [hE.out.cell]; rfl
      have k2 : w1.cell? ⟨g, 2, none⟩ = some (.int .i64 c.bonus) := by rw [hE.out.cell]; rfl
      have kt : w1.cell? ⟨g, 6, none⟩ = some (.int .i64 t1) := by rw [hE.out.cell]; rfl
      have f0 := hE.out.free 6
      replace ht2 := Lib.hid ht2
      go_cut [] (fun wx => DevAt wx g c { d with t1 := t2 } ∧ OnlyG w wx g)
      case first =>
        have hG : DevAt (w1.setCell ⟨g, 6, none⟩ (.int .i64 (t2 : Int))) g c { d with t1 := t2 } := hE.out.set 6 _ _ rfl
        have hG2 : OnlyG w (w1.setCell ⟨g, 6, none⟩ (.int .i64 (t2 : Int))) g := hE2.out.set _ _
        replace hG := Lib.hid hG; replace hG2 := Lib.hid hG2
        by_cases h1 : c.kind = 1
        · have z1 : ((c.kind : Int) == 1) = true := by simp [h1]
          have hw : (t1 : Int) + c.bonus = t2 := by have := ht2.out; unfold giveS at this; rw [if_pos h1] at this; omega
          replace h1 := Lib.hid h1; replace hw := Lib.hid hw
          go_wp2_with fail
          go_region_law (fail)
          all_goals
            go_wp2_with fail
            go_meet
            rw [IntWalk.i64_in _ (by omega), hw.out]
            exact ⟨hG.out.drew, hG2.out.drew⟩
        · have z1 : ((c.kind : Int) == 1) = false := by simp; omega
          by_cases h2 : c.kind = 2
          · have z2 : ((c.kind : Int) == 2) = true := by simp [h2]
            by_cases h3 : c.bonus ≤ u
            · have hw : (t1 : Int) + c.bonus = t2 := by have := ht2.out; unfold giveS at this; rw [if_neg h1, if_pos h2] at this; omega
              have h4 : (c.bonus : Int) ≤ u := by omega
              have h5 : min (c.bonus : Int) u = c.bonus := by omega
              replace h1 := Lib.hid h1; replace h2 := Lib.hid h2; replace hw := Lib.hid hw
              go_wp2_with fail
              go_region_law (fail)
              all_goals
                go_wp2_with fail
                go_meet
                rw [IntWalk.i64_in _ (by omega), hw.out]
                exact ⟨hG.out.drew, hG2.out.drew⟩
            · have hw : (t1 : Int) + u = t2 := by have := ht2.out; unfold giveS at this; rw [if_neg h1, if_pos h2] at this; omega
              have h4 : (u : Int) < c.bonus := by omega
              have h5 : min (c.bonus : Int) u = u := by omega
              replace h1 := Lib.hid h1; replace h2 := Lib.hid h2; replace hw := Lib.hid hw
              go_wp2_with fail
              go_region_law (fail)
              all_goals
                go_wp2_with fail
                go_meet
                rw [IntWalk.i64_in _ (by omega), hw.out]
                exact ⟨hG.out.drew, hG2.out.drew⟩
          · have z2 : ((c.kind : Int) == 2) = false := by simp; omega
            have e2 : t2 = t1 := by have := ht2.out; unfold giveS at this; rw [if_neg h1, if_neg h2] at this; omega
            replace h1 := Lib.hid h1; replace h2 := Lib.hid h2; replace e2 := Lib.hid e2
            go_wp2_with fail
            go_meet
            exact ⟨by rw [e2.out]; exact hE.out, hE2.out⟩
      case rest =>
        obtain ⟨hG, hG2⟩ := hcut
        clear k1 k2 kt f0 hE hE2
        obtain ⟨w2, rfl⟩ : ∃ w2 : World, w2 = wc := ⟨_, rfl⟩
        have k8 : w2.cell? ⟨g, 8, none⟩ = some (.int .i64 d.mv) := by rw [hG.cell]; rfl
        have f8 := hG.free 8
        have hv2 : (d.mv : Int) + 1 = ((d.mv + 1 : Nat) : Int) := by omega
        have hH : DevAt (w2.setCell ⟨g, 8, none⟩ (.int .i64 ((d.mv + 1 : Nat) : Int))) g c { d with t1 := t2, mv := d.mv + 1 } := hG.set 8 _ _ rfl
        have hH2 : OnlyG w (w2.setCell ⟨g, 8, none⟩ (.int .i64 ((d.mv + 1 : Nat) : Int))) g := hG2.set _ _
        rw [← hv2] at hH hH2
        replace hG := Lib.hid hG; replace hG2 := Lib.hid hG2; replace hH := Lib.hid hH; replace hH2 := Lib.hid hH2; replace hv2 := Lib.hid hv2
        go_upto_region 17 with fail
        generalize w2.setCell ⟨g, 8, none⟩ (.int .i64 ((d.mv : Int) + 1)) = w3 at *
        clear k8 f8
        have km : w3.cell? ⟨g, 10, none⟩ = some (.int .i64 d.m1) := by rw [hH.out.cell]; rfl
        have fm := hH.out.free 10
        have hm2 : (d.m1 : Int) + 1 = ((d.m1 + 1 : Nat) : Int) := by omega
        go_cut [] (fun wx => DevAt wx g c { d with t1 := t2, mv := d.mv + 1, m1 := d.m1 + 1 } ∧ OnlyG w wx g)
        case first =>
          have hI : DevAt (w3.setCell ⟨g, 10, none⟩ (.int .i64 ((d.m1 + 1 : Nat) : Int))) g c { d with t1 := t2, mv := d.mv + 1, m1 := d.m1 + 1 } := hH.out.set 10 _ _ rfl
          have hI2 : OnlyG w (w3.setCell ⟨g, 10, none⟩ (.int .i64 ((d.m1 + 1 : Nat) : Int))) g := hH2.out.set _ _
          have hw : (d.m1 : Int) + 1 = ((d.m1 + 1 : Nat) : Int) := by omega
          replace hI := Lib.hid hI; replace hI2 := Lib.hid hI2; replace hm2 := Lib.hid hm2; replace hw := Lib.hid hw
          go_region_law (fail)
          all_goals
            go_wp2_with fail
            go_meet
            rw [IntWalk.i64_in _ (by omega), hw.out]
            exact ⟨hI.out.drew, hI2.out.drew⟩
        case rest =>
          obtain ⟨hI, hI2⟩ := hcut
          clear km fm hH hH2 hm2
          obtain ⟨w4, rfl⟩ : ∃ w4 : World, w4 = wc := ⟨_, rfl⟩
          have k3 : w4.cell? ⟨g, 3, none⟩ = some (.int .i64 c.moves) := by rw [hI.cell]; rfl
          have k4 : w4.cell? ⟨g, 4, none⟩ = some (.int .i64 c.more) := by rw [hI.cell]; rfl
          have km : w4.cell? ⟨g, 10, none⟩ = some (.int .i64 ((d.m1 + 1 : Nat) : Int)) := by rw [hI.cell]; rfl
          have kt : w4.cell? ⟨g, 6, none⟩ = some (.int .i64 t2) := by rw [hI.cell]; rfl
          have ft := hI.free 6
          obtain ⟨mm, hmm⟩ : ∃ mm, d.m1 + 1 = mm := ⟨_, rfl⟩
          rw [hmm] at km hI
          have hend : endS c d.m1 t2 = if 0 < c.moves ∧ mm % c.moves = 0 then t2 + c.more else t2 := by unfold endS; rw [hmm]
          have hst3 := hst2.out
          rw [ht2.out, hmm] at hst3
          replace hmm := Lib.hid hmm
          clear hst2 ht2
          by_cases hz : 0 < c.moves
          · have hzm : 0 < (c.moves : Int) := by omega
            have hzd : decide (0 < c.moves) = true := decide_eq_true hz
            have hzn : ¬ ((c.moves : Int) = 0) := by omega
            have hzn2 : ((c.moves : Int) == 0) = false := by simp; omega
            by_cases hr : mm % c.moves = 0
            · rw [if_pos ⟨hz, hr⟩] at hend
              rw [hend] at hst3
              have hr2 : (mm : Int) % (c.moves : Int) = 0 := by
                have : ((mm % c.moves : Nat) : Int) = 0 := by rw [hr]; rfl
                rwa [Int.natCast_emod] at this
              have hJ : DevAt (w4.setCell ⟨g, 6, none⟩ (.int .i64 ((t2 + c.more : Nat) : Int))) g c { d with t1 := t2 + c.more, mv := d.mv + 1, m1 := mm } := hI.set 6 _ _ rfl
              have hJ2 : OnlyG w (w4.setCell ⟨g, 6, none⟩ (.int .i64 ((t2 + c.more : Nat) : Int))) g := hI2.set _ _
              have hw : (t2 : Int) + c.more = ((t2 + c.more : Nat) : Int) := by omega
              replace hJ := Lib.hid hJ; replace hJ2 := Lib.hid hJ2; replace hst3 := Lib.hid hst3; replace hI := Lib.hid hI; replace hI2 := Lib.hid hI2; replace hend := Lib.hid hend; replace hr := Lib.hid hr; replace hw := Lib.hid hw
              go_wp2_with fail
              go_quiet (fail)
              go_wp2_with fail
              go_region_law (fail)
              all_goals
                go_wp2_with fail
                go_ret
                rw [hst3.out]
                refine ⟨rfl, ?_, ?_⟩
                · rw [IntWalk.i64_in _ (by omega), hw.out]; exact hJ.out
                · rw [IntWalk.i64_in _ (by omega), hw.out]; exact hJ2.out.of rfl rfl rfl rfl
            · rw [if_neg (fun x => hr x.2)] at hend
              rw [hend] at hst3
              have hr2 : ¬ (mm : Int) % (c.moves : Int) = 0 := by
                intro h
                apply hr
                have : ((mm % c.moves : Nat) : Int) = 0 := by rw [Int.natCast_emod]; exact h
                exact_mod_cast this
              have hr3 : ((mm : Int) % (c.moves : Int) == 0) = false := by simpa using hr2
              replace hst3 := Lib.hid hst3; replace hI := Lib.hid hI; replace hI2 := Lib.hid hI2; replace hend := Lib.hid hend; replace hr := Lib.hid hr
              go_wp2_with fail
              go_quiet (fail)
              go_wp2_with fail
              go_ret
              rw [hst3.out]
              exact ⟨rfl, hI.out, hI2.out.of rfl rfl rfl rfl⟩
          · rw [if_neg (fun x => hz x.1)] at hend
            rw [hend] at hst3
            have hzd : decide (0 < c.moves) = false := decide_eq_false hz
            have hzm : ¬ 0 < (c.moves : Int) := by omega
            replace hst3 := Lib.hid hst3; replace hI := Lib.hid hI; replace hI2 := Lib.hid hI2; replace hend := Lib.hid hend
            go_wp2_with fail
            go_quiet (fail)
            go_wp2_with fail
            go_ret
            rw [hst3.out]
            exact ⟨rfl, hI.out, hI2.out.of rfl rfl rfl rfl⟩

end Go.Proofs.YtlmgfikjkflffaaDoor
