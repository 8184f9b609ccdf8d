/- Mancala's sow: the state that it keeps, and its first loop; conditions: the game's row reads as a list of numbers whose sum is at most 3000. -/
import Derived.Test.YtehcelajmhclmaaMCore
import Derived.Deep.RegionHeld3
import Derived.Deep.DeepCutAuto
import Derived.IntWalk
import Derived.Lib.SliceRun
namespace Go.Proofs.Ytehcelajmhclmaa
open Go.RowKit

theorem Own.putN {E B g n c : Nat} {w : World} {l : List Nat} (h : Own E B w (some ⟨g, 0, none⟩) n c (asI l)) (i : Nat) (v : Nat) : Own E B (w.setCell ⟨g, i, none⟩ (.int .i64 (v : Int))) (some ⟨g, 0, none⟩) n c (asI (l.set i v)) := by
  have h2 := OwnC.set (k := 1) h i (.int .i64 (v : Int))
  unfold Own
  rw [asI_set, List.map_set]
  exact h2
theorem Own.lt {E B g n c : Nat} {w : World} {l : List Int} (h : Own E B w (some ⟨g, 0, none⟩) n c l) : g < w.heap.size := (h.block _ rfl).2
theorem Own.cellN {E B g n c : Nat} {w : World} {l : List Nat} (h : Own E B w (some ⟨g, 0, none⟩) n c (asI l)) {i : Nat} (hi : i < n) : w.cell? ⟨g, i, none⟩ = some (.int .i64 (st l i : Nat)) := by
  obtain ⟨b, o, e, _, hc⟩ := h.in.at (by omega)
  cases e
  rw [← asI_at, ← hc i hi, Nat.zero_add]
theorem Own.freeN {E B g n c : Nat} {w : World} {l : List Int} (h : Own E B w (some ⟨g, 0, none⟩) n c l) (i : Nat) : w.frozen? ⟨g, i, none⟩ = false := World.ownsRow.frozenAt h i
/-- the world at some point of sow: the game's row reads as l, its box stands. -/
structure SowAt (w0 : World) (g B n c P : Nat) (l : List Nat) (w : World) : Prop where
  own : Own 3 B w (some ⟨g, 0, none⟩) n c (asI l)
  gr : w0.grownBy w (some g)
  gl : g < w0.heap.size
  sz : w0.heap.size < w.heap.size
  box : w.heap[w0.heap.size]? = some (.cells #[.slice (some ⟨g, 0, none⟩) n c, .int .i64 P] 37)
section
variable {w0 w w' : World} {g B n c P : Nat} {l : List Nat}
theorem SowAt.set (h : SowAt w0 g B n c P l w) (i v : Nat) : SowAt w0 g B n c P (l.set i v) (w.setCell ⟨g, i, none⟩ (.int .i64 (v : Int))) :=
  ⟨h.own.putN i v, grown_set h.gr i _, h.gl, by simpa [World.setCell] using h.sz, (Below.heap_setCell w _ _ _ (Nat.ne_of_gt h.gl)).trans h.box⟩
theorem SowAt.drewN (h : SowAt w0 g B n c P l w) (k : Nat) : SowAt w0 g B n c P l (w.drewN k) := ⟨h.own.below (below_drewN (Below.refl _ _) k) (Nat.le_refl _), grown_drewN h.gr k, h.gl, h.sz, h.box⟩
theorem SowAt.drew (h : SowAt w0 g B n c P l w) : SowAt w0 g B n c P l w.drew := h.drewN 1
theorem SowAt.below (h : SowAt w0 g B n c P l w) (hb : Below w.heap.size w w') : SowAt w0 g B n c P l w' :=
  ⟨h.own.below hb (Nat.le_refl _), grown_trans h.gr (grown_below hb _), h.gl, Nat.lt_of_lt_of_le h.sz hb.size, (hb.block _ h.sz).trans h.box⟩
theorem SowAt.c0 (h : SowAt w0 g B n c P l w) : w.cell? ⟨w0.heap.size, 0, none⟩ = some (.slice (some ⟨g, 0, none⟩) n c) := wcell (cs := [_, _]) h.box 0
theorem SowAt.c1 (h : SowAt w0 g B n c P l w) : w.cell? ⟨w0.heap.size, 1, none⟩ = some (.int .i64 (P : Int)) := wcell (cs := [_, _]) h.box 1
end

theorem zero3 (w : World) : (zeroValue 3).run Try.prog w = .ok (.int .i64 0) w := by kernel_rfl
theorem SowAt.zeros {w0 : World} {g B n c P : Nat} : ∀ (k i : Nat) (l : List Nat) (w : World), SowAt w0 g B n c P l w → SowAt w0 g B n c P (zero l i k) (w.setCells g i (List.replicate k (.int .i64 0)))
  | 0, _, _, _, h => h
  | k + 1, i, _, _, h => SowAt.zeros k (i + 1) _ _ (h.set i 0)
theorem SowAt.clear {w0 w : World} {g B n c P : Nat} {l : List Nat} (h : SowAt w0 g B n c P l w) (o k cap : Nat) (hk : 0 < k) (ho : o + k ≤ n) :
    ∀ ty, (Builtin.clear_ #[22] ty #[.slice (some ⟨g, o, none⟩) k cap]).run Try.prog w = .ok (.tuple #[]) (w.setCells g o (List.replicate k (.int .i64 0))) :=
  fun ty => Lib.run_clear_slice w 22 3 ty (.int .i64 0) Try.underlying22 zero3 rfl rfl g o k cap hk (fun j hj => by rw [h.own.cellN (by omega)]; rfl) (fun j _ => h.own.freeN _)

set_option maxRecDepth 20000 in
set_option maxHeartbeats 8000000 in
theorem sow_any (g B n c P pit : Nat) (l : List Nat) (w : World) (hP : P ≤ 100) (hn : n = 2 * P + 2) (hpit : pit < P) (hO : Own 3 B w (some ⟨g, 0, none⟩) n c (asI l)) (hs : l.sum ≤ 3000) :
    Calls Try.prog 19 #[.agg #[.slice (some ⟨g, 0, none⟩) n c, .int .i64 P], .int .i64 pit] w fun e w' => e = .returned (.bool (sowS l P pit).2) ∧ Own 3 B w' (some ⟨g, 0, none⟩) n c (asI (sowS l P pit).1) ∧ w.grownBy w' (some g) := by
  have hl : l.length = n := by have := hO.len; rwa [asI_len] at this
  have hS0 : SowAt w g B n c P (l.set pit 0) ((w.setCell ⟨g, pit, none⟩ (.int .i64 0)).alloc (.cells #[.slice (some ⟨g, 0, none⟩) n c, .int .i64 P] 37)) := by
    have hg := hO.lt
    have h1 := hO.putN pit 0
    have h0 : w.grownBy w (some g) := grown_below (Below.refl _ _) _
    have h2 := grown_set h0 pit (.int .i64 0)
    exact ⟨h1.alloc _, grown_trans h2 (grown_below ((Below.refl _ _).alloc (Nat.le_refl _) _) _), hg, by simp [World.setCell], by
      have := heap_alloc_new (w.setCell ⟨g, pit, none⟩ (.int .i64 0)) (.cells #[.slice (some ⟨g, 0, none⟩) n c, .int .i64 P] 37)
      rwa [show (w.setCell ⟨g, pit, none⟩ (.int .i64 0)).heap.size = w.heap.size by simp [World.setCell]] at this⟩
  have hd := hO.cellN (i := pit) (by omega)
  have hf := hO.freeN pit
  have hsu : (l.set pit 0).sum + st l pit = l.sum := by have := set_sum l pit 0 (by omega); omega
  have hsl : (l.set pit 0).length = n := by simp [hl]
  have hfin : sowS l P pit = (close (grab (layN P (st l pit) (l.set pit 0) pit).1 P (layN P (st l pit) (l.set pit 0) pit).2) P, (layN P (st l pit) (l.set pit 0) pit).2 == P) := rfl
  generalize sowS l P pit = R at *
  generalize hl0 : l.set pit 0 = l0 at *
  generalize st l pit = H at *
  generalize hT : layN P H l0 pit = T at *
  have hgl := hO.lt
  have hpn : pit < n := by omega
  have hnc : n ≤ c := by obtain ⟨_, _, _, _, h⟩ := hO.where (by omega); exact h
  replace hn := Lib.hid hn
  clear hl0 hO
  replace hl := Lib.hid hl; replace hfin := Lib.hid hfin; replace hS0 := Lib.hid hS0
  go_enter Try.func19, Try.ntmps19
  go_wp2_with fail
  go_loopg [5, 6] H (fun gk hv av W' => ∃ (h a : Nat) (m : List Nat), gk = h ∧ hv = .int .i64 h ∧ av = .int .i64 a ∧ a ≤ 2 * P ∧ m.length = n ∧ m.sum + h ≤ 3000 ∧ layN P h m a = T ∧ SowAt w g B n c P m W')
  case atStart => have hn := hn.out; exact ⟨H, pit, l0, rfl, rfl, rfl, by omega, by omega, by omega, hT, hS0.out⟩
  case round =>
    clear hd hf hS0
    obtain ⟨h, a, m, hgk, rfl, rfl, ha, hm, hms, hlay, hS⟩ := hrel
    obtain ⟨W1, rfl⟩ : ∃ W1 : World, W1 = wr := ⟨_, rfl⟩
    have c0 := hS.c0
    have c1 := hS.c1
    replace hgk := Lib.hid hgk
    by_cases hlt : 0 < h
    · obtain ⟨h1, rfl⟩ : ∃ h1, h = h1 + 1 := ⟨h - 1, by omega⟩
      rw [layN] at hlay
      have hn := hn.out
      obtain ⟨a', ha'⟩ : ∃ a', (a + 1) % (2 * P + 1) = a' := ⟨_, rfl⟩
      have hmod : ((a : Int) + 1) % (2 * (P : Int) + 1) = a' := by rw [← ha']; push_cast; rfl
      have han : a' < n := by rw [← ha']; have := Nat.mod_lt (a + 1) (show 0 < 2 * P + 1 by omega); omega
      have ha2 : a' < 2 * P + 1 := by rw [← ha']; exact Nat.mod_lt _ (by omega)
      rw [ha'] at hlay
      have d0 := hS.own.cellN (i := a') (by omega)
      have f0 := hS.own.freeN a'
      have hle := st_le_sum m a'
      have hS1 := hS.set a' (st m a' + 1)
      have hs1 := up1_sum m a' (by omega)
      have hl1 := up1_len m a'
      change SowAt w g B n c P (up1 m a') _ at hS1
      generalize up1 m a' = m1 at *
      generalize st m a' = v at *
      replace hS := Lib.hid hS; replace hS1 := Lib.hid hS1; replace hlay := Lib.hid hlay; replace ha' := Lib.hid ha'; replace hn := Lib.hid hn
      go_wp2_with fail
      have hgk := hgk.out
      go_roundg h1
      case measure => omega
      case rel => exact ⟨h1, a', m1, rfl, rfl, congrArg (Value.int .i64) hmod, by omega, by omega, by omega, hlay.out, hS1.out⟩
    · obtain rfl : h = 0 := by omega
      rw [layN] at hlay
      subst hlay
      clear hT hsl hsu
      simp only at hfin
      have hn := hn.out
      have hpn2 : P < n := by omega
      have han : a < n := by omega
      have hxn : 2 * P - a < n := by omega
      obtain ⟨x, hx⟩ : ∃ x, 2 * P - a = x := ⟨_, rfl⟩
      have hxi : 2 * (P : Int) - (a : Int) = x := by omega
      rw [hx] at hxn
      have da := hS.own.cellN han
      have dx := hS.own.cellN hxn
      have dp := hS.own.cellN hpn2
      have hxe := Lib.hid hx
      have hva := st_le_sum m a
      have hvx := st_le_sum m x
      replace hS := Lib.hid hS; replace hn := Lib.hid hn
      clear hx
      go_upto_region 9 with fail
      go_cut [60] (fun s wx => s = .bool (decide (a < P ∧ st m a = 1 ∧ 0 < st m x)) ∧ wx = W1)
      case first =>
        generalize st m a = va at *
        generalize st m x = vx at *
        by_cases ea : a < P
        · by_cases e1 : va = 1
          · by_cases e2 : 0 < vx
            · have hd : true = decide (a < P ∧ va = 1 ∧ 0 < vx) := by simp [ea, e1, e2]
              have z1 : ((va : Int) == 1) = true := by simp [e1]
              replace hd := Lib.hid hd; replace e1 := Lib.hid e1
              go_wp2_with fail
              go_meet
              exact ⟨congrArg Value.bool hd.out, rfl⟩
            · have hd : false = decide (a < P ∧ va = 1 ∧ 0 < vx) := by simp; omega
              have z1 : ((va : Int) == 1) = true := by simp [e1]
              replace hd := Lib.hid hd; replace e1 := Lib.hid e1
              go_wp2_with fail
              go_meet
              exact ⟨congrArg Value.bool hd.out, rfl⟩
          · have hd : false = decide (a < P ∧ va = 1 ∧ 0 < vx) := by simp; omega
            have z1 : ((va : Int) == 1) = false := by simp; omega
            replace hd := Lib.hid hd; replace e1 := Lib.hid e1
            go_wp2_with fail
            go_meet
            exact ⟨congrArg Value.bool hd.out, rfl⟩
        · have hd : false = decide (a < P ∧ va = 1 ∧ 0 < vx) := by simp; omega
          replace hd := Lib.hid hd
          go_wp2_with fail
          go_meet
          exact ⟨congrArg Value.bool hd.out, rfl⟩
      case rest =>
        obtain ⟨rfl, rfl⟩ := hcut
        have hgr : grab m P a = if a < P ∧ st m a = 1 ∧ 0 < st m x then ((m.set P (st m P + (1 + st m x))).set a 0).set x 0 else m := by unfold grab; rw [hxe.out]
        go_upto_if 60 with fail
        go_cut [] (fun wx => SowAt w g B n c P (grab m P a) wx)
        case first =>
          as_aux_lemma =>
            by_cases hq : a < P ∧ st m a = 1 ∧ 0 < st m x
            · have hdt : decide (a < P ∧ st m a = 1 ∧ 0 < st m x) = true := decide_eq_true hq
              rw [if_pos hq] at hgr
              have f0 := hS.out.own.freeN P
              have hle := two_le_sum m P x (by have := hxe.out; omega) (by have := hn.out; omega)
              have hS1 := hS.out.set P (st m P + (1 + st m x))
              generalize decide (a < P ∧ st m a = 1 ∧ 0 < st m x) = bq at *
              subst hdt
              generalize st m x = vx at *
              generalize st m P = vp at *
              have hw1 : IntKind.i64.wrap (1 + (vx : Int)) = 1 + (vx : Int) := IntWalk.i64_in _ (by omega)
              have hw2 : IntKind.i64.wrap ((vp : Int) + (1 + (vx : Int))) = ((vp + (1 + vx) : Nat) : Int) := by rw [IntWalk.i64_in _ (by omega)]; push_cast; rfl
              replace hgr := Lib.hid hgr; replace hS1 := Lib.hid hS1; replace hq := Lib.hid hq; replace hw1 := Lib.hid hw1; replace hw2 := Lib.hid hw2; replace hfin := Lib.hid hfin
              go_upto_region 10 with fail
              go_cut [] (fun wx => SowAt w g B n c P (m.set P (vp + (1 + vx))) wx)
              case first =>
                go_region_law (fail)
                all_goals
                  go_wp2_with fail
                  go_meet
                  rw [hw1.out, hw2.out]
                  exact hS1.out.drew
              case rest =>
                have hSb := hcut
                clear hcut c0 c1 da dx dp f0
                have c0 := hSb.c0
                have c1 := hSb.c1
                have hn := hn.out
                have fa := hSb.own.freeN a
                have fx := hSb.own.freeN x
                have da := hSb.own.cellN (i := a) (by omega)
                have dx := hSb.own.cellN (i := x) (by omega)
                have hSw1 := (hSb.set a 0).set x 0
                have hSw2 := (hSb.set x 0).set a 0
                have hax : a ≠ x := by have := hxe.out; have := hq.out.1; omega
                rw [List.set_comm _ _ (Ne.symm hax)] at hSw2
                have dx1 : (wc.setCell ⟨g, a, none⟩ (.int .i64 0)).cell? ⟨g, x, none⟩ = some (.int .i64 _) := (hSb.set a 0).own.cellN (by omega)
                have da1 : (wc.setCell ⟨g, x, none⟩ (.int .i64 0)).cell? ⟨g, a, none⟩ = some (.int .i64 _) := (hSb.set x 0).own.cellN (by omega)
                have fx1 : (wc.setCell ⟨g, a, none⟩ (.int .i64 0)).frozen? ⟨g, x, none⟩ = false := (hSb.set a 0).own.freeN x
                have fa1 : (wc.setCell ⟨g, x, none⟩ (.int .i64 0)).frozen? ⟨g, a, none⟩ = false := (hSb.set x 0).own.freeN a
                rw [← hgr.out] at hSw1 hSw2
                replace hSw1 := Lib.hid hSw1; replace hSw2 := Lib.hid hSw2; replace hSb := Lib.hid hSb; replace hn := Lib.hid hn
                go_wp2_with fail
                go_region_law (fail)
                all_goals
                  go_wp2_with fail
                  go_meet
                  first | exact hSw1.out.drew | exact hSw2.out.drew
            · have hdt : decide (a < P ∧ st m a = 1 ∧ 0 < st m x) = false := decide_eq_false hq
              rw [if_neg hq] at hgr
              replace hgr := Lib.hid hgr; replace hq := Lib.hid hq; replace hfin := Lib.hid hfin
              generalize decide (a < P ∧ st m a = 1 ∧ 0 < st m x) = bq at *
              subst hdt
              go_wp2_with fail
              go_meet
              rw [hgr.out]
              exact hS.out
        case rest =>
          obtain ⟨l1, l2⟩ := grab_ok m P a (by have := hn.out; omega)
          have hSw := hcut
          clear hcut c0 c1 da dx dp hva hvx hgr hS
          generalize grab m P a = m2 at *
          have hm2 : m2.length = n := by omega
          have hs2 : m2.sum ≤ 3000 := by omega
          clear l1 l2 hms hm
          have c0 := hSw.c0
          have c1 := hSw.c1
          have HO := Lib.hid (over_any g B n c P m2 wc hP hn.out hSw.own hs2)
          have hcl : Hid (close m2 P = if overS m2 P = true then (zero (zero ((m2.set P (st m2 P + (ownL m2 P).sum)).set (2 * P + 1) (st (m2.set P (st m2 P + (ownL m2 P).sum)) (2 * P + 1) + (otherL (m2.set P (st m2 P + (ownL m2 P).sum)) P).sum)) 0 P) (P + 1) P) else m2) := rfl
          generalize hov : overS m2 P = ov at *
          replace hov := Lib.hid hov; replace hm2 := Lib.hid hm2; replace hfin := Lib.hid hfin; replace hSw := Lib.hid hSw
          go_wp2_with fail
          refine HO.out.mono ?_
          rintro e W2 ⟨rfl, hB2⟩
          have hS2 := Lib.hid (hSw.out.below hB2)
          clear c0 c1 HO
          go_upto_if 84 with fail
          go_cut [] (fun wx => SowAt w g B n c P (close m2 P) wx)
          case first =>
            cases ov
            · have hcl2 : close m2 P = m2 := by rw [hcl.out, if_neg (by simp)]
              replace hcl2 := Lib.hid hcl2
              go_wp2_with fail
              go_meet
              rw [hcl2.out]
              exact hS2.out
            · have hcl2 := hcl.out
              rw [if_pos rfl] at hcl2
              clear hcl hB2
              have hn := hn.out
              have hm2 := hm2.out
              have c0 := hS2.out.c0
              have c1 := hS2.out.c1
              have dP := hS2.out.own.cellN (i := P) (by omega)
              have fP := hS2.out.own.freeN P
              have hle := st_le_sum m2 P
              have HO := Lib.hid (fun W => own_any g n c P W (by omega))
              have HT := Lib.hid (fun W => other_any g n c P W (by omega) (by omega))
              have HS := Lib.hid (fun (m : List Nat) (hms : m.sum ≤ 100000) W (h : SowAt w g B n c P m W) => sum_any (some ⟨g, 0, none⟩) P c (ownL m P) W (by omega) (Nat.le_trans (take_sum_le m P) (by omega)) (by
                have := h.own.part 0 P (by omega) (by omega)
                simpa [ownL, asI_take] using this))
              have HU := Lib.hid (fun (m : List Nat) (hms : m.sum ≤ 100000) W (h : SowAt w g B n c P m W) => sum_any (some ⟨g, P + 1, none⟩) P (c - (P + 1)) (otherL m P) W (by omega) (Nat.le_trans (drop_sum_le _ _) (Nat.le_trans (take_sum_le m _) (by omega))) (by
                have := h.own.part (P + 1) (2 * P + 1) (by omega) (by omega)
                rw [show 2 * P + 1 - (P + 1) = P by omega] at this
                simpa [otherL, asI_take, asI_drop] using this))
              have hos : (ownL m2 P).sum ≤ 3000 := Nat.le_trans (take_sum_le m2 P) hs2
              generalize hm3 : m2.set P (st m2 P + (ownL m2 P).sum) = m3 at *
              have hSet : Hid (∀ W, SowAt w g B n c P m2 W → SowAt w g B n c P m3 (W.setCell ⟨g, P, none⟩ (.int .i64 ((st m2 P + (ownL m2 P).sum : Nat) : Int)))) := fun W h => by rw [← hm3]; exact h.set _ _
              replace HS := Lib.hid (fun W h => HS.out m2 (by omega) W h)
              generalize (ownL m2 P).sum = s1 at *
              generalize hvP : st m2 P = vP at *
              have hw1 : IntKind.i64.wrap ((vP : Int) + (s1 : Int)) = ((vP + s1 : Nat) : Int) := by rw [IntWalk.i64_in _ (by omega)]; push_cast; rfl
              replace hn := Lib.hid hn; replace hm2 := Lib.hid hm2; replace hm3 := Lib.hid hm3; replace hvP := Lib.hid hvP; replace hw1 := Lib.hid hw1; replace hcl2 := Lib.hid hcl2
              go_upto_region 13 with fail
              go_cut [] (fun wx => SowAt w g B n c P m3 wx)
              case first =>
                as_aux_lemma =>
                  go_region_law (first
                    | (go_simp; refine (HO.out _).mono ?_; rintro e W3 ⟨rfl, hB3⟩; have hS3 := Lib.hid (show SowAt w g B n c P m2 W3 from by first | exact hS2.out.below hB3 | exact hS2.out.drew.below hB3); have c0' := hS3.out.c0; have c1' := hS3.out.c1; have dP' := hS3.out.own.cellN (i := P) (by have := hn.out; omega); rw [hvP.out] at dP'; have fP' := hS3.out.own.freeN P; replace hB3 := Lib.hid hB3)
                    | (go_simp; refine (HS.out _ hS3.out).mono ?_; rintro e w' ⟨rfl, rfl⟩))
                  all_goals
                    go_wp2_with fail
                    go_meet
                    rw [hw1.out]
                    exact hSet.out _ hS3.out
              case rest =>
                have hSq := Lib.hid hcut
                clear hcut c0 c1 dP fP HS hSet hS2 HO
                have hn := hn.out
                have hm2 := hm2.out
                have HO := Lib.hid (fun W => own_any g n c P W (by omega))
                obtain ⟨q, hq⟩ : ∃ q, 2 * P + 1 = q := ⟨_, rfl⟩
                have hq1 : IntKind.i64.wrap (2 * (P : Int)) = 2 * (P : Int) := IntWalk.i64_in _ (by omega)
                have hq2 : IntKind.i64.wrap (2 * (P : Int) + 1) = (q : Int) := by rw [IntWalk.i64_in _ (by omega)]; omega
                have hqn : q < n := by omega
                have hm3l : m3.length = n := by rw [← hm3.out]; simpa using hm2
                have hm3s : m3.sum ≤ 6000 := by
                  have := set_sum m2 P (vP + s1) (by omega)
                  rw [hm3.out, hvP.out] at this
                  omega
                have c0 := hSq.out.c0
                have c1 := hSq.out.c1
                have dQ := hSq.out.own.cellN hqn
                have fQ := hSq.out.own.freeN q
                have hle3 := st_le_sum m3 q
                have hos3 : (otherL m3 P).sum ≤ 6000 := Nat.le_trans (Nat.le_trans (drop_sum_le _ _) (take_sum_le m3 _)) hm3s
                have hcl3 := hcl2.out
                rw [hq] at hcl3
                generalize hm4 : m3.set q (st m3 q + (otherL m3 P).sum) = m4 at *
                have hm4l : m4.length = n := by rw [← hm4]; simpa using hm3l
                have hSet : Hid (∀ W, SowAt w g B n c P m3 W → SowAt w g B n c P m4 (W.setCell ⟨g, q, none⟩ (.int .i64 ((st m3 q + (otherL m3 P).sum : Nat) : Int)))) := fun W h => by rw [← hm4]; exact h.set _ _
                replace HU := Lib.hid (fun W h => HU.out m3 (by omega) W h)
                generalize (otherL m3 P).sum = s2 at *
                generalize hvQ : st m3 q = vQ at *
                have hw2 : IntKind.i64.wrap ((vQ : Int) + (s2 : Int)) = ((vQ + s2 : Nat) : Int) := by rw [IntWalk.i64_in _ (by omega)]; push_cast; rfl
                clear hcl2 hm3l
                replace hn := Lib.hid hn; replace hm2 := Lib.hid hm2; replace hm4 := Lib.hid hm4; replace hvQ := Lib.hid hvQ; replace hw2 := Lib.hid hw2; replace hcl3 := Lib.hid hcl3; replace hq := Lib.hid hq; replace hm4l := Lib.hid hm4l; replace hq1 := Lib.hid hq1; replace hq2 := Lib.hid hq2
                go_upto_region 14 with fail
                go_cut [] (fun wx => SowAt w g B n c P m4 wx)
                case first =>
                  as_aux_lemma =>
                    have hq1 := hq1.out
                    have hq2 := hq2.out
                    go_region_law (first
                      | (go_simp; refine (HT.out _).mono ?_; rintro e W3 ⟨rfl, hB3⟩; have hS3 := Lib.hid (show SowAt w g B n c P m3 W3 from by first | exact hSq.out.below hB3 | exact hSq.out.drew.below hB3); have c0' := hS3.out.c0; have c1' := hS3.out.c1; have dP' := hS3.out.own.cellN hqn; rw [hvQ.out] at dP'; have fP' := hS3.out.own.freeN q; replace hB3 := Lib.hid hB3)
                      | (go_simp; refine (HU.out _ hS3.out).mono ?_; rintro e w' ⟨rfl, rfl⟩))
                    all_goals
                      go_wp2_with fail
                      go_meet
                      rw [hw2.out]
                      exact hSet.out _ hS3.out
                case rest =>
                  have hSr := Lib.hid hcut
                  clear hcut c0 c1 dQ fQ HU hSet
                  have c0 := hSr.out.c0
                  have c1 := hSr.out.c1
                  go_wp2_with fail
                  refine (HO.out _).mono ?_
                  rintro e W3 ⟨rfl, hB3⟩
                  have hS3 := Lib.hid (hSr.out.below hB3)
                  have hcla := hS3.out.clear 0 P c (by omega) (by have := hn.out; omega)
                  have hS4 := Lib.hid (SowAt.zeros P 0 _ _ hS3.out)
                  clear c0 c1 hB3
                  have c0 := hS4.out.c0
                  have c1 := hS4.out.c1
                  go_wp2_with fail
                  refine (HT.out _).mono ?_
                  rintro e W5 ⟨rfl, hB5⟩
                  have hS5 := Lib.hid (hS4.out.below hB5)
                  have hclb := hS5.out.clear (P + 1) P (c - (P + 1)) (by omega) (by have := hn.out; omega)
                  have hS6 := Lib.hid (SowAt.zeros P (P + 1) _ _ hS5.out)
                  clear c0 c1 hB5
                  go_wp2_with fail
                  go_meet
                  rw [hcl3.out]
                  exact hS6.out
          case rest =>
            have c1 := hcut.c1
            have hfin := hfin.out.out
            by_cases eq : a = P
            · have e2 : ((a : Int) == (P : Int)) = true := by simp [eq]
              have hr : R.2 = true := by rw [hfin]; simp [eq]
              have hr1 : R.1 = close m2 P := by rw [hfin]
              replace hr := Lib.hid hr; replace hr1 := Lib.hid hr1; replace hcut := Lib.hid hcut; replace eq := Lib.hid eq
              clear hfin
              go_wp2_with fail
              go_ret
              exact ⟨by rw [hr.out]; rfl, by rw [hr1.out]; exact hcut.out.own, hcut.out.gr⟩
            · have e2 : ((a : Int) == (P : Int)) = false := by simp; omega
              have hr : R.2 = false := by rw [hfin]; simp [eq]
              have hr1 : R.1 = close m2 P := by rw [hfin]
              replace hr := Lib.hid hr; replace hr1 := Lib.hid hr1; replace hcut := Lib.hid hcut; replace eq := Lib.hid eq
              clear hfin
              go_wp2_with fail
              go_ret
              exact ⟨by rw [hr.out]; rfl, by rw [hr1.out]; exact hcut.out.own, hcut.out.gr⟩
end Go.Proofs.Ytehcelajmhclmaa
