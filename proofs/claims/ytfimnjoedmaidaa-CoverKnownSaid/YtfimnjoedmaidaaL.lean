/- What the closure of cover.Latin and cover.Latin (no rows given) compute, told by the plain function fillS; conditions: n is 1 to 4. -/
import Derived.Test.YtfimnjoedmaidaaMem
import Derived.Test.YtfimnjoedmaidaaSpec
import Derived.Test.YtfimnjoedmaidaaRows
import Derived.Laws.EntriesVeiled
import Derived.RegionTactic
import Derived.BigRegion
import Derived.Deep.DeepCutAuto
import Derived.Deep.RegionWith
import Derived.IntWalk
namespace Go.Proofs.Ytfimnjoedmaidaa
open Go.RowKit

def LSt (w : World) (n nb cb fb g : Nat) : Prop :=
  w.heap[nb]? = some (.cells #[.int .i64 n] 3 (0, 0)) ∧ w.heap[cb]? = some (.cells #[.slice (some ⟨g, 0, none⟩) n n] 40 (0, 0)) ∧
  w.heap[fb]? = some (.cells #[.func (.func 14) #[] #[.pointer (some ⟨nb, 0, none⟩), .pointer (some ⟨cb, 0, none⟩), .pointer (some ⟨fb, 0, none⟩)]] 41 (0, 0)) ∧ nb ≠ g ∧ cb ≠ g ∧ fb ≠ g
theorem LSt.grown {w w' : World} {n nb cb fb g : Nat} (h : LSt w n nb cb fb g) (hg : w.grownBy w' (some g)) : LSt w' n nb cb fb g := by
  obtain ⟨h1, h2, h3, n1, n2, n3⟩ := h
  exact ⟨(hg.block nb (lt_of_heap h1) (by simpa using n1)).trans h1, (hg.block cb (lt_of_heap h2) (by simpa using n2)).trans h2, (hg.block fb (lt_of_heap h3) (by simpa using n3)).trans h3, n1, n2, n3⟩

set_option maxHeartbeats 4000000 in
theorem fill_any (n nb cb fb g : Nat) (h1 : 1 ≤ n) (hn : n ≤ 4) : ∀ (f at_ : Nat) (inn : Int) (cs : List Int) (w : World), n * n = at_ + f → Hid (LSt w n nb cb fb g) → Hid (NumsK .u64 w g 39 cs) → Hid (cs.length = n) → ∀ (aI : Int), Hid (aI = at_) →
    Calls Try.prog 14 #[.int .i64 aI, .int .u64 inn, .pointer (some ⟨nb, 0, none⟩), .pointer (some ⟨cb, 0, none⟩), .pointer (some ⟨fb, 0, none⟩)] w fun e w' => e = .returned (.int .i64 (fillS n f at_ inn cs).1) ∧ NumsK .u64 w' g 39 (fillS n f at_ inn cs).2 ∧ w.grownBy w' (some g) := by
  have hnn : n * n ≤ 4 * 4 := Nat.mul_le_mul hn hn
  have hnn1 : 1 * 1 ≤ n * n := Nat.mul_le_mul h1 h1
  have en : ((n * n : Nat) : Int) = (n : Int) * n := by simp
  have m0 : 0 ≤ (n : Int) * n := by omega
  have m1 : (n : Int) * n ≤ 16 := by omega
  intro f
  induction f with
  | zero =>
    intro at_ inn cs w hf hS hN hl aI hy
    have hy := hy.out
    subst hy
    have c0 := cell_of_one hS.out.1
    have e0 : ((at_ : Int) == (n : Int) * n) = true := by simp; omega
    have p1 : (1 : Int) ≤ n := by omega
    replace hf := Lib.hid hf; replace en := Lib.hid en; replace hnn := Lib.hid hnn; replace hnn1 := Lib.hid hnn1
    go_enter Try.func14, Try.ntmps14
    go_wp2
    all_goals (go_ret; exact ⟨rfl, hN.out, World.grownBy.refl _ _⟩)
  | succ f ih =>
    intro at_ inn cs w hf hS hN hl aI hy
    have hy := hy.out
    subst hy
    have c0 := cell_of_one hS.out.1
    have e0 : ((at_ : Int) == (n : Int) * n) = false := by simp; omega
    have hlt : (at_ : Int) < (n : Int) * n := by omega
    have hat16 : at_ < 16 := by omega
    have hf15 : f ≤ 15 := by omega
    have p1 : (1 : Int) ≤ n := by omega
    obtain ⟨x, hx⟩ : ∃ x, x = at_ % n := ⟨_, rfl⟩
    have hxn : x < n := by rw [hx]; exact Nat.mod_lt _ (by omega)
    have hxd : (at_ : Int) % (n : Int) = (x : Int) := by rw [hx]; simp
    have hp : 4 ^ f ≤ 4 ^ 15 := Nat.pow_le_pow_right (by omega) hf15
    replace hx := Lib.hid hx
    replace hf := Lib.hid hf; replace en := Lib.hid en; replace hnn := Lib.hid hnn; replace hnn1 := Lib.hid hnn1; replace hp := Lib.hid hp
    obtain ⟨i', hi'⟩ : ∃ i', i' = start n at_ inn := ⟨_, rfl⟩
    replace hi' := Lib.hid hi'
    obtain ⟨b, hb⟩ : ∃ b : Bool, ((x : Int) == 0) = b := ⟨_, rfl⟩
    go_enter Try.func14, Try.ntmps14
    go_upto_if 15 with (fail)
    simp only [hxd]
    clear hxd
    go_cut [1] (fun i W => i = .int .u64 i' ∧ w = W)
    case first =>
      replace hb := Lib.hid hb
      cases b
      · have hst : Hid (i' = inn) := by show _ = _; rw [hi'.out, start, if_neg (by rw [← hx.out]; have := hb.out; simpa using this)]
        go_wp2
        go_meet
        exact ⟨by rw [hst.out], rfl⟩
      · have hst : Hid (i' = 0) := by show _ = _; rw [hi'.out, start, if_pos (by rw [← hx.out]; have := hb.out; simpa using this)]
        go_wp2
        go_meet
        exact ⟨by rw [hst.out], rfl⟩
    case rest =>
      obtain ⟨rfl, rfl⟩ := hcut
      replace hb := Lib.hid hb
      go_wp2
      generalize hbody : (fun v cs' => fillS n f (at_ + 1) (bor i' (sh v)) cs') = body at *
      have hL1 : ∀ k, k ≤ n → (loopL body i' x cs k).1 ≤ 4294967296 := fun k hk => by
        have h := loopL_le body i' x cs (4 ^ f) (fun v c => by rw [← hbody]; exact fillS_le n hn f _ _ _) k
        have h2 : k * 4 ^ f ≤ 4 * 4 ^ 15 := Nat.mul_le_mul (by omega) hp.out
        omega
      have hL2 := loopL_len body i' x cs (fun v c => by rw [← hbody]; exact fillS_len n f _ _ _)
      have hfin : Hid (fillS n (f + 1) at_ inn cs = loopL body i' x cs n) := by show _ = _; rw [fillS, ← hi'.out, ← hx.out, ← hbody]
      replace hbody := Lib.hid hbody; replace hL1 := Lib.hid hL1; replace hL2 := Lib.hid hL2
      clear c0
      go_loopg [9, 10] n (fun kk m v W => ∃ k : Nat, k ≤ n ∧ kk = n - k ∧ v = .int .i64 ((k : Int) + 1) ∧ m = .int .i64 ((loopL body i' x cs k).1 : Nat) ∧ NumsK .u64 W g 39 (loopL body i' x cs k).2 ∧ w.grownBy W (some g))
      case atStart => exact ⟨0, by omega, by omega, rfl, rfl, hN.out, World.grownBy.refl _ _⟩
      case round =>
        obtain ⟨k, hk, hgk, rfl, rfl, hNk, hgr⟩ := hrel
        replace hgk := Lib.hid hgk
        have hb1 := hL1.out k hk
        have hl2 := hL2.out k
        have hS1 := hS.out.grown hgr
        have c0 := cell_of_one hS1.1
        by_cases hlt2 : k < n
        · have hb2 := hL1.out (k + 1) hlt2
          have hstep : Hid (loopL body i' x cs (k + 1) = if skip i' (loopL body i' x cs k).2 x (k + 1) then loopL body i' x cs k else
            ((loopL body i' x cs k).1 + (body (k + 1) (flip (loopL body i' x cs k).2 x (k + 1))).1, flip (body (k + 1) (flip (loopL body i' x cs k).2 x (k + 1))).2 x (k + 1))) := rfl
          generalize loopL body i' x cs k = L at *
          obtain ⟨m, cs1⟩ := L
          simp only at hb1 hl2 hNk hstep ⊢
          have cc := cell_of_one hS1.2.1
          have cf := cell_of_one hS1.2.2.1
          have hcl : cs1.length = n := by rw [hl2, hl.out]
          have cx := hNk.cell (i := x) (by omega)
          have fx := hNk.free x
          have z1 : (0 : Int) ≤ (k : Int) + 1 := by omega
          have z2 : ((k : Int) + 1).toNat = k + 1 := by omega
          replace hNk := Lib.hid hNk; replace hgr := Lib.hid hgr; replace hS1 := Lib.hid hS1; replace hcl := Lib.hid hcl
          clear hl2
          by_cases hsk : skip i' cs1 x (k + 1) = true
          · rw [if_pos hsk] at hstep
            have hsk' : (bits .and .u64 (i' / 2 ^ (k + 1)) 1 == 1) = true ∨ (bits .and .u64 (cs1[x]?.getD 0 / 2 ^ (k + 1)) 1 == 1) = true := by simpa [skip, band, bshr] using hsk
            by_cases hs1 : (bits .and .u64 (i' / 2 ^ (k + 1)) 1 == 1) = true
            · clear hsk hsk'
              go_wp2
              have hgk := hgk.out
              go_roundg (n - (k + 1))
              case measure => omega
              case rel => exact ⟨k + 1, by omega, rfl, by go_num, by rw [hstep.out], by rw [hstep.out]; exact hNk.out, hgr.out⟩
            · have hs2 : (bits .and .u64 (cs1[x]?.getD 0 / 2 ^ (k + 1)) 1 == 1) = true := hsk'.resolve_left hs1
              have hs1' : (bits .and .u64 (i' / 2 ^ (k + 1)) 1 == 1) = false := by simpa using hs1
              clear hsk hsk' hs1
              go_wp2
              have hgk := hgk.out
              go_roundg (n - (k + 1))
              case measure => omega
              case rel => exact ⟨k + 1, by omega, rfl, by go_num, by rw [hstep.out], by rw [hstep.out]; exact hNk.out, hgr.out⟩
          · rw [if_neg hsk] at hstep
            have hsk' : (bits .and .u64 (i' / 2 ^ (k + 1)) 1 == 1) = false ∧ (bits .and .u64 (cs1[x]?.getD 0 / 2 ^ (k + 1)) 1 == 1) = false := by simpa [skip, band, bshr] using hsk
            obtain ⟨hs1, hs2⟩ := hsk'
            rw [hstep.out] at hb2
            clear hsk
            go_wp2
            go_region
            go_wp2_with fail
            have hgs := grown_drew (grown_set (World.grownBy.refl wr (some g)) x (.int .u64 (bits .xor .u64 (cs1[x]?.getD 0) (IntKind.u64.wrap (2 ^ (k + 1))))))
            have hS2 := hS1.out.grown hgs
            have hN2 : NumsK .u64 ((wr.setCell ⟨g, x, none⟩ (.int .u64 (bits .xor .u64 (cs1[x]?.getD 0) (IntKind.u64.wrap (2 ^ (k + 1)))))).drew) g 39 (flip cs1 x (k + 1)) := hNk.out.set x _
            have cf2 := cell_of_one hS2.2.2.1
            have hgr2 := grown_trans hgr.out hgs
            generalize (wr.setCell ⟨g, x, none⟩ (.int .u64 (bits .xor .u64 (cs1[x]?.getD 0) (IntKind.u64.wrap (2 ^ (k + 1)))))).drew = W2 at *
            have hfl : (flip cs1 x (k + 1)).length = n := by unfold flip; rw [List.length_set]; exact hcl.out
            have IH := ih (at_ + 1) (bor i' (sh (k + 1))) (flip cs1 x (k + 1)) W2.drew (by have := hf.out; omega) hS2 hN2 hfl
            have hbd : Hid (body (k + 1) (flip cs1 x (k + 1)) = fillS n f (at_ + 1) (bor i' (sh (k + 1))) (flip cs1 x (k + 1))) := by show _ = _; rw [← hbody.out]
            rw [← hbd.out] at IH
            replace IH := Lib.hid IH
            have hb3 := hb2
            try dsimp only at hb3
            have hql : Hid ((body (k + 1) (flip cs1 x (k + 1))).2.length = n) := by show _ = _; rw [hbd.out, fillS_len]; exact hfl
            generalize body (k + 1) (flip cs1 x (k + 1)) = q at *
            obtain ⟨qm, qc⟩ := q
            try dsimp only at hb3
            try dsimp only at hql
            try dsimp only at hstep
            have hb4 : m + qm ≤ 4294967296 := hb3
            replace hgr2 := Lib.hid hgr2; replace hN2 := Lib.hid hN2; replace hS2 := Lib.hid hS2
            clear hb2 hb3 cx fx c0 cc cf hgs hfl hgr hNk hS1
            have hw1 : IntKind.i64.wrap ((at_ : Int) + 1) = (at_ : Int) + 1 := IntWalk.i64_in _ (by omega)
            have hw2 : IntKind.i64.wrap ((m : Int) + qm) = (m : Int) + qm := IntWalk.i64_in _ (by omega)
            go_region_with (go_at_call 14; refine (IH.out _ (Lib.hid (by omega))).mono ?_; rintro e w' ⟨rfl, hN3, hg3⟩)
            have hg4 := grown_trans (grown_drew (World.grownBy.refl W2 (some g))) hg3
            have hS3 := hS2.out.grown hg4
            have cc3 := cell_of_one hS3.2.1
            have c03 := cell_of_one hS3.1
            have cx3 := hN3.cell (i := x) (by rw [hql.out]; exact hxn)
            have fx3 := hN3.free x
            have hgr3 := grown_trans hgr2.out hg4
            replace hgr3 := Lib.hid hgr3; replace hN3 := Lib.hid hN3
            clear hw1 hw2 hg3 hg4 hS3
            go_wp2_with fail
            go_region
            go_wp2_with fail
            have hgk := hgk.out
            go_roundg (n - (k + 1))
            case measure => omega
            case rel =>
              refine ⟨k + 1, by omega, rfl, by go_num, by rw [hstep.out]; go_num, ?_, ?_⟩
              · rw [hstep.out]; exact hN3.out.set x _
              · exact grown_drew (grown_set hgr3.out x _)
        · have hkn : k = n := by omega
          replace hNk := Lib.hid hNk; replace hgr := Lib.hid hgr; replace hS1 := Lib.hid hS1; replace hkn := Lib.hid hkn
          go_wp2
          go_ret
          have hN' := hNk.out
          rw [hkn.out] at hN'
          exact ⟨ret_int (by rw [hfin.out, hkn.out]), by rw [hfin.out]; exact hN', hgr.out⟩
end Go.Proofs.Ytfimnjoedmaidaa
