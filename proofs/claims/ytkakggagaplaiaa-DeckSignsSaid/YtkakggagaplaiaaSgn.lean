/- The walk of deck.Sign: an order's sign; conditions: 1 to 9 things. -/
import Derived.Test.YtkakggagaplaiaaSgnW
namespace Go.Proofs.Ytkakggagaplaiaa
open Go.RowKit

set_option maxRecDepth 20000 in
set_option maxHeartbeats 4000000 in
theorem sign_any (p : Option Addr) (n c : Nat) (l : List Nat) (w : World) (hn1 : 1 ≤ n) (hn : n ≤ 9) (hx : IntsIn w p n (asI l)) (hl : IsOrd n l) :
    Calls Try.prog 19 #[.slice p n c] w fun e w' => e = .returned (.tuple #[.int .i64 (sgn l), .int .i64 0]) ∧ Below w.heap.size w w' := by
  have HO := Lib.hid (order_any p n c l w (by omega) hx hl)
  have g1 : decide ((104 : Int) < n) = false := decide_eq_false (by omega)
  have hmk := fun W : World => run_mkB n (by omega) W
  replace hx := Lib.hid hx
  go_enter Try.func19, Try.ntmps19
  go_wp2_with fail
  refine HO.out.mono ?_
  rintro e w1 ⟨rfl, hB1⟩
  have hS1 : Hid (Bools (w1.alloc (.cells (Array.replicate n (.bool false)) 4)) w1.heap.size (List.replicate n false)) := by
    have := heap_alloc_new w1 (.cells (Array.replicate n (.bool false)) 4)
    show Bools _ _ _
    unfold Bools
    rw [this]; simp
  have hB2 := Lib.hid (hB1.alloc hB1.size (.cells (Array.replicate n (.bool false)) 4))
  have hws := Lib.hid hB1.size
  clear HO hB1
  have hR0 : Hid (Rng n l l (List.replicate n false)) := ⟨hl, by simp, fun j hj hb => by simp [bt, hj] at hb, fun j hj _ => rfl⟩
  go_upto_region 7 with fail
  generalize w1.alloc (.cells (Array.replicate n (.bool false)) 4) = W0 at *
  obtain ⟨g, hg⟩ : ∃ g, w1.heap.size = g := ⟨_, rfl⟩
  rw [hg] at hS1 hws ⊢
  clear hg hmk
  go_wp2_with fail
  go_loopg [4, 21] n (fun gk sv iv W' => ∃ (i : Nat) (s : Int) (bs : List Bool) (cc : List Nat), i ≤ n ∧ gk = n - i ∧ iv = .int .i64 i ∧ sv = .int .i64 s ∧ (s = 1 ∨ s = -1) ∧ Bools W' g bs ∧ Rng n l cc bs ∧ Hid (sgn cc * s = sgn l) ∧ (∀ j, j < i → bt bs j = true) ∧ Below w.heap.size w W')
  case atStart => exact ⟨0, 1, _, l, by omega, by omega, rfl, rfl, .inl rfl, hS1.out, hR0.out, by show _ = _; simp, fun j h => absurd h (Nat.not_lt_zero j), hB2.out⟩
  case round =>
    obtain ⟨i, s, bs, cc, hi, hgk, rfl, rfl, hs, hS, hR, hsg, hdo, hB⟩ := hrel
    obtain ⟨W1, rfl⟩ : ∃ W1 : World, W1 = wr := ⟨_, rfl⟩
    replace hgk := Lib.hid hgk
    clear hS1 hR0 hB2
    by_cases hlt : i < n
    · obtain ⟨b, o, rfl, hbl, hc⟩ := (hx.out.below hB).at (by omega)
      have c0 : W1.cell? ⟨b, o + i, none⟩ = some (.int .i64 (st l i : Nat)) := by rw [hc i hlt, asI_at]
      have d0 : W1.cell? ⟨g, i, none⟩ = some (.bool (bt bs i)) := hS.cell (by rw [hR.len]; exact hlt)
      have hkn := hl.st_lt hlt
      have hbl2 : b < w.heap.size := by
        obtain ⟨b2, o2, e2, h2, _⟩ := hx.out.at (by omega)
        cases e2; exact h2
      clear hc
      have hdo2 : Hid (∀ bs' : List Bool, bs'.length = n → (∀ j, j < i → bt bs' j = true) → ∀ j, j < i + 1 → bt (bs'.set i true) j = true) := fun bs' hl' h j hj => by
        rw [bt_set _ _ _ _ (by omega)]
        by_cases e : j = i
        · rw [if_pos e]
        · rw [if_neg e]; exact h j (by omega)
      rcases hbi : bt bs i with _ | _
      · rw [hbi] at d0
        have hC : Cyc n i l cc bs := hR.cyc i
        have hci : st cc i = st l i := hR.old i hlt hbi
        obtain ⟨k0, hk0⟩ : ∃ k0, st l i = k0 := ⟨_, rfl⟩
        rw [hk0] at c0 hkn hci
        replace hbi := Lib.hid hbi; replace hk0 := Lib.hid hk0
        replace hC := Lib.hid hC; replace hS := Lib.hid hS; replace hB := Lib.hid hB; replace hdo := Lib.hid hdo
        clear hR
        go_wp2_with fail
        clear c0 d0
        go_loopg [4, 7] (nf bs) (fun gk sv kv W' => ∃ (k : Nat) (s : Int) (bs : List Bool) (cc : List Nat), k < n ∧ gk = nf bs ∧ kv = .int .i64 k ∧ sv = .int .i64 s ∧ (s = 1 ∨ s = -1) ∧ Bools W' g bs ∧ Cyc n i l cc bs ∧ st cc i = k ∧ bt bs i = false ∧ Hid (sgn cc * s = sgn l) ∧ (∀ j, j < i → bt bs j = true) ∧ Below w.heap.size w W')
        case atStart => exact ⟨k0, s, bs, cc, hkn, rfl, rfl, rfl, hs, hS.out, hC.out, hci, hbi.out, hsg, hdo.out, hB.out⟩
        case round =>
          obtain ⟨k, s, bs, cc, hk, hgk2, rfl, rfl, hs, hS, hC, hci, hbi, hsg, hdo, hB⟩ := hrel
          obtain ⟨W2, rfl⟩ : ∃ W2 : World, W2 = wr := ⟨_, rfl⟩
          have hlb := hC.len
          have d0 : W2.cell? ⟨g, i, none⟩ = some (.bool false) := by rw [hS.cell (by omega), hbi]
          by_cases hki : k = i
          · subst hki
            have f0 := hS.free k
            have hS2 := Lib.hid (hS.set k true)
            have hR2 := Lib.hid (hC.rng hlt hci)
            have hd2 := Lib.hid (hdo2.out bs hlb hdo)
            have hB2 := Lib.hid (hB.setCell (p := ⟨g, k, none⟩) hws.out (.bool true))
            clear hS hC hdo hB hci hbi
            replace hlb := Lib.hid hlb; replace hgk2 := Lib.hid hgk2
            go_wp2_with fail
            have hgk := hgk.out
            go_roundg (n - (k + 1))
            case measure => omega
            case rel => exact ⟨k + 1, s, _, cc, by omega, rfl, by go_num, rfl, hs, hS2.out, hR2.out, hsg, hd2.out, hB2.out⟩
          · obtain ⟨cc2, hC2, hci2, hsg2⟩ := hC.step hn hlt hk hki hci
            have hbk := hC.un hlt hk hki hci
            have hnf := nf_set bs k (by omega) hbk
            have d1 : W2.cell? ⟨g, k, none⟩ = some (.bool false) := by rw [hS.cell (by omega), hbk]
            have f1 := hS.free k
            have hkI : ((k : Int) != (i : Int)) = true := by simp; omega
            have hB2 := hB.setCell (p := ⟨g, k, none⟩) hws.out (.bool true)
            have c1 : (W2.setCell ⟨g, k, none⟩ (.bool true)).cell? ⟨b, o + k, none⟩ = some (.int .i64 (st l k : Nat)) := by
              obtain ⟨b2, o2, e2, _, hc2⟩ := (hx.out.below hB2).at (by omega)
              cases e2
              rw [hc2 k hk, asI_at]
            have hS2 := Lib.hid (hS.set k true)
            have hbi2 : Hid (bt (bs.set k true) i = false) := by show _ = _; rw [bt_set _ _ _ _ (by omega), if_neg (fun e => hki e.symm)]; exact hbi
            have hd2 : Hid (∀ j, j < i → bt (bs.set k true) j = true) := fun j hj => by
              rw [bt_set _ _ _ _ (by omega)]
              by_cases e : j = k
              · rw [if_pos e]
              · rw [if_neg e]; exact hdo j hj
            have hsg3 : Hid (sgn cc2 * -s = sgn l) := by show _ = _; rw [hsg2, Int.neg_mul_neg]; exact hsg.out
            have hkn2 := hl.st_lt hk
            have hs2 : -s = 1 ∨ -s = -1 := by omega
            have wn : IntKind.i64.wrap (-s) = -s := IntWalk.i64_in _ (by omega)
            obtain ⟨z, hz⟩ : ∃ z, st l k = z := ⟨_, rfl⟩
            rw [hz] at c1 hci2 hkn2
            replace hB2 := Lib.hid hB2; replace hC2 := Lib.hid hC2; replace hz := Lib.hid hz; replace hci2 := Lib.hid hci2
            clear hS hC hdo hB hci hbi hsg2
            replace hlb := Lib.hid hlb; replace hgk2 := Lib.hid hgk2; replace hki := Lib.hid hki; replace hbk := Lib.hid hbk
            go_wp2_with fail
            have hgk2 := hgk2.out
            go_roundg (nf (bs.set k true))
            case measure => omega
            case rel => exact ⟨z, -s, _, cc2, hkn2, rfl, rfl, by go_num, hs2, hS2.out, hC2.out, hci2.out, hbi2.out, hsg3, hd2.out, hB2.out⟩
      · rw [hbi] at d0
        have hR2 := Lib.hid ((hR.cyc i).rng hlt (hR.home i hlt hbi))
        have f0 := hS.free i
        have hS2 := Lib.hid (hS.set i true)
        have hd2 := Lib.hid (hdo2.out bs hR.len hdo)
        have hB2 := Lib.hid (hB.setCell (p := ⟨g, i, none⟩) hws.out (.bool true))
        clear hR hS hdo hB
        generalize st l i = k0 at *
        go_wp2_with fail
        go_loopg [4, 7] 0 (fun gk sv kv W' => gk = 0 ∧ kv = .int .i64 k0 ∧ sv = .int .i64 s ∧ W1 = W')
        case atStart => exact ⟨rfl, rfl, rfl, rfl⟩
        case round =>
          obtain ⟨_, rfl, rfl, rfl⟩ := hrel
          go_wp2_with fail
          have hgk := hgk.out
          go_roundg (n - (i + 1))
          case measure => omega
          case rel => exact ⟨i + 1, s, _, cc, by omega, rfl, by go_num, rfl, hs, hS2.out, hR2.out, hsg, hd2.out, hB2.out⟩
    · obtain rfl : i = n := by omega
      have hfin : Hid (sgn l = s) := by
        show _ = _; rw [← hsg.out, hR.done hdo]; simp
      replace hB := Lib.hid hB
      clear hS hR hdo
      go_wp2_with fail
      go_ret2
      rw [hfin.out]
      exact ⟨rfl, hB.out⟩
end Go.Proofs.Ytkakggagaplaiaa
