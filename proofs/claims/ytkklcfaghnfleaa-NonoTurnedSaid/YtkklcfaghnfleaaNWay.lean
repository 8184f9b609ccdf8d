/- What filler.ways computes: the ways to fill the rest of the line with the blocks that are left; conditions: at most 20 places and blocks, each block of 1 to 20. -/
import Derived.Test.YtkklcfaghnfleaaNFit
import Derived.Deep.RegionHeld3
import Derived.Deep.DeepCutAuto
import Derived.Deep.RegionLaw
import Derived.Deep.QuietTactic
namespace Go.Proofs.Ytkklcfaghnfleaa
open Go.RowKit Go.Maps

def WF (xs : List Int) (ks : List Nat) (p : Nat × Nat) : Nat := WS (xs.drop p.1) (ks.drop p.2)
theorem WF_bound {xs : List Int} {ks : List Nat} {p : Nat × Nat} (h : xs.length ≤ 20) : WF xs ks p ≤ 1048576 := by
  have h1 := WS_bound _ (xs.drop p.1) (ks.drop p.2) (Nat.le_refl _)
  have h2 : 2 ^ (xs.drop p.1).length ≤ 2 ^ 20 := Nat.pow_le_pow_right (by omega) (by simp; omega)
  exact Nat.le_trans h1 h2
theorem WF_end {xs : List Int} {ks : List Nat} {a b : Nat} (h : xs.length ≤ a) : WF xs ks (a, b) = if ks.length ≤ b then 1 else 0 := by
  unfold WF
  rw [List.drop_eq_nil_of_le h, WS_nil]
  by_cases hb : ks.length ≤ b
  · rw [if_pos hb, if_pos (List.drop_eq_nil_of_le hb)]
  · rw [if_neg hb, if_neg]
    intro e
    exact hb (List.drop_eq_nil_iff.1 e)
theorem WF_last {xs : List Int} {ks : List Nat} {a b : Nat} (h : a < xs.length) (hb : ks.length ≤ b) : WF xs ks (a, b) = (if xs[a]?.getD 0 = 1 then 0 else WF xs ks (a + 1, b)) := by
  unfold WF
  simp only
  rw [List.drop_eq_nil_of_le hb, List.drop_eq_getElem_cons h, WS_cons0, List.getElem?_eq_getElem h]
  rfl
theorem WF_step {xs : List Int} {ks : List Nat} {a b : Nat} (h : a < xs.length) (hb : b < ks.length) : WF xs ks (a, b) = (if xs[a]?.getD 0 = 1 then 0 else WF xs ks (a + 1, b)) + if fitsS (xs.drop a) (st ks b) then WF xs ks (a + st ks b + 1, b + 1) else 0 := by
  unfold WF st
  simp only
  rw [List.getElem?_eq_getElem h, List.getElem?_eq_getElem hb]
  simp only [Option.getD_some]
  rw [List.drop_eq_getElem_cons h, List.drop_eq_getElem_cons hb, WS_cons, List.drop_drop, show a + 1 + ks[b] = a + ks[b] + 1 by omega]

/-- where a call of ways stands: its own box, the filler, the map. -/
structure St (w W0 W : World) (fb : Nat) (lq : Option Addr) (n lc : Nat) (cq : Option Addr) (m cc mb : Nat) (xs : List Int) (ks : List Nat) (a b : Nat) : Prop where
  fl : Fl W fb lq n lc cq m cc mb xs ks
  ok : MapOk (WF xs ks) W mb
  gr : w.grownBy W (some mb)
  box : W.heap[w.heap.size]? = some (.cells #[.int .i64 (a : Int), .int .i64 (b : Int)] 62 (0, 0))
  ne : mb < w.heap.size
section
variable {w W0 W W' : World} {fb n lc m cc mb a b : Nat} {lq cq : Option Addr} {xs : List Int} {ks : List Nat}
theorem St.drewN (h : St w W0 W fb lq n lc cq m cc mb xs ks a b) (k : Nat) : St w W0 (W.drewN k) fb lq n lc cq m cc mb xs ks a b :=
  ⟨h.fl.drewN k, h.ok.drewN k, h.gr.trans ⟨rfl, rfl, rfl, Nat.le_refl _, fun _ _ _ => rfl⟩, h.box, h.ne⟩
theorem St.call (h : St w W0 W fb lq n lc cq m cc mb xs ks a b) (hok : MapOk (WF xs ks) W' mb) (hg : W.grownBy W' (some mb)) : St w W0 W' fb lq n lc cq m cc mb xs ks a b :=
  ⟨h.fl.grown h.ok hg, hok, h.gr.trans hg, (hg.block _ (lt_of_heap h.box) (by intro e; injection e with e; have := h.ne; omega)).trans h.box, h.ne⟩
theorem St.s0 (h : St w W0 W fb lq n lc cq m cc mb xs ks a b) : W.cell? ⟨w.heap.size, 0, none⟩ = some (.int .i64 (a : Int)) := wcell (cs := [_, _]) h.box 0
theorem St.s1 (h : St w W0 W fb lq n lc cq m cc mb xs ks a b) : W.cell? ⟨w.heap.size, 1, none⟩ = some (.int .i64 (b : Int)) := wcell (cs := [_, _]) h.box 1
end

theorem ok_look {F : Nat × Nat → Nat} {W : World} {mb : Nat} (h : MapOk F W mb) {p : Nat × Nat} (hp : sst p) : ∃ z : Bool, ∀ r, (Instr.lookup 57 (.map (some mb)) (.agg #[.int .i64 (p.1 : Int), .int .i64 (p.2 : Int)]) true).run Try.prog (W.drewN r) = .ok (.tuple #[.int .i64 (if z then (F p : Int) else 0), .bool z]) (W.drewN r) := by
  obtain ⟨ks, D, hK⟩ := h
  refine ⟨decide (p ∈ ks), fun r => ?_⟩
  have hK' : Known F (W.drewN r) mb ks D := hK
  obtain ⟨h1, h2, h3, h4, h5⟩ := hK'
  obtain ⟨v, ps, hrun, hv⟩ := h1.look_ok slaw under57 (zero3 _) (plainElem_int under3 (by decide)) (shkey hp)
  obtain ⟨c, rfl, hc, _⟩ := plainElem_int_inv under3 hv
  rw [h4 p hp] at hrun
  simp only [Prod.mk.injEq] at hc
  have hcv : c = if decide (p ∈ ks) then (F p : Int) else 0 := by
    by_cases hm : p ∈ ks
    · rw [h5 p hm] at hc
      rw [if_pos (by simpa using hm)]
      have := hc.1
      injection this with this
      injection this with _ this
      exact this.symm
    · rw [atKey_of_not_has (by rw [h4 p hp]; simpa using hm)] at hc
      rw [if_neg (by simpa using hm)]
      have := hc.1
      injection this with this
      injection this with _ this
      exact this.symm
  rw [← hcv]
  exact hrun
theorem ok_put {F : Nat × Nat → Nat} {W : World} {mb : Nat} (h : MapOk F W mb) {p : Nat × Nat} (hp : sst p) (hb : F p ≤ 1048576) : ∃ W', (Instr.mapUpdate 57 (.map (some mb)) (.agg #[.int .i64 (p.1 : Int), .int .i64 (p.2 : Int)]) (.int .i64 (F p : Int))).run Try.prog W.drew = .ok () W' ∧ MapOk F W' mb ∧ W.grownBy W' (some mb) := by
  obtain ⟨ks, D, hK⟩ := h
  have hK' : Known F W.drew mb ks D := hK
  have hl := known_len hK.2.1 hK.2.2.1
  obtain ⟨W', h1, h2, h3⟩ := hK'.1.update slaw under57 (by unfold maxLen; omega) (shkey hp) (plainElem_int under3 (WalkArith.wf_i64 (n := (F p : Int)) (by omega)))
  exact ⟨W', h1, hK'.put hp h2, ⟨h3.os, h3.tape, h3.output, h3.size, h3.block⟩⟩

set_option maxRecDepth 100000 in
set_option maxHeartbeats 8000000 in
theorem ways_any (fb n lc m cc mb : Nat) (lq cq : Option Addr) (xs : List Int) (ks : List Nat) (hn : n ≤ 20) (hm : m ≤ 20) (hks : ∀ k ∈ ks, 1 ≤ k ∧ k ≤ 20) : ∀ (t a b : Nat) (w : World), n - a < t → b ≤ m → a ≤ 41 → Fl w fb lq n lc cq m cc mb xs ks → MapOk (WF xs ks) w mb →
    Calls Try.prog 26 #[.pointer (some ⟨fb, 0, none⟩), .agg #[.int .i64 (a : Int), .int .i64 (b : Int)]] w fun r w' => r = .returned (.int .i64 (WF xs ks (a, b) : Int)) ∧ MapOk (WF xs ks) w' mb ∧ w.grownBy w' (some mb) := by
  intro t
  induction t with
  | zero => intro a b w hat; omega
  | succ t ih =>
    intro a b w hat hb ha hF hM
    have hS0 : St w w (w.alloc (.cells #[.int .i64 (a : Int), .int .i64 (b : Int)] 62)) fb lq n lc cq m cc mb xs ks a b := ⟨hF.below ((Below.refl _ _).alloc (Nat.le_refl _) _), hM.alloc _, World.grownBy_alloc _ _ _, heap_alloc_new w _, hM.lt⟩
    have hlen := hF.line.len
    have hklen : ks.length = m := by have := hF.clue.len; rw [asI_len] at this; exact this
    replace hks := Lib.hid hks
    have hend := Lib.hid (fun h => WF_end (xs := xs) (ks := ks) (a := a) (b := b) h)
    have hlast := Lib.hid (fun h1 h2 => WF_last (xs := xs) (ks := ks) (a := a) (b := b) h1 h2)
    have hstep := Lib.hid (fun h1 h2 => WF_step (xs := xs) (ks := ks) (a := a) (b := b) h1 h2)
    clear hF hM
    have c0 := hS0.fl.c0
    have c1 := hS0.fl.c1
    have c2 := hS0.fl.c2
    have s0 := hS0.s0
    have s1 := hS0.s1
    by_cases hae : n ≤ a
    · have hai : (n : Int) ≤ (a : Int) := by omega
      rw [hlen, hklen] at hend
      replace hend := Lib.hid (hend.out hae)
      replace hS0 := Lib.hid hS0
      clear ih hlast hstep
      go_enter Try.func26, Try.ntmps26
      go_wp2_with fail
      generalize w.alloc (.cells #[.int .i64 (a : Int), .int .i64 (b : Int)] 62) = W at *
      go_quiet (fail)
      have hS1 := Lib.hid (hS0.out.drewN nq)
      generalize W.drewN nq = W1 at *
      have c1 := hS1.out.fl.c1
      have s1 := hS1.out.s1
      clear hS0
      by_cases hbm : b = m
      · subst hbm
        go_wp2_with fail
        go_quiet (fail)
        have hS2 := Lib.hid (hS1.out.drewN nq)
        go_wp2_with fail
        go_ret
        exact ⟨by rw [hend.out, if_pos (Nat.le_refl _)]; rfl, hS2.out.ok, hS2.out.gr⟩
      · have hbi : ((b : Int) == (m : Int)) = false := by simp; omega
        go_wp2_with fail
        go_quiet (fail)
        have hS2 := Lib.hid (hS1.out.drewN nq)
        go_wp2_with fail
        go_ret
        exact ⟨by rw [hend.out, if_neg (by omega)]; rfl, hS2.out.ok, hS2.out.gr⟩
    · have hai : ¬ (n : Int) ≤ (a : Int) := by omega
      have hsp : sst (a, b) := ⟨by show a < 32; omega, by show b < 32; omega⟩
      have hbd : WF xs ks (a, b) ≤ 1048576 := WF_bound (by omega)
      replace hS0 := Lib.hid hS0
      clear hend
      go_enter Try.func26, Try.ntmps26
      go_wp2_with fail
      generalize w.alloc (.cells #[.int .i64 (a : Int), .int .i64 (b : Int)] 62) = W at *
      go_quiet (fail)
      have hS1 := Lib.hid (hS0.out.drewN nq)
      generalize W.drewN nq = W1 at *
      clear hS0 c0 c1 c2 s0 s1
      obtain ⟨z, hz⟩ := ok_look hS1.out.ok hsp
      have c2 := hS1.out.fl.c2
      have s0 := hS1.out.s0
      have s1 := hS1.out.s1
      go_wp2_with fail
      cases z with
      | true =>
        go_quiet (fail)
        have hS2 := Lib.hid (hS1.out.drewN nq)
        go_wp2_with fail
        go_ret
        exact ⟨rfl, hS2.out.ok, hS2.out.gr⟩
      | false =>
        go_quiet (fail)
        have hS2 := Lib.hid (hS1.out.drewN nq)
        generalize W1.drewN nq = W2 at *
        clear hS1 c2 s0 s1 hz
        have c0 := hS2.out.fl.c0
        have s0 := hS2.out.s0
        have s1 := hS2.out.s1
        obtain ⟨gb, go, rfl, hgb, hcx⟩ := hS2.out.fl.line.at (by omega)
        have k0 := hcx a (by omega)
        clear hcx
        obtain ⟨x, hx⟩ : ∃ x, x = xs[a]?.getD 0 := ⟨_, rfl⟩
        rw [← hx] at k0 hlast hstep
        replace hx := Lib.hid hx
        by_cases hx1 : x = 1
        · subst hx1
          go_wp2_with fail
          go_quiet (fail)
          have hS3 := Lib.hid (hS2.out.drewN nq)
          generalize W2.drewN nq = W3 at *
          clear hS2 c0 s0 s1 k0
          have c1 := hS3.out.fl.c1
          have s1 := hS3.out.s1
          by_cases hbm : b < m
          · have hbi : (b : Int) < (m : Int) := by omega
            go_wp2_with fail
            go_quiet (fail)
            have hS4 := Lib.hid (hS3.out.drewN nq)
            generalize W3.drewN nq = W4 at *
            clear hS3 c1 s1
            have c1 := hS4.out.fl.c1
            have s1 := hS4.out.s1
            obtain ⟨kb, ko, rfl, hkb, hky⟩ := hS4.out.fl.clue.at (by omega)
            have k1 : W4.cell? ⟨kb, ko + b, none⟩ = some (.int .i64 ((st ks b : Nat) : Int)) := hS4.out.fl.clue.cellN hbm
            clear hky
            have hstp := Lib.hid (hstep.out (by omega) (by omega))
            have hkr : 1 ≤ st ks b ∧ st ks b ≤ 20 := by
              unfold st
              rw [List.getElem?_eq_getElem (by omega)]
              exact hks.out _ (List.getElem_mem _)
            generalize hkd : st ks b = k at *
            replace hkd := Lib.hid hkd
            obtain ⟨hk1, hk2⟩ := hkr
            go_wp2_with fail
            go_quiet (fail)
            have hS5 := Lib.hid (hS4.out.drewN nq)
            generalize W4.drewN nq = W5 at *
            clear hS4 c1 s1 k1
            have s0 := hS5.out.s0
            have s1 := hS5.out.s1
            have HFt := Lib.hid (fits_any fb n lc m cc mb a k _ _ xs ks W5 hS5.out.fl hn (by omega) hk1 hk2)
            go_wp2_with fail
            refine HFt.out.mono ?_
            rintro r w' ⟨rfl, rfl⟩
            clear HFt
            cases hfb : fitsS (xs.drop a) k with
            | false =>
              rw [hfb] at hstp
              replace hfb := Lib.hid hfb
              go_wp2_with fail
              obtain ⟨W6, hrun, hok6, hg6⟩ := ok_put hS5.out.ok hsp hbd
              have heq : ((WF xs ks (a, b) : Nat) : Int) = 0 := by rw [hstp.out]; simp
              simp only [heq] at hrun
              have hS6 := Lib.hid (hS5.out.call hok6 hg6)
              have e2 := hS5.out.fl.c2
              have t0 := hS5.out.s0
              have t1 := hS5.out.s1
              clear hok6 hg6
              go_wp2_with fail
              go_region_law (fail)
              all_goals
                go_wp2_with fail
                go_ret
                exact ⟨by rw [heq]; rfl, hS6.out.ok, hS6.out.gr⟩
            | true =>
              rw [hfb] at hstp
              have IH2 := Lib.hid (ih (a + k + 1) (b + 1) W5 (by omega) (by omega) (by omega) hS5.out.fl hS5.out.ok)
              have hb2 := WF_bound (xs := xs) (ks := ks) (p := (a + k + 1, b + 1)) (by omega)
              replace hfb := Lib.hid hfb
              generalize hN2 : WF xs ks (a + k + 1, b + 1) = N2 at *
              replace hN2 := Lib.hid hN2
              go_wp2_with fail
              refine (show Calls Try.prog 26 #[.pointer (some ⟨fb, 0, none⟩), .agg #[.int .i64 ((a : Int) + (k : Int) + 1), .int .i64 ((b : Int) + 1)]] W5 _ from by have := IH2.out; push_cast at this; exact this).mono ?_
              rintro r w6 ⟨rfl, hok, hgr⟩
              have hS7 := Lib.hid (hS5.out.call hok hgr)
              clear hok hgr hS5 IH2 s0 s1
              go_wp2_with fail
              obtain ⟨W6, hrun, hok6, hg6⟩ := ok_put hS7.out.ok hsp hbd
              have heq : ((WF xs ks (a, b) : Nat) : Int) = (N2 : Int) := by rw [hstp.out]; simp
              simp only [heq] at hrun
              have hS6 := Lib.hid (hS7.out.call hok6 hg6)
              have e2 := hS7.out.fl.c2
              have t0 := hS7.out.s0
              have t1 := hS7.out.s1
              clear hok6 hg6
              go_wp2_with fail
              go_region_law (fail)
              all_goals
                go_wp2_with fail
                go_ret
                exact ⟨by rw [heq]; rfl, hS6.out.ok, hS6.out.gr⟩
          · have hbi : ¬ (b : Int) < (m : Int) := by omega
            go_wp2_with fail
            go_quiet (fail)
            have hS4 := Lib.hid (hS3.out.drewN nq)
            generalize W3.drewN nq = W4 at *
            clear hS3 c1 s1
            go_wp2_with fail
            obtain ⟨W6, hrun, hok6, hg6⟩ := ok_put hS4.out.ok hsp hbd
            have heq : ((WF xs ks (a, b) : Nat) : Int) = 0 := by rw [hlast.out (by omega) (by omega)]; simp
            simp only [heq] at hrun
            have hS6 := Lib.hid (hS4.out.call hok6 hg6)
            have e2 := hS4.out.fl.c2
            have t0 := hS4.out.s0
            have t1 := hS4.out.s1
            clear hok6 hg6
            go_wp2_with fail
            go_region_law (fail)
            all_goals
              go_wp2_with fail
              go_ret
              exact ⟨by rw [heq]; rfl, hS6.out.ok, hS6.out.gr⟩
        · have hxi : (x != 1) = true := by simp [hx1]
          go_wp2_with fail
          go_quiet (fail)
          have hS3 := Lib.hid (hS2.out.drewN nq)
          generalize W2.drewN nq = W3 at *
          clear hS2 c0 s0 s1 k0
          have s0 := hS3.out.s0
          have s1 := hS3.out.s1
          have IH1 := Lib.hid (ih (a + 1) b W3 (by omega) (by omega) (by omega) hS3.out.fl hS3.out.ok)
          have hb1 := WF_bound (xs := xs) (ks := ks) (p := (a + 1, b)) (by omega)
          generalize hN1 : WF xs ks (a + 1, b) = N1 at *
          replace hN1 := Lib.hid hN1
          replace hx1 := Lib.hid hx1
          go_wp2_with fail
          refine (show Calls Try.prog 26 #[.pointer (some ⟨fb, 0, none⟩), .agg #[.int .i64 ((a : Int) + 1), .int .i64 (b : Int)]] W3 _ from by have := IH1.out; push_cast at this; exact this).mono ?_
          rintro r w5 ⟨rfl, hok, hgr⟩
          have hS8 := Lib.hid (hS3.out.call hok hgr)
          clear hok hgr hS3 IH1 s0 s1
          go_wp2_with fail
          have c1 := hS8.out.fl.c1
          have s1 := hS8.out.s1
          by_cases hbm : b < m
          · have hbi : (b : Int) < (m : Int) := by omega
            go_wp2_with fail
            go_quiet (fail)
            have hS4 := Lib.hid (hS8.out.drewN nq)
            generalize w5.drewN nq = W4 at *
            clear hS8 c1 s1
            have c1 := hS4.out.fl.c1
            have s1 := hS4.out.s1
            obtain ⟨kb, ko, rfl, hkb, hky⟩ := hS4.out.fl.clue.at (by omega)
            have k1 : W4.cell? ⟨kb, ko + b, none⟩ = some (.int .i64 ((st ks b : Nat) : Int)) := hS4.out.fl.clue.cellN hbm
            clear hky
            have hstp := Lib.hid (hstep.out (by omega) (by omega))
            have hkr : 1 ≤ st ks b ∧ st ks b ≤ 20 := by
              unfold st
              rw [List.getElem?_eq_getElem (by omega)]
              exact hks.out _ (List.getElem_mem _)
            generalize hkd : st ks b = k at *
            replace hkd := Lib.hid hkd
            obtain ⟨hk1, hk2⟩ := hkr
            go_wp2_with fail
            go_quiet (fail)
            have hS5 := Lib.hid (hS4.out.drewN nq)
            generalize W4.drewN nq = W5 at *
            clear hS4 c1 s1 k1
            have s0 := hS5.out.s0
            have s1 := hS5.out.s1
            have HFt := Lib.hid (fits_any fb n lc m cc mb a k _ _ xs ks W5 hS5.out.fl hn (by omega) hk1 hk2)
            go_wp2_with fail
            refine HFt.out.mono ?_
            rintro r w' ⟨rfl, rfl⟩
            clear HFt
            cases hfb : fitsS (xs.drop a) k with
            | false =>
              rw [hfb] at hstp
              replace hfb := Lib.hid hfb
              go_wp2_with fail
              obtain ⟨W6, hrun, hok6, hg6⟩ := ok_put hS5.out.ok hsp hbd
              have heq : ((WF xs ks (a, b) : Nat) : Int) = (N1 : Int) := by rw [hstp.out]; rw [if_neg hx1.out]; simp
              simp only [heq] at hrun
              have hS6 := Lib.hid (hS5.out.call hok6 hg6)
              have e2 := hS5.out.fl.c2
              have t0 := hS5.out.s0
              have t1 := hS5.out.s1
              clear hok6 hg6
              go_wp2_with fail
              go_region_law (fail)
              all_goals
                go_wp2_with fail
                go_ret
                exact ⟨by rw [heq]; rfl, hS6.out.ok, hS6.out.gr⟩
            | true =>
              rw [hfb] at hstp
              have IH2 := Lib.hid (ih (a + k + 1) (b + 1) W5 (by omega) (by omega) (by omega) hS5.out.fl hS5.out.ok)
              have hb2 := WF_bound (xs := xs) (ks := ks) (p := (a + k + 1, b + 1)) (by omega)
              replace hfb := Lib.hid hfb
              generalize hN2 : WF xs ks (a + k + 1, b + 1) = N2 at *
              replace hN2 := Lib.hid hN2
              go_wp2_with fail
              refine (show Calls Try.prog 26 #[.pointer (some ⟨fb, 0, none⟩), .agg #[.int .i64 ((a : Int) + (k : Int) + 1), .int .i64 ((b : Int) + 1)]] W5 _ from by have := IH2.out; push_cast at this; exact this).mono ?_
              rintro r w6 ⟨rfl, hok, hgr⟩
              have hS7 := Lib.hid (hS5.out.call hok hgr)
              clear hok hgr hS5 IH2 s0 s1
              go_wp2_with fail
              obtain ⟨W6, hrun, hok6, hg6⟩ := ok_put hS7.out.ok hsp hbd
              have heq : ((WF xs ks (a, b) : Nat) : Int) = (N1 : Int) + (N2 : Int) := by rw [hstp.out]; rw [if_neg hx1.out]; simp
              simp only [heq] at hrun
              have hS6 := Lib.hid (hS7.out.call hok6 hg6)
              have e2 := hS7.out.fl.c2
              have t0 := hS7.out.s0
              have t1 := hS7.out.s1
              clear hok6 hg6
              go_wp2_with fail
              go_region_law (fail)
              all_goals
                go_wp2_with fail
                go_ret
                exact ⟨by rw [heq]; rfl, hS6.out.ok, hS6.out.gr⟩
          · have hbi : ¬ (b : Int) < (m : Int) := by omega
            go_wp2_with fail
            go_quiet (fail)
            have hS4 := Lib.hid (hS8.out.drewN nq)
            generalize w5.drewN nq = W4 at *
            clear hS8 c1 s1
            go_wp2_with fail
            obtain ⟨W6, hrun, hok6, hg6⟩ := ok_put hS4.out.ok hsp hbd
            have heq : ((WF xs ks (a, b) : Nat) : Int) = (N1 : Int) := by rw [hlast.out (by omega) (by omega)]; rw [if_neg hx1.out]
            simp only [heq] at hrun
            have hS6 := Lib.hid (hS4.out.call hok6 hg6)
            have e2 := hS4.out.fl.c2
            have t0 := hS4.out.s0
            have t1 := hS4.out.s1
            clear hok6 hg6
            go_wp2_with fail
            go_region_law (fail)
            all_goals
              go_wp2_with fail
              go_ret
              exact ⟨by rw [heq]; rfl, hS6.out.ok, hS6.out.gr⟩
end Go.Proofs.Ytkklcfaghnfleaa
