/- What table.best tells, if table.play tells right of as many cards. -/
import Derived.Test.YtkakggagaplaiaaBrE
namespace Go.Proofs.Ytkakggagaplaiaa
open Go.RowKit Go.Maps

set_option maxRecDepth 100000 in
theorem ok_look {F : Nat × Nat → Nat} {W : World} {mb : Nat} (h : MapOk F W mb) {p : Nat × Nat} (hp : bkst p) : ∃ z : Bool, ∀ r, (Instr.lookup 83 (.map (some mb)) (.agg #[.int .u64 (p.1 : Int), .int .i64 (p.2 : Int)]) true).run Try.prog (W.drewN r) = .ok (.tuple #[.int .i64 (if z then (F p : Int) else 0), .bool z]) (W.drewN r) := by
  obtain ⟨ks, D, hK⟩ := h
  refine ⟨decide (p ∈ ks), fun r => ?_⟩
  have hK' : Known F (W.drewN r) mb ks D := hK
  obtain ⟨h1, h2, h3, h4, h5⟩ := hK'
  obtain ⟨v, ps, hrun, hv⟩ := h1.look_ok blaw under83 (zero3 _) (plainElem_int u3 (by decide)) (bhkey hp)
  obtain ⟨c, rfl, hc, _⟩ := plainElem_int_inv u3 hv
  rw [h4 p hp] at hrun
  simp only [Prod.mk.injEq] at hc
  have hcv : c = if decide (p ∈ ks) then (F p : Int) else 0 := by
    by_cases hm : p ∈ ks
    · rw [h5 p hm] at hc
      rw [if_pos (by simpa using hm)]
      have := hc.1
      injection this with this
      injection this with _ this
      exact this.symm
    · rw [atKey_of_not_has (by rw [h4 p hp]; simpa using hm)] at hc
      rw [if_neg (by simpa using hm)]
      have := hc.1
      injection this with this
      injection this with _ this
      exact this.symm
  rw [← hcv]
  exact hrun
set_option maxRecDepth 100000 in
theorem ok_put {F : Nat × Nat → Nat} {W : World} {mb : Nat} (h : MapOk F W mb) {p : Nat × Nat} (hp : bkst p) (hb : F p ≤ 1048836) : ∃ W', (Instr.mapUpdate 83 (.map (some mb)) (.agg #[.int .u64 (p.1 : Int), .int .i64 (p.2 : Int)]) (.int .i64 (F p : Int))).run Try.prog W.drew = .ok () W' ∧ MapOk F W' mb ∧ W.grownBy W' (some mb) := by
  obtain ⟨ks, D, hK⟩ := h
  have hK' : Known F W.drew mb ks D := hK
  have hl := known_len hK.2.1 hK.2.2.1
  obtain ⟨W', h1, h2, h3⟩ := hK'.1.update blaw under83 (by unfold maxLen; omega) (bhkey hp) (plainElem_int u3 (WalkArith.wf_i64 (n := (F p : Int)) (by omega)))
  exact ⟨W', h1, hK'.put hp h2, ⟨h3.os, h3.tape, h3.output, h3.size, h3.block⟩⟩

set_option maxRecDepth 100000 in
set_option maxHeartbeats 4000000 in
theorem best_of {s tb mb db t : Nat} {d0 : List Nat} (HG : 1 ≤ t → PlayAt s d0 tb mb db t) : BestAt s d0 tb mb db t := by
  intro d ld q w hc ht hR hD hld hW
  have HS := Lib.hid (state_any (some ⟨tb, 0, none⟩) db ld d w hW.nums hD.len hD.le)
  have hgb := gS_bd (s := s) ht hR hld hc
  have hF := Lib.hid (FB_eq s hD ld)
  have hsp : bkst (msk d 52, ld) := ⟨msk_lt d 52, hld⟩
  have hcz := Lib.hid (crd_zero (d := d))
  have hcr := Lib.hid hc
  have hHG : Hid (1 ≤ t → ∀ w2, w.grownBy w2 (some mb) → MapOk (FB s d0) w2 mb → Calls Try.prog 70 #[.pointer (some ⟨tb, 0, none⟩), .pointer (some ⟨db, 0, none⟩), .int .i64 ld, .slice none 0 0] w2 fun e w' => e = .returned (.int .i64 (gS s t d ld [])) ∧ MapOk (FB s d0) w' mb ∧ w2.grownBy w' (some mb)) := fun h1 w2 hg hm =>
    HG h1 d ld q [] none 0 w2 hc (by simpa using ht) (by omega) (hR (by omega)) hD hld (fun i hi => absurd hi (by simp)) (by simp) ⟨fun _ => rfl, fun _ => rfl⟩ (fun _ => rfl) (fun a h => by cases h) (IntsIn.nil _ _) (hW.grown hg hm)
  have hmw := hW.map.lt
  rw [hc] at hF
  replace hF : Hid ((FB s d0 (msk d 52, ld) : Int) = gS s t d ld []) := by show _ = _; rw [hF.out]; omega
  have hm52 := Lib.hid (msk_lt d 52)
  replace hW := Lib.hid hW
  clear hR hD HG
  have hg00 : t = 0 → gS s t d ld [] = 0 := fun h => by rw [h]; simp [gS]
  generalize gS s t d ld [] = G at *
  generalize msk d 52 = M at *
  rcases Nat.eq_zero_or_pos M with h0 | h0
  · subst h0
    have hG0 : G = 0 := hg00 (by rw [← hcr.out]; exact hcz.out.1 rfl)
    subst hG0
    clear hg00
    go_enter Try.func50, Try.ntmps50
    go_wp2_with fail
    refine HS.out.mono ?_
    rintro e w1 ⟨rfl, hB⟩
    have hM := Lib.hid (hW.out.map.below hB)
    have hg := Lib.hid ((grown_below hB (some mb)).trans (World.grownBy_alloc w1 (Obj.cells #[Value.int .u64 ((0 : Nat) : Int), .int .i64 ld] 110) (some mb)))
    clear hB
    go_wp2_with fail
    go_ret
    exact ⟨rfl, hM.out.alloc _, hg.out⟩
  · have eb : ((M : Int) == 0) = false := by simp; omega
    have ht1 : 1 ≤ t := by
      rcases Nat.eq_zero_or_pos t with h | h
      · have := hcz.out.2 (hcr.out.trans h); omega
      · exact h
    replace hHG := Lib.hid (hHG.out ht1)
    clear hg00
    go_enter Try.func50, Try.ntmps50
    go_wp2_with fail
    refine HS.out.mono ?_
    rintro e w1 ⟨rfl, hB⟩
    have hmw1 : mb < w1.heap.size := Nat.lt_of_lt_of_le hmw hB.size
    have hW2 := (hW.out.below hB).below ((Below.refl _ _).alloc (Nat.le_refl _) (Obj.cells #[Value.int .u64 (M : Int), .int .i64 ld] 110))
    have hg := (grown_below hB (some mb)).trans (World.grownBy_alloc w1 (Obj.cells #[Value.int .u64 (M : Int), .int .i64 ld] 110) (some mb))
    have hbx := heap_alloc_new w1 (Obj.cells #[Value.int .u64 (M : Int), .int .i64 ld] 110)
    have e0 := wcell (cs := [_, _]) hbx 0
    have e1 := wcell (cs := [_, _]) hbx 1
    have hs1 : Hid (w1.heap.size < (w1.alloc (Obj.cells #[Value.int .u64 (M : Int), .int .i64 ld] 110)).heap.size) := by show _ < _; simp
    go_upto_region 2 with fail
    generalize w1.alloc (Obj.cells #[Value.int .u64 (M : Int), .int .i64 ld] 110) = W0 at *
    obtain ⟨bk, hbk⟩ : ∃ bk, bk = w1.heap.size := ⟨_, rfl⟩
    rw [← hbk] at hmw1 hbx e0 e1 hs1 ⊢
    have c1 : W0.cell? ⟨tb, 1, none⟩ = some (.map (some mb)) := wcell (cs := [_, _]) hW2.tab 1
    obtain ⟨z, hz⟩ := ok_look hW2.map hsp
    replace hW2 := Lib.hid hW2; replace hg := Lib.hid hg; replace hbx := Lib.hid hbx
    clear hB hbk
    go_wp2_with fail
    cases z with
    | true =>
      go_quiet (fail)
      go_wp2_with fail
      go_ret
      exact ⟨by rw [← hF.out]; rfl, hW2.out.map.drewN _, hg.out.trans ⟨rfl, rfl, rfl, Nat.le_refl _, fun _ _ _ => rfl⟩⟩
    | false =>
      go_quiet (fail)
      have hW3 := Lib.hid (Wd.grown hW2.out (w' := W0.drewN nq) ⟨rfl, rfl, rfl, Nat.le_refl _, fun _ _ _ => rfl⟩ (hW2.out.map.drewN nq))
      have hg3 : Hid (w.grownBy (W0.drewN nq) (some mb)) := hg.out.trans ⟨rfl, rfl, rfl, Nat.le_refl _, fun _ _ _ => rfl⟩
      have hbx3 : Hid ((W0.drewN nq).heap[bk]? = some (.cells #[.int .u64 (M : Int), .int .i64 ld] 110)) := hbx.out
      have hs3 : Hid (bk < (W0.drewN nq).heap.size) := hs1.out
      generalize W0.drewN nq = W3 at *
      have HC := Lib.hid (hHG.out W3 hg3.out hW3.out.map)
      clear hz c1 e0 e1 hW2 hg hbx
      go_wp2_with fail
      refine HC.out.mono ?_
      rintro e w4 ⟨rfl, hM4, hg4⟩
      have hW4 := hW3.out.grown hg4 hM4
      have hbx4 := (hg4.block bk hs3.out (by intro e; injection e with e; omega)).trans hbx3.out
      obtain ⟨W6, hrun, hok6, hg6⟩ := ok_put hW4.map hsp (by have := hF.out; omega)
      have heq := hF.out
      simp only [heq] at hrun
      have hg7 := Lib.hid ((hg3.out.trans hg4).trans hg6)
      have e2 : w4.cell? ⟨tb, 1, none⟩ = some (.map (some mb)) := wcell (cs := [_, _]) hW4.tab 1
      have t0 : w4.cell? ⟨bk, 0, none⟩ = some (.int .u64 (M : Int)) := wcell (cs := [_, _]) hbx4 0
      have t1 : w4.cell? ⟨bk, 1, none⟩ = some (.int .i64 (ld : Int)) := wcell (cs := [_, _]) hbx4 1
      replace hok6 := Lib.hid hok6
      clear hg6 hg4 hM4 hW4 hbx4 HC
      go_wp2_with fail
      go_region_law (fail)
      all_goals
        go_wp2_with fail
        go_ret
        exact ⟨rfl, hok6.out, hg7.out⟩
end Go.Proofs.Ytkakggagaplaiaa
