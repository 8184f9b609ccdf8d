/- What runs computes at each closure that it may be handed; conditions: E tells the device, the uses and what the closure keeps, as the hypotheses say. -/
import Derived.Test.YtlmgfikjkflffaaDoorCkW
namespace Go.Proofs.YtlmgfikjkflffaaDoor
open Go.RowKit

theorem press_any (w : World) (g : Nat) (c : Ct) (d : Dv) (u k : Nat) (hG : Good c k d) (hk : k ≤ 1000) (hD : DevAt w g c d) (h1 : c.base ≤ 36000000) (hb : c.bonus ≤ 36000000) (hmo : c.more ≤ 36000000) (hmv : c.moves ≤ 1000)
    (hu : u ≤ 36000000) :
    Calls Tryd.prog 21 #[.pointer (some ⟨g, 0, none⟩), .int .i64 u] w fun e w' => e = .returned (.bool (stepS c d u).2) ∧ DevAt w' g c (stepS c d u).1 ∧ OnlyG w w' g := by
  have hv := hG.mv
  have h0 := hG.m0
  have h1' := hG.m1
  have p0 := hG.t0
  have p1 := hG.t1
  have q0 : P c d.m0 ≤ 100000000000 := P_le h1 hb hmo (by omega)
  have q1 : P c d.m1 ≤ 100000000000 := P_le h1 hb hmo (by omega)
  have hp : d.mv % 2 = 0 ∨ d.mv % 2 = 1 := by omega
  rcases hp with hp | hp
  · exact press0_any w g c d u hD hp hb hmo hmv hu (by omega) (by omega) (by omega)
  · exact press1_any w g c d u hD hp hb hmo hmv hu (by omega) (by omega) (by omega)

theorem stepS_mv (c : Ct) (d : Dv) (u : Nat) : (stepS c d u).1.mv = d.mv + (if (stepS c d u).2 = true then 1 else 0) := by
  unfold stepS
  split
  · cases pressS c d.t0 d.m0 u <;> rfl
  · cases pressS c d.t1 d.m1 u <;> rfl
theorem drop_at (s : List Nat) (j : Nat) (h : j < s.length) : s.drop j = st s j :: s.drop (j + 1) := by
  rw [List.drop_eq_getElem_cons h]
  congr 1
  unfold st
  rw [List.getElem?_eq_getElem h]; rfl

set_option maxHeartbeats 4000000 in
theorem runs12_any (g : Nat) (c : Ct) (s : List Nat) (p : Option Addr) (n cq : Nat)  (E : Nat → Dv → World → Prop) (h1 : c.base ≤ 36000000) (hb : c.bonus ≤ 36000000) (hmo : c.more ≤ 36000000) (hmv : c.moves ≤ 1000)
    (hn : n ≤ 200) (hs : ∀ j, st s j ≤ 36000000)
    (HT : ∀ k d W, k ≤ 200 → E k d W → Calls Tryd.prog 12 #[] W fun e w' => e = .returned (.tuple #[]) ∧ E (k + 1) d w')
    (HP : ∀ k d d' W W', E k d W → DevAt W' g c d' → OnlyG W W' g → E k d' W')
    (HD : ∀ k d W, E k d W → DevAt W g c d) (HU : ∀ k d W, E k d W → IntsIn W p n (asI s)) (w : World) (h0 : E 0 (dev0 c) w) :
    Calls Tryd.prog 11 #[.pointer (some ⟨g, 0, none⟩), .slice p n cq, .func (.func 12) #[] #[]] w fun e w' =>
      (∀ d, runS c (dev0 c) s = some d → e = .returned (.int .i64 0) ∧ E (d.mv + 1) d w') ∧ (runS c (dev0 c) s = none → e = .returned (.int .i64 9) ∧ ∃ k d, E k d w') := by
  have hl : s.length = n := by have := (HU _ _ _ h0).len; rwa [asI_len] at this
  have hT0 := Lib.hid (HT 0 (dev0 c) w (by omega) h0)
  replace HT := Lib.hid HT; replace HP := Lib.hid HP; replace HD := Lib.hid HD; replace HU := Lib.hid HU; replace hs := Lib.hid hs; replace hl := Lib.hid hl
  have hR0 : Hid (∀ R, R = runS c (dev0 c) s → runS c (dev0 c) s = R) := Lib.hid fun R h => h.symm
  obtain ⟨R, hR⟩ : ∃ R, runS c (dev0 c) s = R := ⟨_, rfl⟩
  rw [hR]
  clear hR0 h0
  replace hR := Lib.hid hR
  go_enter Tryd.func11, Tryd.ntmps11
  go_wp2_with fail
  refine hT0.out.mono ?_
  rintro e w1 ⟨rfl, hE1⟩
  replace hE1 := Lib.hid hE1
  clear hT0
  go_wp2_with fail
  go_loopg [13] n (fun k iv W => ∃ (j : Nat) (d : Dv), j ≤ n ∧ k = n - j ∧ iv = .int .i64 j ∧ Good c j d ∧ runS c d (s.drop j) = R ∧ E (d.mv + 1) d W)
  case atStart => exact ⟨0, dev0 c, Nat.zero_le _, by omega, rfl, Good.start c, hR.out, hE1.out⟩
  case round =>
    obtain ⟨j, d, hj, hk, rfl, hG, hrun, hE⟩ := hrel
    obtain ⟨W1, rfl⟩ : ∃ W1 : World, W1 = wr := ⟨_, rfl⟩
    replace hk := Lib.hid hk
    clear hE1
    by_cases hlt : j < n
    · obtain ⟨b, o, rfl, hbk, hc⟩ := (HU.out _ _ _ hE).at (by omega)
      have hcj := hc j hlt
      rw [asI_at] at hcj
      clear hc
      have hdr := drop_at s j (by have := hl.out; omega)
      rw [hdr] at hrun
      unfold runS at hrun
      have hu := hs.out j
      have hD := HD.out _ _ _ hE
      have c7 : W1.cell? ⟨g, 7, none⟩ = some (.int .i64 d.fl) := by rw [hD.cell]; rfl
      have hf0 := hG.fl0
      by_cases hf : 0 ≤ d.fl
      · rw [if_pos hf] at hrun
        replace hrun := Lib.hid hrun; replace hE := Lib.hid hE; replace hG := Lib.hid hG; replace hD := Lib.hid hD; replace hdr := Lib.hid hdr
        generalize st s j = u at *
        generalize d.fl = f at *
        go_wp2_with fail
        go_ret
        rw [← hrun.out]
        exact ⟨fun d h => (by cases h), fun _ => ⟨rfl, _, _, hE.out⟩⟩
      · rw [if_neg hf] at hrun
        have HX := Lib.hid (press_any W1 g c d (st s j) j hG (by omega) hD h1 hb hmo hmv hu)
        have hG' := hG.step (st s j)
        have hmv' := stepS_mv c d (st s j)
        have hHP := Lib.hid (fun W' => HP.out (d.mv + 1) d (stepS c d (st s j)).1 W1 W' hE)
        obtain ⟨ok, hok⟩ : ∃ ok, (stepS c d (st s j)).2 = ok := ⟨_, rfl⟩
        rw [hok] at HX hmv'
        obtain ⟨d', hd'⟩ : ∃ d', (stepS c d (st s j)).1 = d' := ⟨_, rfl⟩
        rw [hd'] at HX hmv' hHP hG' hrun
        have hmle := hG.mv
        replace hrun := Lib.hid hrun; replace hE := Lib.hid hE; replace hG := Lib.hid hG; replace hD := Lib.hid hD; replace hdr := Lib.hid hdr; replace hG' := Lib.hid hG'; replace hok := Lib.hid hok; replace hd' := Lib.hid hd'
        generalize st s j = u at *
        generalize d.fl = f at *
        cases ok with
        | true =>
          have hmv2 : d'.mv = d.mv + 1 := by simpa using hmv'
          clear hmv'
          replace hmv2 := Lib.hid hmv2
          go_wp2_with fail
          refine HX.out.mono ?_
          rintro e W2 ⟨rfl, hD2, hO2⟩
          have HT2 := Lib.hid (HT.out _ _ _ (by omega) (hHP.out W2 hD2 hO2))
          clear HX c7 hcj
          replace hD2 := Lib.hid hD2; replace hO2 := Lib.hid hO2
          go_wp2_with fail
          refine HT2.out.mono ?_
          rintro e W3 ⟨rfl, hE3⟩
          replace hE3 := Lib.hid hE3
          go_wp2_with fail
          have hk := hk.out
          go_roundg (n - (j + 1))
          case measure => omega
          case rel => exact ⟨j + 1, d', by omega, rfl, by go_num, hG'.out, hrun.out, by rw [hmv2.out]; exact hE3.out⟩
        | false =>
          have hmv2 : d'.mv = d.mv := by simpa using hmv'
          clear hmv'
          replace hmv2 := Lib.hid hmv2
          go_wp2_with fail
          refine HX.out.mono ?_
          rintro e W2 ⟨rfl, hD2, hO2⟩
          have hE3 := Lib.hid (hHP.out W2 hD2 hO2)
          clear HX c7 hcj
          replace hD2 := Lib.hid hD2; replace hO2 := Lib.hid hO2
          go_wp2_with fail
          have hk := hk.out
          go_roundg (n - (j + 1))
          case measure => omega
          case rel => exact ⟨j + 1, d', by omega, rfl, by go_num, hG'.out, hrun.out, by rw [hmv2.out]; exact hE3.out⟩
    · obtain rfl : n = j := by omega
      have hd0 : s.drop n = [] := List.drop_eq_nil_of_le (by have := hl.out; omega)
      rw [hd0] at hrun
      unfold runS at hrun
      replace hrun := Lib.hid hrun; replace hE := Lib.hid hE; replace hG := Lib.hid hG; replace hd0 := Lib.hid hd0
      go_wp2_with fail
      go_ret
      rw [← hrun.out]
      exact ⟨fun d2 h => (by cases h; exact ⟨rfl, hE.out⟩), fun h => (by cases h)⟩

set_option maxHeartbeats 4000000 in
theorem runs13_any (g : Nat) (c : Ct) (s : List Nat) (p : Option Addr) (n cq : Nat) (lb db : Nat) (E : Nat → Dv → World → Prop) (h1 : c.base ≤ 36000000) (hb : c.bonus ≤ 36000000) (hmo : c.more ≤ 36000000) (hmv : c.moves ≤ 1000)
    (hn : n ≤ 200) (hs : ∀ j, st s j ≤ 36000000)
    (HT : ∀ k d W, k ≤ 200 → E k d W → Calls Tryd.prog 13 #[.pointer (some ⟨lb, 0, none⟩), .pointer (some ⟨db, 0, none⟩)] W fun e w' => e = .returned (.tuple #[]) ∧ E (k + 1) d w')
    (HP : ∀ k d d' W W', E k d W → DevAt W' g c d' → OnlyG W W' g → E k d' W')
    (HD : ∀ k d W, E k d W → DevAt W g c d) (HU : ∀ k d W, E k d W → IntsIn W p n (asI s)) (w : World) (h0 : E 0 (dev0 c) w) :
    Calls Tryd.prog 11 #[.pointer (some ⟨g, 0, none⟩), .slice p n cq, .func (.func 13) #[] #[.pointer (some ⟨lb, 0, none⟩), .pointer (some ⟨db, 0, none⟩)]] w fun e w' =>
      (∀ d, runS c (dev0 c) s = some d → e = .returned (.int .i64 0) ∧ E (d.mv + 1) d w') ∧ (runS c (dev0 c) s = none → e = .returned (.int .i64 9) ∧ ∃ k d, E k d w') := by
  have hl : s.length = n := by have := (HU _ _ _ h0).len; rwa [asI_len] at this
  have hT0 := Lib.hid (HT 0 (dev0 c) w (by omega) h0)
  replace HT := Lib.hid HT; replace HP := Lib.hid HP; replace HD := Lib.hid HD; replace HU := Lib.hid HU; replace hs := Lib.hid hs; replace hl := Lib.hid hl
  have hR0 : Hid (∀ R, R = runS c (dev0 c) s → runS c (dev0 c) s = R) := Lib.hid fun R h => h.symm
  obtain ⟨R, hR⟩ : ∃ R, runS c (dev0 c) s = R := ⟨_, rfl⟩
  rw [hR]
  clear hR0 h0
  replace hR := Lib.hid hR
  go_enter Tryd.func11, Tryd.ntmps11
  go_wp2_with fail
  refine hT0.out.mono ?_
  rintro e w1 ⟨rfl, hE1⟩
  replace hE1 := Lib.hid hE1
  clear hT0
  go_wp2_with fail
  go_loopg [13] n (fun k iv W => ∃ (j : Nat) (d : Dv), j ≤ n ∧ k = n - j ∧ iv = .int .i64 j ∧ Good c j d ∧ runS c d (s.drop j) = R ∧ E (d.mv + 1) d W)
  case atStart => exact ⟨0, dev0 c, Nat.zero_le _, by omega, rfl, Good.start c, hR.out, hE1.out⟩
  case round =>
    obtain ⟨j, d, hj, hk, rfl, hG, hrun, hE⟩ := hrel
    obtain ⟨W1, rfl⟩ : ∃ W1 : World, W1 = wr := ⟨_, rfl⟩
    replace hk := Lib.hid hk
    clear hE1
    by_cases hlt : j < n
    · obtain ⟨b, o, rfl, hbk, hc⟩ := (HU.out _ _ _ hE).at (by omega)
      have hcj := hc j hlt
      rw [asI_at] at hcj
      clear hc
      have hdr := drop_at s j (by have := hl.out; omega)
      rw [hdr] at hrun
      unfold runS at hrun
      have hu := hs.out j
      have hD := HD.out _ _ _ hE
      have c7 : W1.cell? ⟨g, 7, none⟩ = some (.int .i64 d.fl) := by rw [hD.cell]; rfl
      have hf0 := hG.fl0
      by_cases hf : 0 ≤ d.fl
      · rw [if_pos hf] at hrun
        replace hrun := Lib.hid hrun; replace hE := Lib.hid hE; replace hG := Lib.hid hG; replace hD := Lib.hid hD; replace hdr := Lib.hid hdr
        generalize st s j = u at *
        generalize d.fl = f at *
        go_wp2_with fail
        go_ret
        rw [← hrun.out]
        exact ⟨fun d h => (by cases h), fun _ => ⟨rfl, _, _, hE.out⟩⟩
      · rw [if_neg hf] at hrun
        have HX := Lib.hid (press_any W1 g c d (st s j) j hG (by omega) hD h1 hb hmo hmv hu)
        have hG' := hG.step (st s j)
        have hmv' := stepS_mv c d (st s j)
        have hHP := Lib.hid (fun W' => HP.out (d.mv + 1) d (stepS c d (st s j)).1 W1 W' hE)
        obtain ⟨ok, hok⟩ : ∃ ok, (stepS c d (st s j)).2 = ok := ⟨_, rfl⟩
        rw [hok] at HX hmv'
        obtain ⟨d', hd'⟩ : ∃ d', (stepS c d (st s j)).1 = d' := ⟨_, rfl⟩
        rw [hd'] at HX hmv' hHP hG' hrun
        have hmle := hG.mv
        replace hrun := Lib.hid hrun; replace hE := Lib.hid hE; replace hG := Lib.hid hG; replace hD := Lib.hid hD; replace hdr := Lib.hid hdr; replace hG' := Lib.hid hG'; replace hok := Lib.hid hok; replace hd' := Lib.hid hd'
        generalize st s j = u at *
        generalize d.fl = f at *
        cases ok with
        | true =>
          have hmv2 : d'.mv = d.mv + 1 := by simpa using hmv'
          clear hmv'
          replace hmv2 := Lib.hid hmv2
          go_wp2_with fail
          refine HX.out.mono ?_
          rintro e W2 ⟨rfl, hD2, hO2⟩
          have HT2 := Lib.hid (HT.out _ _ _ (by omega) (hHP.out W2 hD2 hO2))
          clear HX c7 hcj
          replace hD2 := Lib.hid hD2; replace hO2 := Lib.hid hO2
          go_wp2_with fail
          refine HT2.out.mono ?_
          rintro e W3 ⟨rfl, hE3⟩
          replace hE3 := Lib.hid hE3
          go_wp2_with fail
          have hk := hk.out
          go_roundg (n - (j + 1))
          case measure => omega
          case rel => exact ⟨j + 1, d', by omega, rfl, by go_num, hG'.out, hrun.out, by rw [hmv2.out]; exact hE3.out⟩
        | false =>
          have hmv2 : d'.mv = d.mv := by simpa using hmv'
          clear hmv'
          replace hmv2 := Lib.hid hmv2
          go_wp2_with fail
          refine HX.out.mono ?_
          rintro e W2 ⟨rfl, hD2, hO2⟩
          have hE3 := Lib.hid (hHP.out W2 hD2 hO2)
          clear HX c7 hcj
          replace hD2 := Lib.hid hD2; replace hO2 := Lib.hid hO2
          go_wp2_with fail
          have hk := hk.out
          go_roundg (n - (j + 1))
          case measure => omega
          case rel => exact ⟨j + 1, d', by omega, rfl, by go_num, hG'.out, hrun.out, by rw [hmv2.out]; exact hE3.out⟩
    · obtain rfl : n = j := by omega
      have hd0 : s.drop n = [] := List.drop_eq_nil_of_le (by have := hl.out; omega)
      rw [hd0] at hrun
      unfold runS at hrun
      replace hrun := Lib.hid hrun; replace hE := Lib.hid hE; replace hG := Lib.hid hG; replace hd0 := Lib.hid hd0
      go_wp2_with fail
      go_ret
      rw [← hrun.out]
      exact ⟨fun d2 h => (by cases h; exact ⟨rfl, hE.out⟩), fun h => (by cases h)⟩
end Go.Proofs.YtlmgfikjkflffaaDoor
