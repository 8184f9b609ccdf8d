import Derived.Test.YtcibkchfdiijfaaHxMd
import Derived.Deep.RegionLaw
/- hex's solver walks: winner and after; conditions stand in each. -/
namespace Go.Proofs.Ytcibkchfdiijfaa
open Go.RowKit Go.Maps

/-- what winner is asked, of boards with e empty places. -/
def WinAt (n N c Sb g mb B : Nat) (g0 : List Nat) (e : Nat) : Prop :=
  ∀ (t : List Nat) (p : Nat) (w : World), Bd n t → t ∈ fl g0 → opn n t = e → (p = 1 ∨ p = 2) → Sm n N c Sb g mb B (Uk N g0) w t →
    Calls Try.prog 27 #[.pointer (some ⟨Sb, 0, none⟩), .int .i64 (p : Int)] w fun e' w' => ∃ v : Nat, e' = .returned (.int .i64 (v : Int)) ∧ Vl n t p v ∧ Sm n N c Sb g mb B (Uk N g0) w' t ∧ Tw g mb w w'
/-- what after is asked, of boards that have e empty places behind the sign. -/
def AftAt (n N c Sb g mb B : Nat) (g0 : List Nat) (e : Nat) : Prop :=
  ∀ (t : List Nat) (k p : Nat) (w : World), Bd n t → t ∈ fl g0 → k < n * n → st t k = 0 → opn n t = e + 1 → (p = 1 ∨ p = 2) → Sm n N c Sb g mb B (Uk N g0) w t →
    Calls Try.prog 15 #[.pointer (some ⟨Sb, 0, none⟩), .int .i64 (k : Int), .int .i64 (p : Int)] w fun e' w' => ∃ v : Nat, e' = .returned (.int .i64 (v : Int)) ∧ Vl n (t.set k p) (3 - p) v ∧ Sm n N c Sb g mb B (Uk N g0) w' t ∧ Tw g mb w w'
section
variable {n N c Sb g mb B : Nat} {g0 : List Nat}
set_option maxHeartbeats 2000000 in
theorem after_of (hN : N = n * n) {e : Nat} (HW : WinAt n N c Sb g mb B g0 e) : AftAt n N c Sb g mb B g0 e := by
  intro t k p w hb ht hk h0 ho hp hS
  have htl : t.length = N := by rw [hb.len, hN]
  have hkN : k < N := by omega
  have ho2 : opn n (t.set k p) = e := by have := opn_set (v := p) hb.len hk h0 (by omega); omega
  have hS1 := hS.set k p
  have HC := Lib.hid (HW (t.set k p) (3 - p) _ (hb.set hk (by omega)) (fl_set ht h0 (by omega) (by omega)) ho2 (by omega) hS1)
  have e3 : ((3 - p : Nat) : Int) = 3 - (p : Int) := by omega
  rw [e3] at HC
  have hT1 := Lib.hid (Tw.set g mb w k (.int .i64 (p : Int)))
  have d2 := wcell (cs := [_, _, _, _]) hS.sb 2
  have dk := hS.row.cell hkN
  have fk := hS.row.free k
  simp only [List.getElem?_cons_zero, List.getElem?_cons_succ] at d2
  have hw3 : IntKind.i64.wrap (3 - (p : Int)) = 3 - (p : Int) := IntWalk.i64_in _ (by omega)
  have hback : Hid ((t.set k p).set k 0 = t) := by
    show _ = _
    rw [List.set_set]
    apply List.ext_getElem?
    intro i
    rw [List.getElem?_set]
    split
    · rename_i h; subst h
      rw [if_pos (by omega)]
      unfold st at h0
      rw [List.getElem?_eq_getElem (by omega)] at h0 ⊢
      simp at h0; rw [h0]
    · rfl
  have hb4 : ∀ w2, Sm n N c Sb g mb B (Uk N g0) w2 (t.set k p) → Sm n N c Sb g mb B (Uk N g0) (w2.setCell ⟨g, k, none⟩ (.int .i64 0)) t := fun w2 h => by
    have := h.set k 0
    rw [hback.out] at this
    exact this
  replace hS := Lib.hid hS; replace hS1 := Lib.hid hS1; replace hb4 := Lib.hid hb4; replace ho := Lib.hid ho; replace ho2 := Lib.hid ho2; replace h0 := Lib.hid h0; replace htl := Lib.hid htl; replace hN := Lib.hid hN
  go_enter Try.func15, Try.ntmps15
  go_wp2_with (go_at_call 27; (with_reducible refine HC.out.mono ?_); rintro e' w2 ⟨v, rfl, hv, hS2, hT2⟩; have d2' := wcell (cs := [_, _, _, _]) hS2.sb 2; have dk' := hS2.row.cell hkN; have fk' := hS2.row.free k; simp only [List.getElem?_cons_zero, List.getElem?_cons_succ] at d2'; have hS3 := hb4.out _ hS2; have hT3 := hT1.out.trans (hT2.trans (Tw.set g mb w2 k (.int .i64 0))); replace hS3 := Lib.hid hS3; replace hT3 := Lib.hid hT3; replace hS2 := Lib.hid hS2; replace hT2 := Lib.hid hT2; replace hv := Lib.hid hv)
  go_ret
  exact ⟨v, rfl, hv.out, hS3.out, hT3.out⟩
theorem vl_join {t : List Nat} {p j : Nat} (hj : JoinI n t j) (h0 : j ≠ 0) : Vl n t p j := by
  have hw : ∀ w e, JW n w (fun a => st t a = w) → Wn n w e t p := fun w e h => by
    cases e with
    | zero => exact h
    | succ e => exact .inl h
  rcases hj with ⟨rfl, h⟩ | ⟨rfl, _, h⟩ | ⟨rfl, _⟩
  · exact ⟨.inl rfl, hw 1 _ h⟩
  · exact ⟨.inr rfl, hw 2 _ h⟩
  · exact absurd rfl h0
theorem not_join {t : List Nat} (hj : JoinI n t 0) : ∀ w, w = 1 ∨ w = 2 → ¬ JW n w (fun a => st t a = w) := by
  rcases hj with ⟨h, _⟩ | ⟨h, _⟩ | ⟨_, h1, h2⟩
  · cases h
  · cases h
  · rintro w (rfl | rfl)
    · exact h1
    · exact h2
/-- a move that wins. -/
theorem vl_win {t : List Nat} {p k v : Nat} (hb : Bd n t) (hp : p = 1 ∨ p = 2) (hj : JoinI n t 0) (hk : k < n * n) (h0 : st t k = 0) (hv : Vl n (t.set k p) (3 - p) v) (hvp : v = p) : Vl n t p p := by
  subst hvp
  have ho := opn_set (v := v) hb.len hk h0 (by omega)
  refine ⟨hp, ?_⟩
  rw [ho]
  exact .inr ⟨not_join hj (3 - v) (by omega), .inl ⟨rfl, k, hk, h0, hv.2⟩⟩
/-- no move wins. -/
theorem vl_lose {t : List Nat} {p : Nat} (hb : Bd n t) (hp : p = 1 ∨ p = 2) (hj : JoinI n t 0) (h : ∀ k, k < n * n → st t k = 0 → ∃ v, Vl n (t.set k p) (3 - p) v ∧ v ≠ p) : Vl n t p (3 - p) := by
  have hq : 3 - p = 1 ∨ 3 - p = 2 := by omega
  refine ⟨hq, ?_⟩
  have h33 : 3 - (3 - p) = p := by omega
  cases ho : opn n t with
  | zero =>
    have := jw_full hb hp ho (not_join hj p hp)
    exact absurd this (not_join hj (3 - p) hq)
  | succ e =>
    refine .inr ⟨by rw [h33]; exact not_join hj p hp, .inr ⟨by omega, fun k hk h0 => ?_⟩⟩
    obtain ⟨v, hv, hne⟩ := h k hk h0
    have hv' : v = 3 - p := by have := hv.1; omega
    have ho2 := opn_set (v := p) hb.len hk h0 (by omega)
    rw [h33]
    have := hv.2
    rw [hv', show opn n (t.set k p) = e by omega] at this
    exact this
set_option maxRecDepth 20000 in
set_option maxHeartbeats 4000000 in
theorem win_of (hN : N = n * n) (hn : n ≤ 10) (hz : g0.countP (· == 0) ≤ 9) {e : Nat} (HA : ∀ e', e = e' + 1 → AftAt n N c Sb g mb B g0 e') : WinAt n N c Sb g mb B g0 e := by
  intro t p w hb ht ho hp hS
  have hN100 : N ≤ 100 := by rw [hN]; exact Nat.mul_le_mul hn hn
  have hN1 : 1 ≤ N := by rw [hN]; exact Nat.mul_le_mul hb.n1 hb.n1
  have htl : t.length = N := by rw [hb.len, hN]
  have HJ := Lib.hid (joined_any n (some ⟨g, 0, none⟩) c t w hb.n1 hn hb.len (by rw [← hN]; exact hS.row.in) hb.le)
  rw [← hN] at HJ
  have hw3 : IntKind.i64.wrap (3 - (p : Int)) = 3 - (p : Int) := IntWalk.i64_in _ (by omega)
  have d0 := wcell (cs := [_, _, _, _]) hS.sb 0
  have d1 := wcell (cs := [_, _, _, _]) hS.sb 1
  have d2 := wcell (cs := [_, _, _, _]) hS.sb 2
  simp only [List.getElem?_cons_zero, List.getElem?_cons_succ] at d0 d1 d2
  replace hb := Lib.hid hb; replace ht := Lib.hid ht; replace ho := Lib.hid ho; replace hS := Lib.hid hS; replace hN := Lib.hid hN; replace htl := Lib.hid htl; replace HA := Lib.hid HA; replace hz := Lib.hid hz
  go_enter Try.func27, Try.ntmps27
  go_upto_region 2 with (go_at_call 14; (with_reducible refine HJ.out.mono ?_); rintro e' w2 ⟨j, q, l, cc, rfl, hJ, _, _, hB2⟩; replace hJ := Lib.hid hJ; replace hB2 := Lib.hid hB2)
  by_cases hj0 : j = 0
  · subst hj0
    have hS2 := hS.out.below hB2.out
    have HK := Lib.hid (key_any n N Sb g c mb p t w2 hN100 htl.out hb.out.le hS2.sb hS2.row.in hN1)
    have hSl := lt_of_heap hS2.sb
    replace hS2 := Lib.hid hS2
    clear d0 d1 d2
    go_upto_region 5 with (go_at_call 34; (with_reducible refine HK.out.mono ?_); rintro e' w3 ⟨rfl, hB3⟩; replace hB3 := Lib.hid hB3)
    have hS4 := hS2.out.below (hB3.out.trans ((Below.refl w3.heap.size w3).alloc (Nat.le_refl _) (.cells #[.int .u64 (mskU 1 t N : Nat), .int .u64 (mskU 2 t N : Nat), .int .i64 (p : Int)] 67) |>.mono hB3.out.size))
    have hT4 : Tw g mb w (w3.alloc (.cells #[.int .u64 (mskU 1 t N : Nat), .int .u64 (mskU 2 t N : Nat), .int .i64 (p : Int)] 67)) := ((Tw.below hB2.out).trans (Tw.below hB3.out)).trans (Tw.below ((Below.refl w3.heap.size w3).alloc (Nat.le_refl _) _))
    have hbx4 := heap_alloc_new w3 (.cells #[.int .u64 (mskU 1 t N : Nat), .int .u64 (mskU 2 t N : Nat), .int .i64 (p : Int)] 67)
    obtain ⟨W4, hW4⟩ : ∃ W4 : World, W4 = w3.alloc (.cells #[.int .u64 (mskU 1 t N : Nat), .int .u64 (mskU 2 t N : Nat), .int .i64 (p : Int)] 67) := ⟨_, rfl⟩
    obtain ⟨kb, hkb⟩ : ∃ kb, kb = w3.heap.size := ⟨_, rfl⟩
    rw [← hW4] at hS4 hT4 hbx4 ⊢
    rw [← hkb] at hbx4 ⊢
    have hgl3 : g < w3.heap.size := Nat.lt_of_lt_of_le (hS2.out.row.block _ rfl).2 hB3.out.size
    have hml3 : mb < w3.heap.size := Nat.lt_of_lt_of_le hS2.out.map.lt hB3.out.size
    have hkg : Hid (kb ≠ g) := by show _ ≠ _; omega
    have hkm : Hid (kb ≠ mb) := by show _ ≠ _; omega
    replace hW4 := Lib.hid hW4; replace hkb := Lib.hid hkb
    have q2 := wcell (cs := [_, _, _, _]) hS4.sb 2
    have q3 := wcell (cs := [_, _, _, _]) hS4.sb 3
    have r0 := wcell (cs := [_, _, _]) hbx4 0
    have r1 := wcell (cs := [_, _, _]) hbx4 1
    have r2 := wcell (cs := [_, _, _]) hbx4 2
    simp only [List.getElem?_cons_zero, List.getElem?_cons_succ] at q2 q3 r0 r1 r2
    obtain ⟨z, zv, hzv, hlook⟩ := ok_look hS4.map (kyS_st N t hp)
    unfold kyS at hlook
    replace hS4 := Lib.hid hS4; replace hT4 := Lib.hid hT4; replace hbx4 := Lib.hid hbx4; replace hzv := Lib.hid hzv
    clear HK HJ
    by_cases h64 : N ≤ 64
    · have e64 : decide ((N : Int) ≤ 64) = true := decide_eq_true (by omega)
      cases z with
      | true =>
        have hvl : Hid (Vl n t p zv) := ((hzv.out rfl).2 (by rw [← hN.out]; exact h64) t hb.out (by rw [← hN.out]; rfl))
        go_wp2_with fail
        go_quiet (fail)
        go_wp2_with fail
        go_ret
        exact ⟨zv, rfl, hvl.out, hS4.out.below (below_drewN (Below.refl _ _) _), hT4.out.trans (Tw.below (below_drewN (Below.refl _ _) _))⟩
      | false =>
        go_wp2_with fail
        go_quiet (fail)
        obtain ⟨W5, hW5⟩ : ∃ W5 : World, W5 = W4.drewN nq := ⟨_, rfl⟩
        have hS5 : Hid (Sm n N c Sb g mb B (Uk N g0) W5 t) := by rw [hW5]; exact hS4.out.below (below_drewN (Below.refl _ _) _)
        have hT5 : Hid (Tw g mb w W5) := by rw [hW5]; exact hT4.out.trans (Tw.below (below_drewN (Below.refl _ _) _))
        have hbx : Hid (W5.heap[kb]? = some (.cells #[.int .u64 (mskU 1 t N : Nat), .int .u64 (mskU 2 t N : Nat), .int .i64 (p : Int)] 67 (0, 0))) := by rw [hW5]; exact hbx4.out
        rw [← hW5]
        replace hW5 := Lib.hid hW5
        clear q2 q3 r0 r1 r2 hlook
        have c2 := wcell (cs := [_, _, _, _]) hS5.out.sb 2
        simp only [List.getElem?_cons_zero, List.getElem?_cons_succ] at c2
        go_wp2_with fail
        go_loopg [53, 10] N (fun gk iv rv W => ∃ k : Nat, k ≤ N ∧ gk = N - k ∧ iv = .int .i64 (k : Int) ∧ rv = .int .i64 (3 - (p : Int)) ∧ Hid (Sm n N c Sb g mb B (Uk N g0) W t) ∧ Hid (Tw g mb W5 W) ∧ Hid (∀ i, i < k → st t i = 0 → ∃ v, Vl n (t.set i p) (3 - p) v ∧ v ≠ p))
        case atStart => exact ⟨0, Nat.zero_le _, rfl, rfl, rfl, hS5, Tw.refl _ _ _, fun i h => absurd h (Nat.not_lt_zero i)⟩
        case round =>
          clear c2
          obtain ⟨k, hk, hgk, rfl, rfl, hSk, hTk, hno⟩ := hrel
          obtain ⟨W6, rfl⟩ : ∃ W6 : World, W6 = wr := ⟨_, rfl⟩
          replace hgk := Lib.hid hgk
          have hbx6 : Hid (W6.heap[kb]? = some (.cells #[.int .u64 (mskU 1 t N : Nat), .int .u64 (mskU 2 t N : Nat), .int .i64 (p : Int)] 67 (0, 0))) := (hTk.out.block kb (lt_of_heap hbx.out) hkg.out hkm.out).trans hbx.out
          by_cases hlt : k < N
          · have ck := hSk.out.row.cell hlt
            rw [asI_at] at ck
            have hxk := hb.out.le k
            have hkn : k < n * n := by rw [← hN.out]; exact hlt
            obtain ⟨x, hx⟩ : ∃ x, x = st t k := ⟨_, rfl⟩
            rw [← hx] at ck hxk
            by_cases hx0 : x = 0
            · have e0 : ((x : Int) == 0) = true := by simp; omega
              have h0 : st t k = 0 := hx.symm.trans hx0
              have hop := opn_set (v := p) hb.out.len hkn h0 (by omega)
              have HC := Lib.hid (HA.out (opn n (t.set k p)) (by rw [← ho.out]; exact hop) t k p W6 hb.out ht.out hkn h0 hop hp hSk.out)
              replace hx := Lib.hid hx; replace hx0 := Lib.hid hx0; replace hop := Lib.hid hop
              go_upto_region 13 with fail
              go_wp2_with fail
              refine HC.out.mono ?_
              rintro e' W7 ⟨v, rfl, hv, hS7, hT7⟩
              have hbx7 : W7.heap[kb]? = some (.cells #[.int .u64 (mskU 1 t N : Nat), .int .u64 (mskU 2 t N : Nat), .int .i64 (p : Int)] 67 (0, 0)) := (hT7.block kb (lt_of_heap hbx6.out) hkg.out hkm.out).trans hbx6.out
              clear HC
              by_cases hvp : v = p
              · have evp : ((v : Int) == (p : Int)) = true := by rw [hvp]; simp
                have hvl : Hid (Vl n t p p) := vl_win hb.out hp hJ.out hkn h0 hv hvp
                replace h0 := Lib.hid h0; replace hvp := Lib.hid hvp; replace hv := Lib.hid hv
                have hVk := Vk_of hb.out hvl.out
                have hSx := hS7
                have hTx := hT5.out.trans (hTk.out.trans hT7)
                have hbx5 := hbx7
                obtain ⟨W9, hrun, hok9, hg9⟩ := ok_put hSx.map (Uk_len N hz.out) (kyS_st N t hp) (Uk_mem ht.out hp) (by rw [hN.out]; exact hVk)
                unfold kyS at hrun
                have q3 := wcell (cs := [_, _, _, _]) hSx.sb 3
                have r0 := wcell (cs := [_, _, _]) hbx5 0
                have r1 := wcell (cs := [_, _, _]) hbx5 1
                have r2 := wcell (cs := [_, _, _]) hbx5 2
                have hS9 := hSx.put hg9 hok9
                have hT9 := hTx.trans (Tw.grown hg9)
                simp only [List.getElem?_cons_zero, List.getElem?_cons_succ] at q3 r0 r1 r2
                replace hVk := Lib.hid hVk; replace hSx := Lib.hid hSx; replace hTx := Lib.hid hTx; replace hbx5 := Lib.hid hbx5; replace hok9 := Lib.hid hok9; replace hg9 := Lib.hid hg9; replace hS9 := Lib.hid hS9; replace hT9 := Lib.hid hT9
                go_wp2_with fail
                go_region_law (fail)
                all_goals
                  go_wp2_with fail
                  go_ret
                  exact ⟨p, rfl, hvl.out, hS9.out, hT9.out⟩
              · have evp : ((v : Int) == (p : Int)) = false := by simp; omega
                have hno2 : Hid (∀ i, i < k + 1 → st t i = 0 → ∃ v, Vl n (t.set i p) (3 - p) v ∧ v ≠ p) := fun i hi h0 => by
                  rcases (show i < k ∨ i = k by omega) with h | h
                  · exact hno.out i h h0
                  · rw [h]; exact ⟨v, hv, hvp⟩
                replace h0 := Lib.hid h0; replace hvp := Lib.hid hvp; replace hv := Lib.hid hv; replace hS7 := Lib.hid hS7; replace hT7 := Lib.hid hT7; replace hbx7 := Lib.hid hbx7
                go_wp2_with fail
                have hgk := hgk.out
                go_roundg (N - (k + 1))
                case measure => omega
                case rel => exact ⟨k + 1, by omega, rfl, by go_num, rfl, hS7, hTk.out.trans hT7.out, hno2⟩
            · have e0 : ((x : Int) == 0) = false := by simp; omega
              have hno2 : Hid (∀ i, i < k + 1 → st t i = 0 → ∃ v, Vl n (t.set i p) (3 - p) v ∧ v ≠ p) := fun i hi h0 => by
                rcases (show i < k ∨ i = k by omega) with h | h
                · exact hno.out i h h0
                · rw [h, ← hx] at h0; exact absurd h0 hx0
              replace hx := Lib.hid hx; replace hx0 := Lib.hid hx0
              go_wp2_with fail
              have hgk := hgk.out
              go_roundg (N - (k + 1))
              case measure => omega
              case rel => exact ⟨k + 1, by omega, rfl, by go_num, rfl, hSk, hTk, hno2⟩
          · obtain rfl : N = k := by omega
            have hvl : Hid (Vl n t p (3 - p)) := vl_lose hb.out hp hJ.out fun i hi h0 => hno.out i (by rw [hN.out]; exact hi) h0
            have e3 : ((3 - p : Nat) : Int) = 3 - (p : Int) := by omega
            have hVk := Vk_of hb.out hvl.out
            have hSx := hSk.out
            have hTx := hT5.out.trans hTk.out
            have hbx5 := hbx6.out
            obtain ⟨W9, hrun, hok9, hg9⟩ := ok_put hSx.map (Uk_len N hz.out) (kyS_st N t hp) (Uk_mem ht.out hp) (by rw [hN.out]; exact hVk)
            unfold kyS at hrun
            have q3 := wcell (cs := [_, _, _, _]) hSx.sb 3
            have r0 := wcell (cs := [_, _, _]) hbx5 0
            have r1 := wcell (cs := [_, _, _]) hbx5 1
            have r2 := wcell (cs := [_, _, _]) hbx5 2
            have hS9 := hSx.put hg9 hok9
            have hT9 := hTx.trans (Tw.grown hg9)
            simp only [List.getElem?_cons_zero, List.getElem?_cons_succ] at q3 r0 r1 r2
            replace hVk := Lib.hid hVk; replace hSx := Lib.hid hSx; replace hTx := Lib.hid hTx; replace hbx5 := Lib.hid hbx5; replace hok9 := Lib.hid hok9; replace hg9 := Lib.hid hg9; replace hS9 := Lib.hid hS9; replace hT9 := Lib.hid hT9
            rw [e3] at hrun
            go_wp2_with fail
            go_region_law (fail)
            all_goals
              go_wp2_with fail
              go_ret
              exact ⟨3 - p, by rw [e3]; rfl, hvl.out, hS9.out, hT9.out⟩
    · have e64 : decide ((N : Int) ≤ 64) = false := decide_eq_false (by omega)
      obtain ⟨W5, hW5⟩ : ∃ W5 : World, W5 = W4 := ⟨_, rfl⟩
      have hS5 : Hid (Sm n N c Sb g mb B (Uk N g0) W5 t) := by rw [hW5]; exact hS4.out
      have hT5 : Hid (Tw g mb w W5) := by rw [hW5]; exact hT4.out
      have hbx : Hid (W5.heap[kb]? = some (.cells #[.int .u64 (mskU 1 t N : Nat), .int .u64 (mskU 2 t N : Nat), .int .i64 (p : Int)] 67 (0, 0))) := by rw [hW5]; exact hbx4.out
      rw [← hW5] at q2 ⊢
      replace hW5 := Lib.hid hW5
      clear q3 r0 r1 r2 hlook
      have c2 := wcell (cs := [_, _, _, _]) hS5.out.sb 2
      simp only [List.getElem?_cons_zero, List.getElem?_cons_succ] at c2
      go_wp2_with fail
      go_loopg [53, 10] N (fun gk iv rv W => ∃ k : Nat, k ≤ N ∧ gk = N - k ∧ iv = .int .i64 (k : Int) ∧ rv = .int .i64 (3 - (p : Int)) ∧ Hid (Sm n N c Sb g mb B (Uk N g0) W t) ∧ Hid (Tw g mb W5 W) ∧ Hid (∀ i, i < k → st t i = 0 → ∃ v, Vl n (t.set i p) (3 - p) v ∧ v ≠ p))
      case atStart => exact ⟨0, Nat.zero_le _, rfl, rfl, rfl, hS5, Tw.refl _ _ _, fun i h => absurd h (Nat.not_lt_zero i)⟩
      case round =>
        clear c2
        obtain ⟨k, hk, hgk, rfl, rfl, hSk, hTk, hno⟩ := hrel
        obtain ⟨W6, rfl⟩ : ∃ W6 : World, W6 = wr := ⟨_, rfl⟩
        replace hgk := Lib.hid hgk
        have hbx6 : Hid (W6.heap[kb]? = some (.cells #[.int .u64 (mskU 1 t N : Nat), .int .u64 (mskU 2 t N : Nat), .int .i64 (p : Int)] 67 (0, 0))) := (hTk.out.block kb (lt_of_heap hbx.out) hkg.out hkm.out).trans hbx.out
        by_cases hlt : k < N
        · have ck := hSk.out.row.cell hlt
          rw [asI_at] at ck
          have hxk := hb.out.le k
          have hkn : k < n * n := by rw [← hN.out]; exact hlt
          obtain ⟨x, hx⟩ : ∃ x, x = st t k := ⟨_, rfl⟩
          rw [← hx] at ck hxk
          by_cases hx0 : x = 0
          · have e0 : ((x : Int) == 0) = true := by simp; omega
            have h0 : st t k = 0 := hx.symm.trans hx0
            have hop := opn_set (v := p) hb.out.len hkn h0 (by omega)
            have HC := Lib.hid (HA.out (opn n (t.set k p)) (by rw [← ho.out]; exact hop) t k p W6 hb.out ht.out hkn h0 hop hp hSk.out)
            replace hx := Lib.hid hx; replace hx0 := Lib.hid hx0; replace hop := Lib.hid hop
            go_upto_region 13 with fail
            go_wp2_with fail
            refine HC.out.mono ?_
            rintro e' W7 ⟨v, rfl, hv, hS7, hT7⟩
            have hbx7 : W7.heap[kb]? = some (.cells #[.int .u64 (mskU 1 t N : Nat), .int .u64 (mskU 2 t N : Nat), .int .i64 (p : Int)] 67 (0, 0)) := (hT7.block kb (lt_of_heap hbx6.out) hkg.out hkm.out).trans hbx6.out
            clear HC
            by_cases hvp : v = p
            · have evp : ((v : Int) == (p : Int)) = true := by rw [hvp]; simp
              have hvl : Hid (Vl n t p p) := vl_win hb.out hp hJ.out hkn h0 hv hvp
              replace h0 := Lib.hid h0; replace hvp := Lib.hid hvp; replace hv := Lib.hid hv
              have hVk := Vk_of hb.out hvl.out
              have hSx := hS7
              have hTx := hT5.out.trans (hTk.out.trans hT7)
              have hbx5 := hbx7
              obtain ⟨W9, hrun, hok9, hg9⟩ := ok_put hSx.map (Uk_len N hz.out) (kyS_st N t hp) (Uk_mem ht.out hp) (by rw [hN.out]; exact hVk)
              unfold kyS at hrun
              have q3 := wcell (cs := [_, _, _, _]) hSx.sb 3
              have r0 := wcell (cs := [_, _, _]) hbx5 0
              have r1 := wcell (cs := [_, _, _]) hbx5 1
              have r2 := wcell (cs := [_, _, _]) hbx5 2
              have hS9 := hSx.put hg9 hok9
              have hT9 := hTx.trans (Tw.grown hg9)
              simp only [List.getElem?_cons_zero, List.getElem?_cons_succ] at q3 r0 r1 r2
              replace hVk := Lib.hid hVk; replace hSx := Lib.hid hSx; replace hTx := Lib.hid hTx; replace hbx5 := Lib.hid hbx5; replace hok9 := Lib.hid hok9; replace hg9 := Lib.hid hg9; replace hS9 := Lib.hid hS9; replace hT9 := Lib.hid hT9
              go_wp2_with fail
              go_region_law (fail)
              all_goals
                go_wp2_with fail
                go_ret
                exact ⟨p, rfl, hvl.out, hS9.out, hT9.out⟩
            · have evp : ((v : Int) == (p : Int)) = false := by simp; omega
              have hno2 : Hid (∀ i, i < k + 1 → st t i = 0 → ∃ v, Vl n (t.set i p) (3 - p) v ∧ v ≠ p) := fun i hi h0 => by
                rcases (show i < k ∨ i = k by omega) with h | h
                · exact hno.out i h h0
                · rw [h]; exact ⟨v, hv, hvp⟩
              replace h0 := Lib.hid h0; replace hvp := Lib.hid hvp; replace hv := Lib.hid hv; replace hS7 := Lib.hid hS7; replace hT7 := Lib.hid hT7; replace hbx7 := Lib.hid hbx7
              go_wp2_with fail
              have hgk := hgk.out
              go_roundg (N - (k + 1))
              case measure => omega
              case rel => exact ⟨k + 1, by omega, rfl, by go_num, rfl, hS7, hTk.out.trans hT7.out, hno2⟩
          · have e0 : ((x : Int) == 0) = false := by simp; omega
            have hno2 : Hid (∀ i, i < k + 1 → st t i = 0 → ∃ v, Vl n (t.set i p) (3 - p) v ∧ v ≠ p) := fun i hi h0 => by
              rcases (show i < k ∨ i = k by omega) with h | h
              · exact hno.out i h h0
              · rw [h, ← hx] at h0; exact absurd h0 hx0
            replace hx := Lib.hid hx; replace hx0 := Lib.hid hx0
            go_wp2_with fail
            have hgk := hgk.out
            go_roundg (N - (k + 1))
            case measure => omega
            case rel => exact ⟨k + 1, by omega, rfl, by go_num, rfl, hSk, hTk, hno2⟩
        · obtain rfl : N = k := by omega
          have hvl : Hid (Vl n t p (3 - p)) := vl_lose hb.out hp hJ.out fun i hi h0 => hno.out i (by rw [hN.out]; exact hi) h0
          have e3 : ((3 - p : Nat) : Int) = 3 - (p : Int) := by omega
          have hVk := Vk_of hb.out hvl.out
          have hSx := hSk.out
          have hTx := hT5.out.trans hTk.out
          have hbx5 := hbx6.out
          obtain ⟨W9, hrun, hok9, hg9⟩ := ok_put hSx.map (Uk_len N hz.out) (kyS_st N t hp) (Uk_mem ht.out hp) (by rw [hN.out]; exact hVk)
          unfold kyS at hrun
          have q3 := wcell (cs := [_, _, _, _]) hSx.sb 3
          have r0 := wcell (cs := [_, _, _]) hbx5 0
          have r1 := wcell (cs := [_, _, _]) hbx5 1
          have r2 := wcell (cs := [_, _, _]) hbx5 2
          have hS9 := hSx.put hg9 hok9
          have hT9 := hTx.trans (Tw.grown hg9)
          simp only [List.getElem?_cons_zero, List.getElem?_cons_succ] at q3 r0 r1 r2
          replace hVk := Lib.hid hVk; replace hSx := Lib.hid hSx; replace hTx := Lib.hid hTx; replace hbx5 := Lib.hid hbx5; replace hok9 := Lib.hid hok9; replace hg9 := Lib.hid hg9; replace hS9 := Lib.hid hS9; replace hT9 := Lib.hid hT9
          rw [e3] at hrun
          go_wp2_with fail
          go_region_law (fail)
          all_goals
            go_wp2_with fail
            go_ret
            exact ⟨3 - p, by rw [e3]; rfl, hvl.out, hS9.out, hT9.out⟩
  · have hjp : decide ((0 : Int) < (j : Int)) = true := decide_eq_true (by omega)
    have hfin : Hid (Vl n t p j ∧ Sm n N c Sb g mb B (Uk N g0) w2 t ∧ Tw g mb w w2) := ⟨vl_join hJ.out hj0, hS.out.below hB2.out, Tw.below hB2.out⟩
    clear d0 d1 d2
    go_wp2_with fail
    go_ret
    exact ⟨j, rfl, hfin.out⟩
theorem win_all (hN : N = n * n) (hn : n ≤ 10) (hz : g0.countP (· == 0) ≤ 9) : ∀ e, WinAt n N c Sb g mb B g0 e
  | 0 => win_of hN hn hz fun e' h => absurd h (by omega)
  | e + 1 => win_of hN hn hz fun e' h => by
    obtain rfl : e' = e := by omega
    exact after_of hN (win_all hN hn hz e')
end
end Go.Proofs.Ytcibkchfdiijfaa
