/- What seen.add computes: a board is written down, and how often it has been seen; conditions: boards of n <= 100 places, signs 0 to 2, at most 300 of them seen. -/
import Derived.Test.YtefjliblaeadfaaKey
namespace Go.Proofs.Ytefjliblaeadfaa
open Go.RowKit Go.Maps

theorem run_mkB (n : Nat) (hn : n ≤ 1000) (w : World) : (Instr.makeSlice 63 (.int .i64 (n : Int)) (.int .i64 (n : Int))).run Try.prog w = .ok (.slice (some ⟨w.heap.size, 0, none⟩) n n) (w.alloc (.cells (Array.replicate n (.int .u8 0)) 5)) := by
  rw [run_mkK .u8 1 Try.underlying63 (by kernel_rfl) (by omega) .i64 .i64 n n n rfl rfl (by omega) w]; simp
set_option maxHeartbeats 4000000 in
set_option maxRecDepth 100000 in
theorem add_any (a b n c mb : Nat) (q : Option Addr) (s : List Nat) (ks : List (List Nat)) (w : World) (hn : n ≤ 100) (hx : IntsIn w q n (asI s)) (hs : ∀ j, st s j ≤ 2) (hk : SeenM n w mb ks) (hkl : ks.length ≤ 300) :
    Calls Try.prog 17 #[.map (some mb), .agg #[.int .i64 (a : Int), .int .i64 (b : Int), .slice q n c]] w fun e w' =>
      e = .returned (.int .i64 (if s ∈ ks then 2 else 1)) ∧ (s ∉ ks → SeenM n w' mb (s :: ks)) ∧ w.grownBy w' (some mb) := by
  have hsl : s.length = n := by have := hx.len; rwa [asI_len] at this
  have hbd : Hid (Bd n s) := ⟨hsl, hs⟩
  have hky := Lib.hid (bhkey hn hbd.out)
  have e0 := heap_alloc_new w (.cells #[.int .i64 (a : Int), .int .i64 (b : Int), .slice q n c] 24)
  have hB0 : Below w.heap.size w (w.alloc (.cells #[.int .i64 (a : Int), .int .i64 (b : Int), .slice q n c] 24)) := (Below.refl _ _).alloc (Nat.le_refl _) _
  have hmk := run_mkB n (by omega) (w.alloc (.cells #[.int .i64 (a : Int), .int .i64 (b : Int), .slice q n c] 24))
  obtain ⟨f0, f1⟩ := heap2 w (.cells #[.int .i64 (a : Int), .int .i64 (b : Int), .slice q n c] 24) (.cells (Array.replicate n (.int .u8 0)) 5)
  have hB1 := hB0.alloc hB0.size (.cells (Array.replicate n (.int .u8 0)) 5)
  rw [World.size_alloc] at hmk
  have hmb := hk.lt
  have hk1 := hk.below hB1
  have hx1 := hx.below hB1
  replace e0 := Lib.hid e0; replace hB0 := Lib.hid hB0; replace hB1 := Lib.hid hB1; replace f0 := Lib.hid f0; replace f1 := Lib.hid f1; replace hsl := Lib.hid hsl; replace hs := Lib.hid hs; replace hk := Lib.hid hk; replace hk1 := Lib.hid hk1; replace hx := Lib.hid hx; replace hx1 := Lib.hid hx1
  go_enter Try.func17, Try.ntmps17
  go_upto_region 2 with fail
  generalize (w.alloc (.cells #[.int .i64 (a : Int), .int .i64 (b : Int), .slice q n c] 24)).alloc (.cells (Array.replicate n (.int .u8 0)) 5) = W1 at *
  clear hmk
  have hN1 : Hid (NumsK .u8 W1 (w.heap.size + 1) 5 (bysK s 0)) := by show NumsK _ _ _ _ _; rw [bysK_zero, hsl.out]; unfold NumsK; rw [f1.out]; simp
  have d2 : W1.cell? ⟨w.heap.size, 2, none⟩ = some (.slice q n c) := wcell (cs := [_, _, _]) f0.out 2
  go_wp2_with fail
  clear d2
  go_loopg [15] n (fun gk iv W' => ∃ k : Nat, k ≤ n ∧ gk = n - k ∧ iv = .int .i64 k ∧ NumsK .u8 W' (w.heap.size + 1) 5 (bysK s k) ∧ Below w.heap.size w W')
  case atStart => exact ⟨0, Nat.zero_le _, rfl, rfl, hN1.out, hB1.out⟩
  case round =>
    obtain ⟨k, hkn, hgk, rfl, hNk, hBk⟩ := hrel
    obtain ⟨W2, rfl⟩ : ∃ W2 : World, W2 = wr := ⟨_, rfl⟩
    replace hgk := Lib.hid hgk
    clear hN1
    by_cases hlt : k < n
    · obtain ⟨bq, oq, rfl, hbq, hcq⟩ := (hx.out.below hBk).at (by omega)
      have dk := hcq k hlt
      rw [asI_at] at dk
      have hst2 := hs.out k
      have dN := hNk.cell (i := k) (by rw [bysK_len _ (by rw [hsl.out]; omega), hsl.out]; exact hlt)
      have dF := hNk.free k
      have hset : Hid (NumsK .u8 (W2.setCell ⟨w.heap.size + 1, k, none⟩ (.int .u8 (48 + (st s k : Int)))) (w.heap.size + 1) 5 (bysK s (k + 1))) := by
        show NumsK _ _ _ _ _
        rw [← bysK_set s (by rw [hsl.out]; exact hlt)]; exact hNk.set k _
      have hB3 : Hid (Below w.heap.size w (W2.setCell ⟨w.heap.size + 1, k, none⟩ (.int .u8 (48 + (st s k : Int))))) := hBk.setCell (p := ⟨w.heap.size + 1, k, none⟩) (by simp) _
      have hwr : IntKind.u8.wrap (48 + (st s k : Int)) = 48 + (st s k : Int) := by
        generalize st s k = v at *
        unfold IntKind.wrap; simp [IntKind.bits, IntKind.signed]; omega
      replace hNk := Lib.hid hNk; replace hBk := Lib.hid hBk
      clear hcq
      go_wp2_with fail
      have hgk := hgk.out
      go_roundg (n - (k + 1))
      case measure => omega
      case rel => exact ⟨k + 1, hlt, rfl, by go_num, by first | exact hset.out | (rw [hwr]; exact hset.out), by first | exact hB3.out | (rw [hwr]; exact hB3.out)⟩
    · have hke : k = n := by omega
      subst hke
      have hk2 := Lib.hid (hk.out.below hBk)
      rw [show bysK s k = bys s by rw [← hsl.out]; exact bysK_all s] at hNk
      have hbl : (bys s).length = k := by unfold bys; rw [List.length_map]; exact hsl.out
      have hcv := fun W' : World => fun h : W'.heap[w.heap.size + 1]? = W2.heap[w.heap.size + 1]? => run_convert_bytes_arg (P := Try.prog) W' 63 5 Try.underlying63 (by kernel_rfl) (w.heap.size + 1) 0 k k (bys s) hbl (fun i hi => by
        have hN' : NumsK .u8 W' (w.heap.size + 1) 5 (bys s) := h.trans hNk
        rw [Nat.zero_add, hN'.cell (i := i) (by omega)]; rfl) 9 (by kernel_rfl)
      have hcv1 := hcv W2 rfl
      replace hNk := Lib.hid hNk; replace hcv := Lib.hid hcv
      have hne : Hid (w.heap.size + 1 ≠ mb) := by show _ ≠ _; omega
      have hkk : ¬ (k : Int) < (k : Int) := by omega
      obtain ⟨D, hD⟩ := hk2.out
      have hat := Seen.at hD hbd.out
      have hown := Lib.hid hD.1
      have hD := Lib.hid hD
      have hgw := Lib.hid (grown_below hBk (some mb))
      have hNl := Lib.hid hNk.out.lt
      obtain ⟨y, hy⟩ : ∃ y : Int, y = if s ∈ ks then 1 else 0 := ⟨_, rfl⟩
      have hy2 : y = 0 ∨ y = 1 := by rw [hy]; split <;> simp
      rw [← hy] at hat
      replace hat := Lib.hid hat; replace hy := Lib.hid hy; replace hBk := Lib.hid hBk
      have hw1 : (Lit.int IntKind.i64 1).wf = true := by decide
      have hw2 : (Lit.int IntKind.i64 2).wf = true := by decide
      have hsz := Lib.hid hown.out.size_le
      have hnb := fun (w5 : World) (hg : W2.grownBy w5 (some mb)) => hcv.out w5 (hg.block _ hNl.out (by intro e; injection e with e; exact hne.out e))
      replace hnb := Lib.hid hnb
      have hkc := klaw.key hky.out
      replace hkc := Lib.hid hkc
      rcases hy2 with rfl | rfl
      · have hnm : Hid (s ∉ ks) := fun h => by have := hy.out; rw [if_pos h] at this; cases this
        have hput := Lib.hid (fun (w' : World) (h' : w'.ownsMap Try.prog 9 (plainElem Try.prog 3) mb (ks.length + 1) (D.put (bkey s) (.lit (.int .i64 1)))) => Seen.put hn hD.out hbd.out hnm.out h')
        have hat2 := Lib.hid (atKey_put_same (hown.out.tidy klaw).isMap hkc.out (.lit (.int .i64 1)) (.lit (.int .i64 0)))
        go_wp2_with (first
          | (at_lookup; refine wpList_lookup_own_int _ rfl _ _ 45 rfl 9 3 .i64 klaw under45 under3 (zero3 _) mb _ D rfl hown.out _ _ rfl hky.out ?_; intro v hv hwc; have hvy : v = 0 := (by have := hv.symm.trans hat.out; simpa using this); subst hvy; clear hv hwc)
          | (at_mapUpdate; refine wpList_mapUpdate_own _ rfl _ _ _ 45 rfl 9 3 klaw under45 _ mb _ D rfl hown.out (by unfold maxLen; omega) _ _ _ rfl rfl hky.out _ [] (plainElem_int under3 hw1) ?_; intro w5 hown5 hg5; have hcv5 := hnb.out w5 hg5; have hput5 := Lib.hid (hput.out w5 hown5); have hg6 := Lib.hid (grown_trans hgw.out hg5); replace hown5 := Lib.hid hown5; clear hg5)
          | (at_lookup; refine wpList_lookup_own_int _ rfl _ _ 45 rfl 9 3 .i64 klaw under45 under3 (zero3 _) mb _ _ rfl hown5.out _ _ rfl hky.out ?_; intro v2 hv2 hwc2; have hvy : v2 = 1 := (by have := hv2.symm.trans hat2.out; simpa using this); subst hvy; clear hv2 hwc2))
        go_ret
        exact ⟨rfl, hput5.out, hg6.out⟩
      · have hnm : Hid (s ∈ ks) := by
          show s ∈ ks
          have := hy.out
          by_cases h : s ∈ ks
          · exact h
          · rw [if_neg h] at this; cases this
        have hat2 := Lib.hid (atKey_put_same (hown.out.tidy klaw).isMap hkc.out (.lit (.int .i64 2)) (.lit (.int .i64 0)))
        go_wp2_with (first
          | (at_lookup; refine wpList_lookup_own_int _ rfl _ _ 45 rfl 9 3 .i64 klaw under45 under3 (zero3 _) mb _ D rfl hown.out _ _ rfl hky.out ?_; intro v hv hwc; have hvy : v = 1 := (by have := hv.symm.trans hat.out; simpa using this); subst hvy; clear hv hwc)
          | (at_mapUpdate; refine wpList_mapUpdate_own _ rfl _ _ _ 45 rfl 9 3 klaw under45 _ mb _ D rfl hown.out (by unfold maxLen; omega) _ _ _ rfl rfl hky.out _ [] (plainElem_int under3 hw2) ?_; intro w5 hown5 hg5; have hcv5 := hnb.out w5 hg5; have hg6 := Lib.hid (grown_trans hgw.out hg5); replace hown5 := Lib.hid hown5; clear hg5)
          | (at_lookup; refine wpList_lookup_own_int _ rfl _ _ 45 rfl 9 3 .i64 klaw under45 under3 (zero3 _) mb _ _ rfl hown5.out _ _ rfl hky.out ?_; intro v2 hv2 hwc2; have hvy : v2 = 2 := (by have := hv2.symm.trans hat2.out; simpa using this); subst hvy; clear hv2 hwc2))
        go_ret
        exact ⟨rfl, hg6.out⟩
end Go.Proofs.Ytefjliblaeadfaa
