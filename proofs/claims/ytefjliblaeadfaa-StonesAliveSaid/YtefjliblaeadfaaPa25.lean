/- What stones.parts computes: the parts of a board, each with what borders on it; conditions: a board of 1 to 10 by 1 to 10 places, a function that tells of each sign and changes nothing. -/
import Derived.Test.YtefjliblaeadfaaPtM
import Derived.Test.YtefjliblaeadfaaSp25
namespace Go.Proofs.Ytefjliblaeadfaa
open Go.RowKit

set_option maxHeartbeats 8000000 in
set_option maxRecDepth 100000 in
theorem parts25 (so : Nat → Bool) (kb : Nat) (a b n c : Nat) (q : Option Addr) (s : List Nat) (w : World) (ha1 : 1 ≤ a) (ha : a ≤ 10) (hnab : Hid (n = a * b)) (hn : n ≤ 100) (hx : IntsIn w q n (asI s)) (hs : ∀ j, st s j ≤ 2)
    (HF : ∀ v, v ≤ 2 → ∀ W', Below w.heap.size w W' → Calls Try.prog 25 #[.int .i64 ((v : Nat) : Int), .pointer (some ⟨kb, 0, none⟩)] W' fun e w' => e = .returned (.bool (so v)) ∧ W' = w') :
    Calls Try.prog 24 #[.agg #[.int .i64 (a : Int), .int .i64 (b : Int), .slice q n c], .func (.func 25) #[] #[.pointer (some ⟨kb, 0, none⟩)]] w fun e w' => ∃ p m c' ps bs, e = .returned (.slice p m c') ∧ m ≤ n ∧ PtsM (w.heap.size + 2) w'.heap.size w' p m c' ps bs [] ∧ PtsOf so s a (rootsN so s a n) ps ∧ Below w.heap.size w w' := by
  have hsl : s.length = n := by have := hx.len; rwa [asI_len] at this
  have e0 := heap_alloc_new w (.cells #[.int .i64 (a : Int), .int .i64 (b : Int), .slice q n c] 24)
  have hz1 := lt_of_heap e0
  have hmk := run_mkb n (by omega) (w.alloc (.cells #[.int .i64 (a : Int), .int .i64 (b : Int), .slice q n c] 24))
  rw [World.size_alloc] at hmk
  have hM0 : Hid ((((w.alloc (.cells #[.int .i64 (a : Int), .int .i64 (b : Int), .slice q n c] 24)).alloc (.cells (Array.replicate n (.bool false)) 4)).heap[w.heap.size]? = some (.cells #[.int .i64 (a : Int), .int .i64 (b : Int), .slice q n c] 24 (0, 0))) ∧ Bls ((w.alloc (.cells #[.int .i64 (a : Int), .int .i64 (b : Int), .slice q n c] 24)).alloc (.cells (Array.replicate n (.bool false)) 4)) (w.heap.size + 1) (List.replicate n false) ∧
      Below w.heap.size w ((w.alloc (.cells #[.int .i64 (a : Int), .int .i64 (b : Int), .slice q n c] 24)).alloc (.cells (Array.replicate n (.bool false)) 4))) := by
    obtain ⟨k0, k1⟩ := heap2 w (.cells #[.int .i64 (a : Int), .int .i64 (b : Int), .slice q n c] 24) (.cells (Array.replicate n (.bool false)) 4)
    exact ⟨k0, k1.trans (by simp), below2 w _ _⟩
  have HS : Hid (∀ p W', p < n → Below w.heap.size w W' → _) := fun p W' hp h => spread25 so kb a b n c p q s W' ha1 ha hnab hn hp (hx.below h) hs (fun v hv W2 h2 => HF v hv W2 (h.trans (h2.mono h.size)))
  have HF' := Lib.hid HF
  replace hx := Lib.hid hx; replace hs := Lib.hid hs; replace e0 := Lib.hid e0; replace hsl := Lib.hid hsl
  clear HF
  go_enter Try.func24, Try.ntmps24
  go_wp2_with fail
  go_loopg [5, 19] n (fun gk lv iv W' => ∃ (k : Nat) (d : List Bool) (p : Option Addr) (m c' : Nat) (ps : List Pt) (bs : List Nat), k ≤ n ∧ gk = n - k ∧ iv = .int .i64 k ∧ lv = .slice p m c' ∧ m ≤ k ∧ W'.heap[w.heap.size]? = some (.cells #[.int .i64 (a : Int), .int .i64 (b : Int), .slice q n c] 24 (0, 0)) ∧ Bls W' (w.heap.size + 1) d ∧ d.length = n ∧
      PtsM (w.heap.size + 2) W'.heap.size W' p m c' ps bs [] ∧ PtsOf so s a (rootsN so s a k) ps ∧ (∀ t, bAt d t = true ↔ ∃ i, i < (rootsN so s a k).length ∧ t ∈ (spread so s a (st (rootsN so s a k) i)).inn) ∧ Below w.heap.size w W')
  case atStart => exact ⟨0, List.replicate n false, none, 0, 0, [], [], Nat.zero_le _, rfl, rfl, rfl, Nat.zero_le _, hM0.out.1, hM0.out.2.1, by simp, PtsM.nil _ _ _ _, ⟨rfl, fun i hi => by simp [rootsN] at hi⟩, fun t => by rw [bAt_rep]; simp [rootsN], hM0.out.2.2⟩
  case round =>
    obtain ⟨k, d, p, m, c', ps, bs, hk, hgk, rfl, rfl, hmk', hbx, hdn, hdl, hpm, hof, hdd, hbl⟩ := hrel
    obtain ⟨W2, rfl⟩ : ∃ W2 : World, W2 = wr := ⟨_, rfl⟩
    replace hgk := Lib.hid hgk
    clear hM0
    have hBW := hbl.size
    by_cases hlt : k < n
    · obtain ⟨bq, oq, rfl, _, hcq⟩ := (hx.out.below hbl).at (by omega)
      have dk := hcq k hlt
      rw [asI_at] at dk
      have hsk := hs.out k
      have hkl : k < s.length := by rw [hsl.out]; exact hlt
      have dx0 : W2.cell? ⟨w.heap.size, 0, none⟩ = some (.int .i64 (a : Int)) := wcell (cs := [_, _, _]) hbx 0
      have dx1 : W2.cell? ⟨w.heap.size, 1, none⟩ = some (.int .i64 (b : Int)) := wcell (cs := [_, _, _]) hbx 1
      have dx2 : W2.cell? ⟨w.heap.size, 2, none⟩ = some (.slice (some ⟨bq, oq, none⟩) n c) := wcell (cs := [_, _, _]) hbx 2
      have dd := hdn.cell (i := k) (by rw [hdl]; exact hlt)
      have HF2 := Lib.hid (HF'.out (st s k) hsk W2 hbl)
      have hrs : Hid (rootsN so s a (k + 1) = rootStep so s a (rootsN so s a k) k) := rootsN_succ so s a k
      have f1 : (0 : Int) ≤ (k : Int) := by omega
      have f2 : (k : Int) < (n : Int) := by omega
      clear hcq
      by_cases hso : so (st s k) = true
      · rw [hso] at HF2
        cases hbd : bAt d k with
        | true =>
          rw [hbd] at dd
          have hsame : Hid (rootsN so s a (k + 1) = rootsN so s a k) := by
            show _ = _
            rw [hrs.out]; unfold rootStep
            rw [if_neg]
            intro h
            rw [Bool.and_eq_true] at h
            obtain ⟨i, hi, hm⟩ := (hdd k).1 hbd
            exact all_no.1 h.2 i hi hm
          replace hbx := Lib.hid hbx; replace hdn := Lib.hid hdn; replace hdl := Lib.hid hdl; replace hpm := Lib.hid hpm; replace hof := Lib.hid hof; replace hdd := Lib.hid hdd; replace hbl := Lib.hid hbl; replace hso := Lib.hid hso; replace hbd := Lib.hid hbd
          clear hsk
          generalize st s k = x at *
          go_wp2_with fail
          refine HF2.out.mono ?_
          rintro e w' ⟨rfl, rfl⟩
          go_wp2_with fail
          have hgk := hgk.out
          go_roundg (n - (k + 1))
          case measure => omega
          case rel => exact ⟨k + 1, d, p, m, c', ps, bs, hlt, rfl, by go_num, rfl, by omega, hbx.out, hdn.out, hdl.out, hpm.out, by rw [hsame.out]; exact hof.out, by rw [hsame.out]; exact hdd.out, hbl.out⟩
        | false =>
          rw [hbd] at dd
          have hnew : Hid (rootsN so s a (k + 1) = rootsN so s a k ++ [k]) := by
            show _ = _
            rw [hrs.out]; unfold rootStep
            rw [if_pos]
            rw [Bool.and_eq_true]
            refine ⟨hso, all_no.2 fun i hi hm => ?_⟩
            have := (hdd k).2 ⟨i, hi, hm⟩
            rw [hbd] at this; cases this
          have hsp := spread_ok (so := so) (a := a) (b := b) (by rw [hsl.out, hnab.out]) hkl
          have hspl := hsp.len
          have hslt : Hid (∀ t, t ∈ (spread so s a k).inn ∨ t ∈ (spread so s a k).bd → t < n) := fun t ht => by rw [← hsl.out]; exact hsp.lt t ht
          rw [hsl.out] at hspl
          have hbl3 : Below w.heap.size w (W2.alloc (.cells #[.slice none 0 0, .slice none 0 0, .bool false] 59)) := hbl.alloc hBW _
          have HS1 := Lib.hid (HS.out k (W2.alloc (.cells #[.slice none 0 0, .slice none 0 0, .bool false] 59)) hlt hbl3)
          have eb := heap_alloc_new W2 (.cells #[.slice none 0 0, .slice none 0 0, .bool false] 59)
          have hb2 : Below W2.heap.size W2 (W2.alloc (.cells #[.slice none 0 0, .slice none 0 0, .bool false] 59)) := (Below.refl _ _).alloc (Nat.le_refl _) _
          have x0 : (W2.alloc (.cells #[.slice none 0 0, .slice none 0 0, .bool false] 59)).cell? ⟨w.heap.size, 0, none⟩ = some (.int .i64 (a : Int)) := (hb2.cell (p := ⟨w.heap.size, 0, none⟩) (lt_of_heap hbx)).trans dx0
          have x1 : (W2.alloc (.cells #[.slice none 0 0, .slice none 0 0, .bool false] 59)).cell? ⟨w.heap.size, 1, none⟩ = some (.int .i64 (b : Int)) := (hb2.cell (p := ⟨w.heap.size, 1, none⟩) (lt_of_heap hbx)).trans dx1
          have x2 : (W2.alloc (.cells #[.slice none 0 0, .slice none 0 0, .bool false] 59)).cell? ⟨w.heap.size, 2, none⟩ = some (.slice (some ⟨bq, oq, none⟩) n c) := (hb2.cell (p := ⟨w.heap.size, 2, none⟩) (lt_of_heap hbx)).trans dx2
          have hbx3 := Lib.hid ((hb2.block _ (lt_of_heap hbx)).trans hbx)
          have hdn3 : Hid (Bls (W2.alloc (.cells #[.slice none 0 0, .slice none 0 0, .bool false] 59)) (w.heap.size + 1) d) := (hb2.block _ (lt_of_heap hdn)).trans hdn
          have hpm3 : Hid (PtsM (w.heap.size + 2) W2.heap.size (W2.alloc (.cells #[.slice none 0 0, .slice none 0 0, .bool false] 59)) p m c' ps bs []) := hpm.keep fun k _ h2 => hb2.block k h2
          have hdlt : w.heap.size + 1 < W2.heap.size := lt_of_heap hdn
          obtain ⟨b9, hb9⟩ : ∃ b9, b9 = W2.heap.size := ⟨_, rfl⟩
          replace hbx := Lib.hid hbx; replace hdn := Lib.hid hdn; replace hdl := Lib.hid hdl; replace hpm := Lib.hid hpm; replace hof := Lib.hid hof; replace hdd := Lib.hid hdd; replace hbl := Lib.hid hbl; replace hso := Lib.hid hso; replace hbd := Lib.hid hbd; replace hsp := Lib.hid hsp
          replace eb := Lib.hid eb; replace hbl3 := Lib.hid hbl3; replace hb2 := Lib.hid hb2
          clear hsk
          obtain ⟨x, hxs⟩ : ∃ x, x = st s k := ⟨_, rfl⟩
          rw [← hxs] at dk HF2
          replace hxs := Lib.hid hxs
          go_wp2_with fail
          refine HF2.out.mono ?_
          rintro e w' ⟨rfl, rfl⟩
          clear HF2 dx0 dx1 dx2 dk
          go_wp2_with fail
          refine HS1.out.mono ?_
          rintro e w5 ⟨l1, l2, q1, c1, q2, c2, rfl, hp1, hp2, hi1, hi2, hB5, hq1, hq2⟩
          rw [World.size_alloc] at hq1 hq2
          have hl1 : l1.length ≤ n := by rw [hp1.length_eq]; omega
          have hl1m : Hid (∀ j, j < l1.length → st l1 j < n) := fun j hj => hslt.out _ (.inl (hp1.mem_iff.1 (st_mem hj)))
          have hl1s : Hid (∀ t ∈ l1, t < n) := fun t ht => hslt.out _ (.inl (hp1.mem_iff.1 ht))
          have hsz5 : W2.heap.size + 1 ≤ w5.heap.size := by have := hB5.size; rwa [World.size_alloc] at this
          have eb5 := (hB5.block _ (lt_of_heap eb.out)).trans eb.out
          have y0 : w5.cell? ⟨W2.heap.size, 0, none⟩ = some (.slice none 0 0) := wcell (cs := [_, _, _]) eb5 0
          have y1 : w5.cell? ⟨W2.heap.size, 1, none⟩ = some (.slice none 0 0) := wcell (cs := [_, _, _]) eb5 1
          have g0 := wfree eb5 0
          have g1 := wfree eb5 1
          have eb6 : ((w5.setCell ⟨W2.heap.size, 0, none⟩ (.slice q1 l1.length c1)).setCell ⟨W2.heap.size, 1, none⟩ (.slice q2 l2.length c2)).heap[W2.heap.size]? = some (.cells #[.slice q1 l1.length c1, .slice q2 l2.length c2, .bool false] 59 (0, 0)) := by
            have := wset (wset eb5 0 (.slice q1 l1.length c1)) 1 (.slice q2 l2.length c2)
            simpa using this
          have hk6 : ∀ k, k ≠ W2.heap.size → ((w5.setCell ⟨W2.heap.size, 0, none⟩ (.slice q1 l1.length c1)).setCell ⟨W2.heap.size, 1, none⟩ (.slice q2 l2.length c2)).heap[k]? = w5.heap[k]? := fun k hk => (wset_ne _ _ hk).trans (wset_ne _ _ hk)
          have hkk : ∀ k, k < W2.heap.size → ((w5.setCell ⟨W2.heap.size, 0, none⟩ (.slice q1 l1.length c1)).setCell ⟨W2.heap.size, 1, none⟩ (.slice q2 l2.length c2)).heap[k]? = (W2.alloc (.cells #[.slice none 0 0, .slice none 0 0, .bool false] 59)).heap[k]? := fun k hk => (hk6 k (by omega)).trans (hB5.block k (by rw [World.size_alloc]; omega))
          have hsz6 : ((w5.setCell ⟨W2.heap.size, 0, none⟩ (.slice q1 l1.length c1)).setCell ⟨W2.heap.size, 1, none⟩ (.slice q2 l2.length c2)).heap.size = w5.heap.size := by simp [World.setCell]
          have hbl6 : Below w.heap.size w ((w5.setCell ⟨W2.heap.size, 0, none⟩ (.slice q1 l1.length c1)).setCell ⟨W2.heap.size, 1, none⟩ (.slice q2 l2.length c2)) := ((hbl3.out.trans (hB5.mono hbl3.out.size)).setCell (p := ⟨W2.heap.size, 0, none⟩) hBW _).setCell (p := ⟨W2.heap.size, 1, none⟩) hBW _
          have hi16 := ints_keep0 (w' := ((w5.setCell ⟨W2.heap.size, 0, none⟩ (.slice q1 l1.length c1)).setCell ⟨W2.heap.size, 1, none⟩ (.slice q2 l2.length c2))) hi1 (fun y hy _ => hk6 _ (by have := hq1 y hy; omega))
          have hi26 := ints_keep0 (w' := ((w5.setCell ⟨W2.heap.size, 0, none⟩ (.slice q1 l1.length c1)).setCell ⟨W2.heap.size, 1, none⟩ (.slice q2 l2.length c2))) hi2 (fun y hy _ => hk6 _ (by have := hq2 y hy; omega))
          have hbx6 := (hkk w.heap.size (by omega)).trans hbx3.out
          have hdn6 : Bls ((w5.setCell ⟨W2.heap.size, 0, none⟩ (.slice q1 l1.length c1)).setCell ⟨W2.heap.size, 1, none⟩ (.slice q2 l2.length c2)) (w.heap.size + 1) d := (hkk _ hdlt).trans hdn3.out
          have hpm6 : PtsM (w.heap.size + 2) W2.heap.size ((w5.setCell ⟨W2.heap.size, 0, none⟩ (.slice q1 l1.length c1)).setCell ⟨W2.heap.size, 1, none⟩ (.slice q2 l2.length c2)) p m c' ps bs [] := hpm3.out.keep fun k _ h2 => hkk k h2
          have z0 : ((w5.setCell ⟨W2.heap.size, 0, none⟩ (.slice q1 l1.length c1)).setCell ⟨W2.heap.size, 1, none⟩ (.slice q2 l2.length c2)).cell? ⟨W2.heap.size, 0, none⟩ = some (.slice q1 l1.length c1) := wcell (cs := [_, _, _]) eb6 0
          have hst6 : Hid (PTI w ((w5.setCell ⟨W2.heap.size, 0, none⟩ (.slice q1 l1.length c1)).setCell ⟨W2.heap.size, 1, none⟩ (.slice q2 l2.length c2)) W2.heap.size w5.heap.size a b n c (some ⟨bq, oq, none⟩) q1 q2 c1 c2 l1 l2 d p m c' ps bs) := ⟨hbx6, hdn6, hpm6, eb6, hi16, hi26, hsz6, hbl6⟩
          replace hp1 := Lib.hid hp1; replace hp2 := Lib.hid hp2; replace hq1 := Lib.hid hq1; replace hq2 := Lib.hid hq2; replace hb9 := Lib.hid hb9
          clear HS1 hB5 hi1 hi2 eb5 eb6 hk6 hkk hsz6 hbl6 hi16 hi26 hbx6 hdn6 hpm6 x0 x1 x2 dd hspl hbx3 hdn3 hpm3
          go_wp2_with fail
          go_loopg [54] l1.length (fun gk jv W' => ∃ (i : Nat), i ≤ l1.length ∧ gk = l1.length - i ∧ jv = .int .i64 i ∧ PTI w W' W2.heap.size w5.heap.size a b n c (some ⟨bq, oq, none⟩) q1 q2 c1 c2 l1 l2 (markL d (l1.take i)) p m c' ps bs)
          case atStart => exact ⟨0, Nat.zero_le _, rfl, rfl, hst6.out⟩
          case round =>
            obtain ⟨i, hi, hgk3, rfl, hT⟩ := hrel
            obtain ⟨W6, rfl⟩ : ∃ W6 : World, W6 = wr := ⟨_, rfl⟩
            replace hgk3 := Lib.hid hgk3
            clear hst6 y0 y1 g0 g1 z0
            by_cases hil : i < l1.length
            · obtain ⟨b1, o1, rfl, _, hc1⟩ := hT.i1.at (by omega)
              have e1 := hc1 i hil
              rw [asI_at] at e1
              have htn := hl1m.out i hil
              have htk : Hid (l1.take (i + 1) = l1.take i ++ [st l1 i]) := by
                show _ = _
                rw [List.take_succ_eq_append_getElem hil]; unfold st; rw [List.getElem?_eq_getElem hil]; rfl
              generalize st l1 i = t at *
              have dt := hT.dn.cell (i := t) (by rw [markL_len, hdl.out]; exact htn)
              have ft := wfree hT.dn t
              have hT7 := Lib.hid (hT.mark t hdlt hq1.out hq2.out)
              replace hT := Lib.hid hT
              clear hc1
              go_wp2_with fail
              have hgk3 := hgk3.out
              go_roundg (l1.length - (i + 1))
              case measure => omega
              case rel => exact ⟨i + 1, hil, rfl, by go_num, by rw [htk.out, markL_snoc]; exact hT7.out⟩
            · have hie : i = l1.length := by omega
              subst hie
              rw [List.take_length] at hT
              have hill : ¬ (l1.length : Int) < (l1.length : Int) := by omega
              have hn2 : m < 1099511627776 := by omega
              have hrow := Lib.hid hT.pm.row
              have hzW : w.heap.size + 2 ≤ W6.heap.size := by rw [hT.sz]; omega
              have hPB : Hid (PtB (w.heap.size + 2) W6.heap.size W6 (p.map (·.block)) W2.heap.size (l1, l2) false) := hT.part hdlt hsz5 hq1.out hq2.out
              replace hT := Lib.hid hT
              go_wp2_with (at_builtin; refine wp_appendVs elPt W6 rfl (.tmp 62) (.tmp 64) rfl (w.heap.size + 2) p m c' _ rfl hrow.out #[.pointer (some ⟨W2.heap.size, 0, none⟩)] rfl rfl _ ?_ rfl hn2 hzW ?_; (first | exact rfl | simp); intro p9 c9 w9 hO9 hg9 hr9 hz9; replace hO9 := Lib.hid hO9; replace hg9 := Lib.hid hg9; replace hr9 := Lib.hid hr9)
              have hT := hT.out
              have hpx : ∀ x, x < w.heap.size + 2 → some x ≠ p.map (·.block) := fun x hx => hT.pm.row.apart x hx
              have hbx9 := (hg9.out.block _ (by omega) (hpx _ (by omega))).trans hT.bx
              have hdn9 : Bls w9 (w.heap.size + 1) (markL d l1) := (hg9.out.block _ (by omega) (hpx _ (by omega))).trans hT.dn
              have hbl9 := hT.bl.grown hg9.out (by omega) (fun k hk => by
                rcases Nat.lt_or_ge k (w.heap.size + 2) with h | h
                · exact absurd hk.symm (hpx k h)
                · omega)
              have hpm9 := hT.pm.push (Nat.le_refl _) hPB.out (by rw [hT.sz]; omega) (by simpa using hO9.out) hg9.out hr9.out
              have hgk := hgk.out
              go_roundg (n - (k + 1))
              case measure => omega
              case rel => exact ⟨k + 1, markL d l1, p9, m + 1, c9, ps ++ [(l1, l2)], bs ++ [W2.heap.size], hlt, rfl, by go_num, rfl, by omega, hbx9, hdn9, by rw [markL_len]; exact hdl.out, hpm9, by rw [hnew.out]; exact hof.out.snoc hp1.out hp2.out, by rw [hnew.out]; exact mark_roots hdd.out hp1.out (by rw [hdl.out]; exact hl1s.out), hbl9⟩
      · have hsf : so (st s k) = false := by simpa using hso
        rw [hsf] at HF2
        have hsame : Hid (rootsN so s a (k + 1) = rootsN so s a k) := by
          show _ = _
          rw [hrs.out]; unfold rootStep
          rw [if_neg]
          rw [hsf]; simp
        replace hbx := Lib.hid hbx; replace hdn := Lib.hid hdn; replace hdl := Lib.hid hdl; replace hpm := Lib.hid hpm; replace hof := Lib.hid hof; replace hdd := Lib.hid hdd; replace hbl := Lib.hid hbl; replace hso := Lib.hid hso; replace hsf := Lib.hid hsf
        clear hsk
        generalize st s k = x at *
        go_wp2_with fail
        refine HF2.out.mono ?_
        rintro e w' ⟨rfl, rfl⟩
        go_wp2_with fail
        have hgk := hgk.out
        go_roundg (n - (k + 1))
        case measure => omega
        case rel => exact ⟨k + 1, d, p, m, c', ps, bs, hlt, rfl, by go_num, rfl, by omega, hbx.out, hdn.out, hdl.out, hpm.out, by rw [hsame.out]; exact hof.out, by rw [hsame.out]; exact hdd.out, hbl.out⟩
    · have hke : k = n := by omega
      subst hke
      have hkk : ¬ (k : Int) < (k : Int) := by omega
      replace hbx := Lib.hid hbx; replace hdn := Lib.hid hdn; replace hdl := Lib.hid hdl; replace hpm := Lib.hid hpm; replace hof := Lib.hid hof; replace hdd := Lib.hid hdd; replace hbl := Lib.hid hbl
      go_wp2_with fail
      refine bodyPost_ret (v := .slice p m c') (by simp [results, Try.results24, go_sem]) rfl ⟨p, m, c', rfl, hmk', ps, ⟨bs, hpm.out⟩, hof.out, hbl.out⟩
end Go.Proofs.Ytefjliblaeadfaa
