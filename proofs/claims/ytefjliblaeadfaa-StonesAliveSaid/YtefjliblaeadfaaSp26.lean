/- What stones.spread computes: all that a place reaches, and what borders on it; conditions: a board of 1 to 10 by 1 to 10 places, a place of it, a function that tells of each sign and changes nothing. -/
import Derived.Test.YtefjliblaeadfaaSprM
namespace Go.Proofs.Ytefjliblaeadfaa
open Go.RowKit

set_option maxHeartbeats 8000000 in
set_option maxRecDepth 100000 in
theorem spread26 (so : Nat → Bool) (kb : Nat) (a b n c p : Nat) (q : Option Addr) (s : List Nat) (w : World) (ha1 : 1 ≤ a) (ha : a ≤ 10) (hnab : Hid (n = a * b)) (hn : n ≤ 100) (hp : p < n) (hx : IntsIn w q n (asI s)) (hs : ∀ j, st s j ≤ 2)
    (HF : ∀ v, v ≤ 2 → ∀ W', Below w.heap.size w W' → Calls Try.prog 26 #[.int .i64 ((v : Nat) : Int), .pointer (some ⟨kb, 0, none⟩)] W' fun e w' => e = .returned (.bool (so v)) ∧ W' = w') :
    Calls Try.prog 22 #[.agg #[.int .i64 (a : Int), .int .i64 (b : Int), .slice q n c], .int .i64 (p : Int), .func (.func 26) #[] #[.pointer (some ⟨kb, 0, none⟩)]] w fun e w' => ∃ l1 l2 q1 c1 q2 c2, e = .returned (.tuple #[.slice q1 l1.length c1, .slice q2 l2.length c2]) ∧ l1.Perm (spread so s a p).inn ∧ l2.Perm (spread so s a p).bd ∧ IntsIn w' q1 l1.length (asI l1) ∧ IntsIn w' q2 l2.length (asI l2) ∧ Below w.heap.size w w' ∧ (∀ y, q1 = some y → w.heap.size ≤ y.block) ∧ (∀ y, q2 = some y → w.heap.size ≤ y.block) := by
  have hsl : s.length = n := by have := hx.len; rwa [asI_len] at this
  obtain ⟨Z, hZ⟩ : ∃ Z, Z = spread so s a p := ⟨_, rfl⟩
  rw [← hZ]
  replace hZ : Hid (Z = spread so s a p) := hZ
  replace hx := Lib.hid hx; replace hs := Lib.hid hs; replace HF := Lib.hid HF; replace hsl := Lib.hid hsl
  have e0 := heap_alloc_new w (.cells #[.int .i64 (a : Int), .int .i64 (b : Int), .slice q n c] 24)
  have hB0 : Below w.heap.size w (w.alloc (.cells #[.int .i64 (a : Int), .int .i64 (b : Int), .slice q n c] 24)) := (Below.refl _ _).alloc (Nat.le_refl _) _
  have hmk := run_mkb n (by omega) (w.alloc (.cells #[.int .i64 (a : Int), .int .i64 (b : Int), .slice q n c] 24))
  have e1 := heap_alloc_new (w.alloc (.cells #[.int .i64 (a : Int), .int .i64 (b : Int), .slice q n c] 24)) (.cells (Array.replicate n (.bool false)) 4)
  have e0' := (Below.heap_alloc (w.alloc (.cells #[.int .i64 (a : Int), .int .i64 (b : Int), .slice q n c] 24)) (.cells (Array.replicate n (.bool false)) 4) _ (lt_of_heap e0)).trans e0
  have hB1 := hB0.alloc hB0.size (.cells (Array.replicate n (.bool false)) 4)
  have hsz1 : ((w.alloc (.cells #[.int .i64 (a : Int), .int .i64 (b : Int), .slice q n c] 24)).alloc (.cells (Array.replicate n (.bool false)) 4)).heap.size = w.heap.size + 2 := by simp
  rw [World.size_alloc] at e1 hmk
  replace e0 := Lib.hid e0; replace e0' := Lib.hid e0'; replace hB0 := Lib.hid hB0; replace hB1 := Lib.hid hB1; replace e1 := Lib.hid e1; replace hsz1 := Lib.hid hsz1
  go_enter Try.func22, Try.ntmps22
  go_upto_region 2 with fail
  generalize (w.alloc (.cells #[.int .i64 (a : Int), .int .i64 (b : Int), .slice q n c] 24)).alloc (.cells (Array.replicate n (.bool false)) 4) = W1 at *
  clear hmk
  obtain ⟨B, hB⟩ : ∃ B, B = w.heap.size := ⟨_, rfl⟩
  have hM1 : Bls W1 (B + 1) (List.replicate n false) := by rw [hB]; unfold Bls; rw [e1.out]; simp
  have d1 := hM1.cell (i := p) (by simpa using hp)
  rw [bAt_rep, hB] at d1
  have d2 := wfree e1.out p
  have hM2 := hM1.set p
  have hsW : W1.heap.size = w.heap.size + 2 := hsz1.out
  have hbx2 := (wset_ne (w := W1) ⟨w.heap.size + 1, p, none⟩ (.bool true) (b := w.heap.size) (by simp)).trans e0'.out
  have hB2 : Below w.heap.size w (W1.setCell ⟨w.heap.size + 1, p, none⟩ (.bool true)) := hB1.out.setCell (p := ⟨w.heap.size + 1, p, none⟩) (by simp) _
  have hsz2 : Hid ((W1.setCell ⟨w.heap.size + 1, p, none⟩ (.bool true)).heap.size = w.heap.size + 2) := by show _ = _; rw [← hsW]; simp [World.setCell]
  have hM : Hid (SpM w ((W1.setCell ⟨w.heap.size + 1, p, none⟩ (.bool true)).alloc (.cells #[.int .i64 (p : Int)] 3)) w.heap.size (sp0 s p) (.slice (some ⟨w.heap.size + 2, 0, none⟩) 1 1) (.slice none 0 0) a b n c q) := by
    have hh := heap_alloc_new (W1.setCell ⟨w.heap.size + 1, p, none⟩ (.bool true)) (.cells #[.int .i64 (p : Int)] 3)
    rw [hsz2.out] at hh
    have hsn : (sp0 s p).seen = (List.replicate n false).set p true := by rw [← hsl.out]; rfl
    refine ⟨⟨_, 1, rfl, ⟨rfl, .inr ⟨w.heap.size + 2, 1, _, rfl, Nat.le_refl _, hh, Nat.le_refl _, by decide, rfl, rfl⟩⟩, none, 0, rfl, Own.nil _ _ _, fun x y _ h => by cases h⟩, ?_, (Below.heap_alloc _ _ _ (by rw [hsz2.out]; omega)).trans hbx2, hB2.alloc hB2.size _⟩
    rw [hsn]
    rw [hB] at hM2
    exact (Below.heap_alloc _ _ _ (by rw [hsz2.out]; omega)).trans hM2
  replace hM1 := Lib.hid hM1; replace hM2 := Lib.hid hM2; replace hB := Lib.hid hB; replace hB2 := Lib.hid hB2; replace hbx2 := Lib.hid hbx2; replace hsW := Lib.hid hsW
  go_wp2_with fail
  have hI0 : Hid (SpI so s a p (sp0 s p)) := sp0_I (by rw [hsl.out]; exact hp)
  have hZ0 : Hid (spLoop so s a (n + 1 - 0) 0 (sp0 s p) = Z) := by show _ = _; rw [hZ.out, ← hsl.out]; rfl
  have hZs : Hid (Spread so s a p Z) := by show Spread _ _ _ _ _; rw [hZ.out]; exact spread_ok (b := b) (by rw [hsl.out, hnab.out]) (by rw [hsl.out]; exact hp)
  clear d1 d2
  go_loopg [6, 7, 9] (n + 1) (fun gk v6 v7 iv W' => ∃ (i : Nat) (z : Sp), i ≤ z.inn.length ∧ gk = n + 1 - i ∧ iv = .int .i64 i ∧ SpM w W' w.heap.size z v6 v7 a b n c q ∧ SpI so s a p z ∧ spLoop so s a (n + 1 - i) i z = Z)
  case atStart => exact ⟨0, sp0 s p, Nat.zero_le _, rfl, rfl, by rw [hsW.out]; exact hM.out, hI0.out, hZ0.out⟩
  case round =>
    obtain ⟨i, z, hi, hgk, rfl, hMz, hIz, hLz⟩ := hrel
    obtain ⟨W2, rfl⟩ : ∃ W2 : World, W2 = wr := ⟨_, rfl⟩
    replace hgk := Lib.hid hgk
    have hil : z.inn.length ≤ n := by have := hIz.len; rw [hsl.out] at this; omega
    clear hM hI0 hZ0
    obtain ⟨⟨p6, c6, rfl, h6, p7, c7, rfl, h7, hne⟩, hsn, hbx, hbl⟩ := hMz
    have hBW : w.heap.size ≤ W2.heap.size := hbl.size
    by_cases hlt : i < z.inn.length
    · obtain ⟨g6, rfl, hg6, hg6l, _⟩ := h6.where (by omega)
      have hxm : st z.inn i ∈ z.inn := by unfold st; rw [List.getElem?_eq_getElem hlt]; exact List.getElem_mem hlt
      have hxn : st z.inn i < n := by rw [← hsl.out]; exact hIz.lt _ (.inl hxm)
      have d6 := Own.cell h6 (i := i) hlt
      rw [asI_at] at d6
      have dx0 : W2.cell? ⟨w.heap.size, 0, none⟩ = some (.int .i64 (a : Int)) := wcell (cs := [_, _, _]) hbx 0
      have dx1 : W2.cell? ⟨w.heap.size, 1, none⟩ = some (.int .i64 (b : Int)) := wcell (cs := [_, _, _]) hbx 1
      have dx2 : W2.cell? ⟨w.heap.size, 2, none⟩ = some (.slice q n c) := wcell (cs := [_, _, _]) hbx 2
      have hnx : Hid (∀ t ∈ nearL a n (st z.inn i), t ∈ nearL a s.length (st z.inn i) ∧ t < s.length) := fun t ht => ⟨by rw [hsl.out]; exact ht, by rw [hsl.out, hnab.out]; rw [hnab.out] at ht; exact near_lt (by rw [← hnab.out]; exact hxn) ht⟩
      have hstep : Hid (spLoop so s a (n + 1 - i) i z = spLoop so s a (n + 1 - (i + 1)) (i + 1) (spN so s z (nearL a n (st z.inn i)) (nearL a n (st z.inn i)).length)) := by
        show _ = _
        rw [show n + 1 - i = (n + 1 - (i + 1)) + 1 by omega, spLoop, if_pos hlt]
        unfold spRound; rw [hsl.out]
      have hrnd := Lib.hid (hIz.round hxm (nearL a n (st z.inn i)) hnx.out)
      have HN := Lib.hid (fun W' => near_any a b n c (st z.inn i) q W' ha1 ha hn hxn)
      obtain ⟨L, hLd⟩ : ∃ L, L = nearL a n (st z.inn i) := ⟨_, rfl⟩
      rw [← hLd] at HN hrnd hstep hnx
      have hL4 : L.length ≤ 4 := by rw [hLd]; exact near_le _ _ _
      have hMz : Hid (SpM w W2 w.heap.size z (.slice (some ⟨g6, 0, none⟩) z.inn.length c6) (.slice p7 z.bd.length c7) a b n c q) := ⟨⟨_, c6, rfl, h6, p7, c7, rfl, h7, hne⟩, hsn, hbx, hbl⟩
      have h6b : Hid (g6 < W2.heap.size ∧ g6 ≠ w.heap.size + 1 ∧ (∀ y, p7 = some y → y.block < W2.heap.size)) := ⟨hg6l, by omega, fun y hy => (h7.block y hy).2⟩
      generalize st z.inn i = x at *
      replace hLd := Lib.hid hLd; replace hIz := Lib.hid hIz; replace hLz := Lib.hid hLz; replace hxm := Lib.hid hxm
      have hi1 : (0 : Int) ≤ (i : Int) := by omega
      have hi2 : (i : Int) < (z.inn.length : Int) := by omega
      clear h6 h7 hne hsn hbx hbl
      go_wp2_with fail
      go_region_held3 (fun w' => w'.cell? ⟨w.heap.size, 0, none⟩ = some (.int .i64 (a : Int)) ∧ w'.cell? ⟨w.heap.size, 1, none⟩ = some (.int .i64 (b : Int)) ∧ w'.cell? ⟨w.heap.size, 2, none⟩ = some (.slice q n c) ∧ w'.cell? ⟨g6, i, none⟩ = some (.int .i64 (x : Int))) (go_keep)
        (first | (go_at_call 33; refine (HN.out _).mono ?_; rintro e w3 ⟨q3, c3, rfl, hO3, hB3⟩; have y0 : w3.cell? ⟨w.heap.size, 0, none⟩ = some (.int .i64 (a : Int)) := (hB3.cell (p := ⟨w.heap.size, 0, none⟩) (World.block_lt_of_cell? _ _ dx0)).trans dx0; have y1 : w3.cell? ⟨w.heap.size, 1, none⟩ = some (.int .i64 (b : Int)) := (hB3.cell (p := ⟨w.heap.size, 1, none⟩) (World.block_lt_of_cell? _ _ dx1)).trans dx1; have y2 : w3.cell? ⟨w.heap.size, 2, none⟩ = some (.slice q n c) := (hB3.cell (p := ⟨w.heap.size, 2, none⟩) (World.block_lt_of_cell? _ _ dx2)).trans dx2; have y3 : w3.cell? ⟨g6, i, none⟩ = some (.int .i64 (x : Int)) := (hB3.cell (p := ⟨g6, i, none⟩) (World.block_lt_of_cell? _ _ d6)).trans d6; replace hO3 := Lib.hid hO3; replace hB3 := Lib.hid hB3))
      have hM3 : Hid (SpM w w3 w.heap.size z (.slice (some ⟨g6, 0, none⟩) z.inn.length c6) (.slice p7 z.bd.length c7) a b n c q) := hMz.out.below (((Below.refl W2.heap.size W2).drew).trans hB3.out) hBW
      have hNL : Hid (NLk w3 w3 w.heap.size q3 (.slice (some ⟨g6, 0, none⟩) z.inn.length c6) (.slice p7 z.bd.length c7)) := fun y hy => by
        obtain ⟨k1, k2⟩ := Own.block hO3.out y hy
        have k1 : W2.heap.size + 1 ≤ y.block := k1
        refine ⟨rfl, ?_, ?_, k2, by omega⟩
        · rw [ob_slice]; intro e; simp at e; have := h6b.out.1; omega
        · rw [ob_slice]; intro e
          cases p7 with
          | none => cases e
          | some x7 => simp at e; have := h6b.out.2.2 x7 rfl; omega
      clear d6 dx0 dx1 dx2 y0 y1 y2 y3 HN hMz
      go_wp2_with fail
      go_loopg [6, 7, 34] L.length (fun gk v6 v7 jv W' => ∃ (j : Nat), j ≤ L.length ∧ gk = L.length - j ∧ jv = .int .i64 j ∧ SpM w W' w.heap.size (spN so s z L j) v6 v7 a b n c q ∧ NLk w3 W' w.heap.size q3 v6 v7 ∧ w3.heap.size ≤ W'.heap.size)
      case atStart => exact ⟨0, Nat.zero_le _, rfl, rfl, hM3.out, hNL.out, Nat.le_refl _⟩
      case round =>
        obtain ⟨j, hj, hgk2, rfl, hM4, hN4, hz4⟩ := hrel
        obtain ⟨W4, rfl⟩ : ∃ W4 : World, W4 = wr := ⟨_, rfl⟩
        replace hgk2 := Lib.hid hgk2
        clear hM3 hNL
        obtain ⟨hI4, _, _, l4, hl4⟩ := hrnd.out j hj
        by_cases hjl : j < L.length
        · have hOL := hN4.own hO3.out
          obtain ⟨gL, rfl, _, _, _⟩ := hOL.where (by omega)
          have dL := Own.cell hOL (i := j) hjl
          rw [asI_at] at dL
          have htm : st L j ∈ L := by unfold st; rw [List.getElem?_eq_getElem hjl]; exact List.getElem_mem hjl
          have htn := (hnx.out _ htm).2
          rw [hsl.out] at htn
          have hsu := Lib.hid (spN_succ so s z L j hjl)
          generalize spN so s z L j = z4 at *
          generalize st L j = t at *
          have dS := hM4.sn.cell (i := t) (by rw [hI4.sl, hsl.out]; exact htn)
          obtain ⟨bq, oq, e, _, hcq⟩ := (hx.out.below hM4.bl).at (by omega)
          cases e
          have dC := hcq t htn
          rw [asI_at] at dC
          have hst2 := hs.out t
          have HFt := Lib.hid (HF.out (st s t) hst2)
          have dx2 : W4.cell? ⟨w.heap.size, 2, none⟩ = some (.slice (some ⟨bq, oq, none⟩) n c) := wcell (cs := [_, _, _]) hM4.bx 2
          obtain ⟨⟨p64, c64, e64, h64, p74, c74, e74, h74, hne4⟩, hsn4, hbx4, hbl4⟩ := hM4
          have hdf := wfree hsn4 t
          have hBW4 : w.heap.size ≤ W4.heap.size := hbl4.size
          subst e64; subst e74
          cases hbt : bAt z4.seen t with
          | true =>
            have hstp : Hid (spStep so s z4 t = z4) := by show _ = _; unfold spStep; rw [if_pos hbt]
            have hM5 : Hid (SpM w W4 w.heap.size z4 (.slice p64 z4.inn.length c64) (.slice p74 z4.bd.length c74) a b n c (some ⟨bq, oq, none⟩)) := ⟨⟨p64, c64, rfl, h64, p74, c74, rfl, h74, hne4⟩, hsn4, hbx4, hbl4⟩
            rw [hbt] at dS
            replace hbt := Lib.hid hbt; replace hI4 := Lib.hid hI4; replace hl4 := Lib.hid hl4; replace hN4 := Lib.hid hN4
            clear h64 h74 hne4 hsn4 hbx4 hbl4 hOL hcq hdf
            go_wp2_with fail
            have hgk2 := hgk2.out
            go_roundg (L.length - (j + 1))
            case measure => omega
            case rel => exact ⟨j + 1, hjl, rfl, by go_num, by rw [hsu.out, hstp.out]; exact hM5.out, hN4.out, hz4⟩
          | false =>
            rw [hbt] at dS
            have hset := hsn4.set t
            have hM5 : SpM w (W4.setCell ⟨w.heap.size + 1, t, none⟩ (.bool true)) w.heap.size ⟨z4.seen.set t true, z4.inn, z4.bd⟩ (.slice p64 z4.inn.length c64) (.slice p74 z4.bd.length c74) a b n c (some ⟨bq, oq, none⟩) := SpM.mark ⟨⟨p64, c64, rfl, h64, p74, c74, rfl, h74, hne4⟩, hsn4, hbx4, hbl4⟩ t
            have hN5 := Lib.hid (hN4.set (t := t))
            have hI4l := hI4.len
            rw [hsl.out] at hI4l
            have hz5 : w3.heap.size ≤ (W4.setCell ⟨w.heap.size + 1, t, none⟩ (.bool true)).heap.size := by simpa [World.setCell] using hz4
            replace hbt := Lib.hid hbt; replace hI4 := Lib.hid hI4; replace hl4 := Lib.hid hl4; replace hN4 := Lib.hid hN4
            clear h64 h74 hne4 hset hbx4 hOL hcq
            go_upto_region 12 with fail
            clear hsn4 hdf dS dL dx2 dC hbl4 hz4 hBW4
            generalize W4.setCell ⟨w.heap.size + 1, t, none⟩ (.bool true) = W5 at *
            obtain ⟨⟨_, _, e64, h65, _, _, e74, h75, hne5⟩, hsn5, hbx5, hbl5⟩ := hM5
            cases e64; cases e74
            obtain ⟨bq', oq', e, _, hcq⟩ := (hx.out.below hbl5).at (by omega)
            cases e
            have dC := hcq t htn
            rw [asI_at] at dC
            have dx2 : W5.cell? ⟨w.heap.size, 2, none⟩ = some (.slice (some ⟨bq, oq, none⟩) n c) := wcell (cs := [_, _, _]) hbx5 2
            have HF5 := Lib.hid (HFt.out W5 hbl5)
            have hso : Hid (spStep so s z4 t = if so (st s t) then ⟨z4.seen.set t true, z4.inn ++ [t], z4.bd⟩ else ⟨z4.seen.set t true, z4.inn, z4.bd ++ [t]⟩) := by show _ = _; unfold spStep; rw [if_neg (by rw [hbt.out]; simp)]
            generalize st s t = sv at *
            have hBW5 : w.heap.size ≤ W5.heap.size := hbl5.size
            clear hcq
            go_wp2_with fail
            refine HF5.out.mono ?_
            rintro r w' ⟨rfl, rfl⟩
            clear HF5 HFt dC dx2
            cases hsv : so sv with
            | true =>
              rw [hsv, if_pos rfl] at hso
              go_wp2_with (at_builtin; refine wp_append1 intG W5 rfl _ _ rfl (w.heap.size + 2) p64 z4.inn.length c64 (asI z4.inn) rfl h65 (t : Int) rfl (by omega) (by have := lt_of_heap hsn5; omega) ?_; intro p' c' w6 hO6 hg6' hr6 hz6)
              have hM6 := Lib.hid (SpM.push6 (z := ⟨z4.seen.set t true, z4.inn, z4.bd⟩) h65 h75 rfl hne5 hsn5 hbx5 hbl5 rfl hO6 hg6' hr6 hBW5)
              have hN6 := hN5.out.push (n' := z4.inn.length + 1) (c' := c') hz5 (.inl rfl) hg6' hr6
              have hN6b : Hid (NLk w3 w6 w.heap.size (some ⟨gL, 0, none⟩) (.slice p' (z4.inn.length + 1) c') (.slice p74 z4.bd.length c74)) := fun y hy => ⟨(hN6 y hy).1, (hN6 y hy).2, (hN5.out y hy).2.2⟩
              have hz7 : w3.heap.size ≤ w6.heap.size := Nat.le_trans hz5 hz6
              clear hO6 hg6' hr6 hN6 h65 h75 hne5 hsn5 hbx5 hbl5
              go_wp2_with fail
              have hgk2 := hgk2.out
              go_roundg (L.length - (j + 1))
              case measure => omega
              case rel => exact ⟨j + 1, hjl, rfl, by go_num, by rw [hsu.out, hso.out]; exact hM6.out, hN6b.out, hz7⟩
            | false =>
              rw [hsv, if_neg (by simp)] at hso
              go_wp2_with (at_builtin; refine wp_append1 intG W5 rfl _ _ rfl (w.heap.size + 2) p74 z4.bd.length c74 (asI z4.bd) rfl h75 (t : Int) rfl (by omega) (by have := lt_of_heap hsn5; omega) ?_; intro p' c' w6 hO6 hg6' hr6 hz6)
              have hM6 := Lib.hid (SpM.push7 (z := ⟨z4.seen.set t true, z4.inn, z4.bd⟩) h65 h75 rfl hne5 hsn5 hbx5 hbl5 rfl hO6 hg6' hr6 hBW5)
              have hN6 := hN5.out.push (n' := z4.bd.length + 1) (c' := c') hz5 (.inr rfl) hg6' hr6
              have hN6b : Hid (NLk w3 w6 w.heap.size (some ⟨gL, 0, none⟩) (.slice p64 z4.inn.length c64) (.slice p' (z4.bd.length + 1) c')) := fun y hy => ⟨(hN6 y hy).1, (hN5.out y hy).2.1, (hN6 y hy).2, (hN5.out y hy).2.2.2⟩
              have hz7 : w3.heap.size ≤ w6.heap.size := Nat.le_trans hz5 hz6
              clear hO6 hg6' hr6 hN6 h65 h75 hne5 hsn5 hbx5 hbl5
              go_wp2_with fail
              have hgk2 := hgk2.out
              go_roundg (L.length - (j + 1))
              case measure => omega
              case rel => exact ⟨j + 1, hjl, rfl, by go_num, by rw [hsu.out, hso.out]; exact hM6.out, hN6b.out, hz7⟩
        · have hje : j = L.length := by omega
          subst hje
          have hM5 := Lib.hid hM4
          have hi4 : Hid (i + 1 ≤ (spN so s z L L.length).inn.length) := by show _ ≤ _; rw [hl4, List.length_append]; omega
          have hI5 := Lib.hid hI4
          clear hM4 hN4 hI4 hl4
          go_wp2_with fail
          have hgk := hgk.out
          go_roundg (n + 1 - (i + 1))
          case measure => omega
          case rel => exact ⟨i + 1, _, hi4.out, rfl, by go_num, hM5.out, hI5.out, hstep.out.symm.trans hLz.out⟩
    · have hzZ : z = Z := by
        rw [← hLz]
        cases hq : n + 1 - i with
        | zero => rfl
        | succ k => rw [spLoop, if_neg hlt]
      subst hzZ
      have hlt2 : i = z.inn.length := by omega
      have S6 := Lib.hid (sort_any p6 z.inn.length c6 (w.heap.size + 2) z.inn W2 (by omega) h6)
      have hbd : z.bd.length ≤ n := by have := hIz.len; rw [hsl.out] at this; omega
      have z2 : ¬ ((i : Int) < (z.inn.length : Int)) := by omega
      replace hlt2 := Lib.hid hlt2; replace hIz := Lib.hid hIz; replace hLz := Lib.hid hLz
      have hbl2 := Lib.hid hbl
      replace h6 := Lib.hid h6
      have h7' := Lib.hid h7
      replace hne := Lib.hid hne
      clear h7 hsn hbx hbl hlt
      go_wp2_with fail
      refine S6.out.mono ?_
      rintro r w5 ⟨rfl, l1, hp1, _, hi5, hg5⟩
      have h75 : Own 3 (w.heap.size + 2) w5 p7 z.bd.length c7 (asI z.bd) := h7'.out.grown hg5 fun x hx e => by
        cases p6 with
        | none => cases e
        | some y => simp at e; exact hne.out y x rfl hx e.symm
      have S7 := Lib.hid (sort_any p7 z.bd.length c7 (w.heap.size + 2) z.bd w5 (by omega) h75)
      have hbl5 : Hid (Below w.heap.size w w5) := hbl2.out.grown hg5 hBW fun k hk => by
        cases p6 with
        | none => cases hk
        | some y => simp at hk; subst hk; have := (h6.out.block y rfl).1; omega
      have h6b : Hid (∀ y, p6 = some y → y.block < w5.heap.size ∧ ∀ x, p7 = some x → x.block ≠ y.block) := fun y hy => ⟨Nat.lt_of_lt_of_le (h6.out.block y hy).2 hg5.size, fun x hx => (hne.out y x hy hx).symm⟩
      replace h75 := Lib.hid h75; replace hi5 := Lib.hid hi5; replace hp1 := Lib.hid hp1
      clear hg5 S6
      go_wp2_with fail
      refine S7.out.mono ?_
      rintro r w6 ⟨rfl, l2, hp2, _, hi6, hg6⟩
      have hi56 : Hid (IntsIn w6 p6 z.inn.length (asI l1)) := hi5.out.keep hg6.size fun b' o' e => hg6.block _ (h6b.out _ e).1 (fun e2 => by
        cases p7 with
        | none => cases e2
        | some x => simp at e2; exact (h6b.out _ e).2 x rfl e2.symm)
      have hbl6 : Hid (Below w.heap.size w w6) := hbl5.out.grown hg6 hbl5.out.size fun k hk => by
        cases p7 with
        | none => cases hk
        | some y => simp at hk; subst hk; have := (h75.out.block y rfl).1; omega
      have e1 : Hid (l1.length = z.inn.length) := hp1.out.length_eq
      have e2 : Hid (l2.length = z.bd.length) := hp2.length_eq
      replace hi6 := Lib.hid hi6; replace hp2 := Lib.hid hp2
      clear hg6 S7
      go_wp2_with fail
      go_ret2
      exact ⟨l1, l2, p6, c6, p7, c7, by rw [e1.out, e2.out]; rfl, hp1.out, hp2.out, by rw [e1.out]; exact hi56.out, by rw [e2.out]; exact hi6.out, hbl6.out, fun y hy => Nat.le_trans (by omega) (h6.out.block y hy).1, fun y hy => Nat.le_trans (by omega) (h75.out.block y hy).1⟩
end Go.Proofs.Ytefjliblaeadfaa
