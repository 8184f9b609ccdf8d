/- What table.play tells within a trick, if best and play tell right of one card less. -/
import Derived.Test.YtkakggagaplaiaaBrB
namespace Go.Proofs.Ytkakggagaplaiaa
open Go.RowKit Go.Maps

/-- a player's cards among the first i. -/
def hndI (d : List Nat) (who i : Nat) : List Nat := (List.range i).filter fun c => st d c == who
theorem hndI_succ (d : List Nat) (who i : Nat) : hndI d who (i + 1) = hndI d who i ++ if st d i = who then [i] else [] := by
  unfold hndI
  rw [List.range_succ, List.filter_append]
  congr 1
  by_cases h : st d i = who <;> simp [h]
theorem hndI_len (d : List Nat) (who i : Nat) : (hndI d who i).length ≤ i := by
  unfold hndI
  have := List.length_filter_le (fun c => st d c == who) (List.range i)
  simpa using this
/-- a card's value. -/
def cvS (s t ld : Nat) (d l : List Nat) (c : Nat) : Int :=
  if (l ++ [c]).length = 4 then (if (ld + wnS s (l ++ [c]) 4) % 4 % 2 = 0 then 1 else 0) + gS s t (d.set c 4) ((ld + wnS s (l ++ [c]) 4) % 4) [] else gS s t (d.set c 4) ld (l ++ [c])
theorem gS_succ (s t ld : Nat) (d l : List Nat) : gS s (t + 1) d ld l = ((hnd d ((ld + l.length) % 4)).filter (lgl (hnd d ((ld + l.length) % 4)) l)).foldl (fun top c => stp ((ld + l.length) % 4 % 2 == 0) top (cvS s t ld d l c)) (-1) := rfl
/-- the best of the first j cards. -/
def tpS (mx : Bool) (H : List Nat) (lg : Nat → Bool) (f : Nat → Int) (j : Nat) : Int := ((H.take j).filter lg).foldl (fun top c => stp mx top (f c)) (-1)
theorem tpS_succ (mx : Bool) (H : List Nat) (lg : Nat → Bool) (f : Nat → Int) {j : Nat} (h : j < H.length) : tpS mx H lg f (j + 1) = if lg (st H j) = true then stp mx (tpS mx H lg f j) (f (st H j)) else tpS mx H lg f j := by
  unfold tpS
  rw [take_snoc H j h, List.filter_append, List.foldl_append]
  by_cases e : lg (st H j) = true
  · rw [if_pos e]; simp [e]
  · rw [if_neg e]; simp [e]
theorem back_grown {w1 w2 : World} {db mb c : Nat} {d : List Nat} {x : Nat} (h : Nums w1 db 82 (asI d)) (hx : st d c = x) (hc : c < d.length) (hne : db ≠ mb) (hg : (w1.setCell ⟨db, c, none⟩ (.int .i64 4)).grownBy w2 (some mb)) :
    w1.grownBy (w2.setCell ⟨db, c, none⟩ (.int .i64 (x : Int))) (some mb) ∧ Nums (w2.setCell ⟨db, c, none⟩ (.int .i64 (x : Int))) db 82 (asI d) := by
  have h1 := h.set c 4
  have h2 : Nums w2 db 82 ((asI d).set c 4) := (hg.block db h1.lt (by intro e; injection e with e; exact hne e)).trans h1
  have h3 := h2.set c (x : Int)
  have e : (((asI d).set c 4).set c (x : Int)) = asI d := by
    rw [List.set_set]
    have : (x : Int) = (asI d)[c]?.getD 0 := by rw [asI_at, hx]
    rw [this]
    refine List.ext_getElem (by simp) fun i g1 g2 => ?_
    by_cases e : i = c
    · subst e; simp [List.getElem?_eq_getElem g2]
    · simp [Ne.symm e]
  rw [e] at h3
  refine ⟨⟨hg.os, hg.tape, hg.output, by simpa using hg.size, fun k hk hk2 => ?_⟩, h3⟩
  by_cases hkd : k = db
  · subst hkd; exact h3.trans h.symm
  · rw [Below.heap_setCell _ _ _ _ (by show k ≠ db; exact hkd), hg.block k (by simpa using hk) hk2, Below.heap_setCell _ _ _ _ (by show k ≠ db; exact hkd)]
theorem Rd_step {d l : List Nat} {ld q c : Nat} (hR : Rd d ld l q) (hq : 1 ≤ q) (hc4 : c < 52) (hc5 : st d c = (ld + l.length) % 4) : ∀ j, j < 4 → (hnd (d.set c 4) ((ld + j) % 4)).length = if j < l.length + 1 then q - 1 else q := by
  intro j hj
  have a := hR.cnt j hj
  have b := hnd_set hR.len hc4 (w := (ld + j) % 4) (by omega)
  have hll := hR.ll
  rw [hc5, a] at b
  by_cases hjl : j = l.length
  · rw [if_pos (by rw [hjl]), if_neg (by omega)] at b
    rw [if_pos (by omega)]; omega
  · rw [if_neg (by omega)] at b
    by_cases hjl2 : j < l.length
    · rw [if_pos hjl2] at b; rw [if_pos (by omega)]; omega
    · rw [if_neg hjl2] at b; rw [if_neg (by omega)]; omega
theorem next_of {s tb mb db t : Nat} {d0 : List Nat} (HB : BestAt s d0 tb mb db t) (HG : PlayAt s d0 tb mb db t) (hs5 : s < 5) (d : List Nat) (ld q : Nat) (l : List Nat) (hc : crd d = t + 1) (ht : t + 1 + l.length = 4 * q) (hq : 1 ≤ q)
    (hR : Rd d ld l q) (hD : DlB d0 d) (hld : ld < 4) (hl52 : ∀ i, i < l.length → st l i < 52) (x : Nat) (hx52 : x < 52) (hxw : st d x = (ld + l.length) % 4) (p : Option Addr) (c : Nat) (w : World) (hc2 : l.length + 1 ≤ c) (hp : p ≠ none) (hpd : ∀ a, p = some a → a.block ≠ db)
    (hx : IntsIn w p (l.length + 1) (asI (l ++ [x]))) (hW : Wd s d0 tb mb db (d.set x 4) w) :
    Calls Try.prog 70 #[.pointer (some ⟨tb, 0, none⟩), .pointer (some ⟨db, 0, none⟩), .int .i64 ld, .slice p (l.length + 1) c] w fun e w' => e = .returned (.int .i64 (cvS s t ld d l x)) ∧ MapOk (FB s d0) w' mb ∧ w.grownBy w' (some mb) := by
  have hll := hR.ll
  have hcs := Rd_step hR hq hx52 hxw
  have hcr : crd (d.set x 4) = t := by have := crd_set hD.len hx52 (show st d x < 4 by omega); omega
  have hl2 : (d.set x 4).length = 52 := by rw [List.length_set]; exact hD.len
  have hl1 : (l ++ [x]).length = l.length + 1 := by simp
  have hst : ∀ i, i < l.length + 1 → st (l ++ [x]) i < 52 := fun i hi => by
    by_cases e : i < l.length
    · rw [show st (l ++ [x]) i = st l i by unfold st; simp [List.getElem?_append_left e]]; exact hl52 i e
    · obtain rfl : i = l.length := by omega
      rw [show st (l ++ [x]) l.length = x by unfold st; simp]; exact hx52
  unfold cvS
  by_cases h3 : (l ++ [x]).length = 4
  · rw [if_pos h3]
    have h4 : l.length + 1 = 4 := by omega
    rw [h4] at hx hst ⊢
    refine playE_of HB hs5 (d.set x 4) ld (q - 1) (l ++ [x]) p c w hcr (by omega) (fun h1 => ⟨hl2, by simp, fun j hj => ?_⟩) (hD.set x) hld hst hx hW
    have a := hcs (((ld + wnS s (l ++ [x]) 4) % 4 + j + 4 - ld) % 4) (by omega)
    rw [show (ld + ((ld + wnS s (l ++ [x]) 4) % 4 + j + 4 - ld) % 4) % 4 = ((ld + wnS s (l ++ [x]) 4) % 4 + j) % 4 by omega, if_pos (by omega)] at a
    rw [a]; simp
  · rw [if_neg h3]
    have H := HG (d.set x 4) ld q (l ++ [x]) p c w hcr (by omega) hq ⟨hl2, by omega, fun j hj => by rw [hl1]; exact hcs j hj⟩ (hD.set x) hld (by rw [hl1]; exact hst) (by omega) ⟨fun h => absurd h hp, fun h => by simp at h⟩ (fun h => absurd h hp) hpd (by rw [hl1]; exact hx) hW
    rw [hl1] at H
    exact H
theorem stp_neg (mx : Bool) {T V : Int} (h : T < 0) : stp mx T V = V := by unfold stp; rw [if_pos (.inl h)]
theorem stp_up {who : Nat} {T V : Int} (hP : who % 2 = 0) (h : T < V) : stp (who % 2 == 0) T V = V := by unfold stp; rw [hP]; simp [h]
theorem stp_dn {who : Nat} {T V : Int} (hP : who % 2 = 1) (h : V < T) : stp (who % 2 == 0) T V = V := by unfold stp; rw [hP]; simp [h]
theorem stp_up' {who : Nat} {T V : Int} (hP : who % 2 = 0) (h0 : ¬ T < 0) (h : ¬ T < V) : stp (who % 2 == 0) T V = T := by unfold stp; rw [hP]; simp [h, h0]
theorem stp_dn' {who : Nat} {T V : Int} (hP : who % 2 = 1) (h0 : ¬ T < 0) (h : ¬ V < T) : stp (who % 2 == 0) T V = T := by unfold stp; rw [hP]; simp [h, h0]
theorem Wd.put {s tb mb db x : Nat} {d0 d : List Nat} {w : World} (h : Wd s d0 tb mb db d w) : Wd s d0 tb mb db (d.set x 4) (w.setCell ⟨db, x, none⟩ (.int .i64 4)) := by
  have h1 : tb ≠ db := by
    intro e
    have a := h.tab
    have b := h.nums
    unfold Nums at b
    rw [e, b] at a
    injection a with a
    injection a with _ a
    exact absurd a (by decide)
  have h2 : db ≠ mb := by
    intro e
    obtain ⟨ks, D, ⟨es, clock, hb, _⟩, _⟩ := h.map
    have := h.nums; unfold Nums at this; rw [e, hb] at this; cases this
  refine ⟨(Below.heap_setCell _ ⟨db, x, none⟩ _ _ (by show tb ≠ db; exact h1)).trans h.tab, ?_, h.map.grown (row := some db) ⟨rfl, rfl, rfl, by simp, fun k hk hne => Below.heap_setCell _ ⟨db, x, none⟩ _ _ (by show k ≠ db; intro e; exact hne (by rw [e]))⟩ (by intro e; injection e with e; exact h2 e.symm)⟩
  rw [asI_set]
  exact h.nums.set x 4
theorem ints_put {w : World} {db x n : Nat} {p : Option Addr} {xs : List Int} (h : IntsIn w p n xs) (hne : ∀ a, p = some a → a.block ≠ db) (v : Value) : IntsIn (w.setCell ⟨db, x, none⟩ v) p n xs :=
  ⟨h.1, fun j hj => by
    obtain ⟨b, o, e, hb, hc⟩ := h.2 j hj
    refine ⟨b, o, e, by simpa using hb, ?_⟩
    rw [← hc]
    exact World.cell?_of_block (a := ⟨b, o + j, none⟩) (Below.heap_setCell _ ⟨db, x, none⟩ _ _ (by show b ≠ db; exact hne _ e))⟩
set_option maxRecDepth 100000 in
set_option maxHeartbeats 8000000 in
theorem play_of {s tb mb db t : Nat} {d0 : List Nat} (HB : BestAt s d0 tb mb db t) (HG : PlayAt s d0 tb mb db t) (hs5 : s < 5) : PlayAt s d0 tb mb db (t + 1) := by
  intro d ld q l p c w hc ht hq hR hD hld hl52 hlc hpn hpc hpd hx hW
  have hll := hR.ll
  obtain ⟨who, hwho⟩ : ∃ who, who = (ld + l.length) % 4 := ⟨_, rfl⟩
  have hw4 : who < 4 := by omega
  rw [gS_succ, ← hwho]
  obtain ⟨G, hG⟩ : ∃ G, G = ((hnd d who).filter (lgl (hnd d who) l)).foldl (fun top c => stp (who % 2 == 0) top (cvS s t ld d l c)) (-1) := ⟨_, rfl⟩
  rw [← hG]
  have hG2 : Hid (G = tpS (who % 2 == 0) (hnd d who) (lgl (hnd d who) l) (cvS s t ld d l) (hnd d who).length) := by show _ = _; rw [hG]; unfold tpS; rw [List.take_of_length_le (Nat.le_refl _)]
  clear hG
  have hH : Hid (hnd d who = hndI d who 52) := rfl
  obtain ⟨n, hn⟩ : ∃ n, n = l.length := ⟨_, rfl⟩
  rw [← hn] at hlc hll hwho hx ⊢
  have q0 : ((ld : Int) + (n : Int)).tmod 4 = (who : Int) := by rw [Int.tmod_eq_emod_of_nonneg (by omega)]; omega
  have q1 : ((ld : Int) + (n : Int)) % 4 = (who : Int) := by omega
  have en : ((n : Int) == 4) = false := by simp; omega
  have hdl := hW.nums.lt
  have hcell : Hid (∀ W, Below w.heap.size w W → ∀ c, c < 52 → W.cell? ⟨db, c, none⟩ = some (.int .i64 (st d c : Nat))) := fun W h c hc => (h.cell (p := ⟨db, c, none⟩) hdl).trans (hW.nums.cellN (by rw [hD.len]; exact hc))
  have HN : Hid (∀ x, x < 52 → st d x = who → ∀ (p2 : Option Addr) (c2 : Nat) (W : World), n + 1 ≤ c2 → p2 ≠ none → (∀ a, p2 = some a → a.block ≠ db) → IntsIn W p2 (n + 1) (asI (l ++ [x])) → Wd s d0 tb mb db (d.set x 4) W →
      Calls Try.prog 70 #[.pointer (some ⟨tb, 0, none⟩), .pointer (some ⟨db, 0, none⟩), .int .i64 ld, .slice p2 (n + 1) c2] W fun e w' => e = .returned (.int .i64 (cvS s t ld d l x)) ∧ MapOk (FB s d0) w' mb ∧ W.grownBy w' (some mb)) := fun x h1 h2 p2 c2 W h3 h4 h4d h5 h6 => by
    rw [hn] at h3 h5 ⊢
    exact next_of HB HG hs5 d ld q l hc ht hq hR hD hld hl52 x h1 (by rw [h2, hwho, hn]) p2 c2 W h3 h4 h4d h5 h6
  have hdbm : Hid (db ≠ mb) := by
    intro e
    obtain ⟨ks, D, ⟨es, clock, hb, _⟩, _⟩ := hW.map
    have := hW.nums; unfold Nums at this; rw [e, hb] at this; cases this
  have hdlen : Hid (d.length = 52) := hD.len
  have hband : Hid (bits .and .i64 (who : Int) 1 = ((who % 2 : Nat) : Int)) := by
    show _ = _
    rcases (show who = 0 ∨ who = 1 ∨ who = 2 ∨ who = 3 by omega) with h | h | h | h <;> rw [h] <;> decide
  have hcs : (n = 0 ∧ l = [] ∧ p = none ∧ c = 0) ∨ (0 < n ∧ l ≠ [] ∧ ∃ bb oo, p = some ⟨bb, oo, none⟩ ∧ bb < w.heap.size ∧ w.cell? ⟨bb, oo, none⟩ = some (.int .i64 (st l 0 : Nat)) ∧ st l 0 < 52) := by
    rcases Nat.eq_zero_or_pos n with h | h
    · have hl0 : l = [] := List.eq_nil_of_length_eq_zero (by omega)
      exact .inl ⟨h, hl0, hpn.2 hl0, hpc (hpn.2 hl0)⟩
    · obtain ⟨bb, oo, e, hbb, hcc⟩ := hx.at h
      refine .inr ⟨h, fun e => by rw [e] at hn; simp at hn; omega, bb, oo, e, hbb, ?_, hl52 0 (by omega)⟩
      have := hcc 0 h
      rw [asI_at] at this; exact this
  have hHb : Hid (∀ y ∈ hnd d who, y < 52 ∧ st d y = who) := fun y hy => by
    unfold hnd at hy
    obtain ⟨h1, h2⟩ := List.mem_filter.1 hy
    exact ⟨by simpa using h1, by simpa using h2⟩
  replace hx := Lib.hid hx; replace hpd := Lib.hid hpd
  clear hR hD hl52 hpn hpc HB HG hc ht
  replace hW := Lib.hid hW; replace hn := Lib.hid hn; replace hwho := Lib.hid hwho
  go_enter Try.func70, Try.ntmps70
  go_upto_region 6 with fail
  go_wp2_with fail
  go_loopg [11, 45] 52 (fun gk hv iv W' => ∃ (j : Nat) (qq : Option Addr) (cc : Nat), j ≤ 52 ∧ gk = 52 - j ∧ iv = .int .i64 j ∧ hv = .slice qq (hndI d who j).length cc ∧ Hid (Own 3 w.heap.size W' qq (hndI d who j).length cc (asI (hndI d who j))) ∧ Hid (Below w.heap.size w W'))
  case atStart => exact ⟨0, none, 0, by omega, by omega, rfl, rfl, Own.nil _ _ _, Below.refl _ _⟩
  case round =>
    obtain ⟨j, qq, cc, hj, hgk, rfl, rfl, hO, hB⟩ := hrel
    obtain ⟨W1, rfl⟩ : ∃ W1 : World, W1 = wr := ⟨_, rfl⟩
    replace hgk := Lib.hid hgk
    by_cases hlt : j < 52
    · have c0 := hcell.out W1 hB.out j hlt
      have hms := Lib.hid (hndI_succ d who j)
      have hln := hndI_len d who j
      have i1 : (j : Int) < 52 := by omega
      have i2 : (0 : Int) ≤ (j : Int) := by omega
      generalize hndI d who j = L at *
      generalize st d j = x at *
      by_cases hxw : x = who
      · subst hxw
        rw [if_pos rfl] at hms
        have hzs := Lib.hid hB.out.size
        go_wp2_with fail
        go_quiet (fail)
        have hO2 : Hid (Own 3 w.heap.size (W1.drewN nq) qq L.length cc (asI L)) := hO.out
        have hB2 : Hid (Below w.heap.size w (W1.drewN nq)) := below_drewN hB.out _
        generalize W1.drewN nq = W2 at *
        have hzs2 := Lib.hid hB2.out.size
        have hqb := Lib.hid hO2.out.rowb
        clear hO hB c0
        go_wp2_with (at_builtin; refine wp_append1 intG W2 rfl _ _ rfl w.heap.size qq L.length cc (asI L) rfl hO2.out (j : Int) rfl (by omega) hzs2.out ?_; intro q2 c2 w2 hO3 hg3 _ hz3; replace hO3 := Lib.hid hO3; replace hg3 := Lib.hid hg3; replace hz3 := Lib.hid hz3)
        have hgk := hgk.out
        go_roundg (52 - (j + 1))
        case measure => omega
        case rel =>
          refine ⟨j + 1, q2, c2, by omega, rfl, by go_num, by rw [hms.out, List.length_append]; rfl, ?_, hB2.out.grown hg3.out hzs2.out hqb.out⟩
          have e : asI (hndI d x (j + 1)) = asI L ++ [(j : Int)] := by rw [hms.out, asI_app]; rfl
          have e2 : (hndI d x (j + 1)).length = L.length + 1 := by rw [hms.out]; simp
          rw [e, e2]; exact hO3.out
      · have eb : ((x : Int) == (who : Int)) = false := by simp; omega
        rw [if_neg hxw, List.append_nil] at hms
        go_wp2_with fail
        go_quiet (fail)
        go_wp2_with fail
        have hgk := hgk.out
        go_roundg (52 - (j + 1))
        case measure => omega
        case rel => exact ⟨j + 1, qq, cc, by omega, rfl, by go_num, by rw [hms.out], by rw [hms.out]; exact hO, below_drewN hB.out _⟩
    · obtain rfl : j = 52 := by omega
      rw [← hH.out] at hO ⊢
      have hHl : (hnd d who).length ≤ 52 := by rw [hH.out]; exact hndI_len d who 52
      have hOi := hO.out.in
      have hW1 := hW.out.below hB.out
      have hg1 := Lib.hid (grown_below hB.out (some mb))
      have hx1 := hx.out.below hB.out
      clear hH hcell
      generalize hnd d who = H at *
      replace hO := Lib.hid hO
      rcases hcs with ⟨rfl, hl0, rfl, rfl⟩ | ⟨hn0, hl0, bb, oo, rfl, hbb, hcc, hy52⟩
      · replace hl0 := Lib.hid hl0; replace hOi := Lib.hid hOi; replace hW1 := Lib.hid hW1; replace hx1 := Lib.hid hx1
        go_upto_region 17 with fail
        go_loopg [15, 67] H.length (fun gk tv iv W' => ∃ j : Nat, j ≤ H.length ∧ gk = H.length - j ∧ iv = .int .i64 j ∧ tv = .int .i64 (tpS (who % 2 == 0) H (lgl H l) (cvS s t ld d l) j) ∧ Hid (Wd s d0 tb mb db d W') ∧ Hid (W1.grownBy W' (some mb)))
        case atStart => exact ⟨0, by omega, by omega, rfl, rfl, hW1.out, ⟨rfl, rfl, rfl, Nat.le_refl _, fun _ _ _ => rfl⟩⟩
        case round =>
          obtain ⟨j, hj, hgk, rfl, rfl, hW2, hg2⟩ := hrel
          obtain ⟨W2, rfl⟩ : ∃ W2 : World, W2 = wr := ⟨_, rfl⟩
          replace hgk := Lib.hid hgk
          by_cases hlt : j < H.length
          · have hH2 := ints_grown hOi.out hW1.out.map hg2.out
            have hx2 := Lib.hid (ints_grown hx1.out hW1.out.map hg2.out)
            obtain ⟨b3, o3, rfl, hb3, hc3⟩ := hH2.at (by omega)
            have c0 := hc3 j hlt
            rw [asI_at] at c0
            have hxb := hHb.out _ (st_mem hlt)
            have hsuc := Lib.hid (tpS_succ (who % 2 == 0) H (lgl H l) (cvS s t ld d l) hlt)
            obtain ⟨x, hxe⟩ : ∃ x, x = st H j := ⟨_, rfl⟩
            rw [← hxe] at c0 hxb hsuc
            have HMy := Lib.hid (bmay_any (some ⟨b3, o3, none⟩) H.length cc x (-1) H l W2 (by omega) hH2 (.inl ⟨hl0.out, rfl⟩))
            obtain ⟨T, hT⟩ : ∃ T, T = tpS (who % 2 == 0) H (lgl H l) (cvS s t ld d l) j := ⟨_, rfl⟩
            rw [← hT] at hsuc ⊢
            have hx52 := hxb.1
            have hxw := Lib.hid hxb.2
            replace hxe := Lib.hid hxe; replace hT := Lib.hid hT
            clear hH2 hc3 hxb
            cases hlg : lgl H l x with
            | false =>
              rw [hlg] at HMy hsuc
              replace hlg := Lib.hid hlg
              go_wp2_with fail
              refine HMy.out.mono ?_
              rintro e w3 ⟨rfl, hB3⟩
              have hW3 := Lib.hid (hW2.out.below hB3)
              have hg3 := Lib.hid (hg2.out.trans (grown_below hB3 (some mb)))
              clear hB3 HMy c0
              go_wp2_with fail
              have hgk := hgk.out
              go_roundg (H.length - (j + 1))
              case measure => omega
              case rel => exact ⟨j + 1, by omega, rfl, by go_num, by rw [hsuc.out]; rfl, hW3.out, hg3.out⟩
            | true =>
              rw [hlg, if_pos rfl] at hsuc
              rw [hlg] at HMy
              have HX := Lib.hid (HN.out x hx52 hxw.out)
              generalize cvS s t ld d l x = V at *
              replace hlg := Lib.hid hlg
              have i5 : (x : Int) < 52 := by omega
              have i6 : (0 : Int) ≤ (x : Int) := by omega
              go_wp2_with fail
              refine HMy.out.mono ?_
              rintro e w3 ⟨rfl, hB3⟩
              have hW3 := hW2.out.below hB3
              have hg3 := Lib.hid (hg2.out.trans (grown_below hB3 (some mb)))
              have k3 := hW3.nums.cellN (i := x) (by rw [hdlen.out]; exact hx52)
              have f3 := hW3.nums.free x
              have hx3 := hx2.out.below hB3
              have hW4 := hW3.put (x := x)
              have hx4 : IntsIn (w3.setCell ⟨db, x, none⟩ (.int .i64 4)) none 0 (asI l) := ints_put hx3 (by
                intro a ha
                cases ha) _
              replace hW3 := Lib.hid hW3; replace hW4 := Lib.hid hW4; replace hx4 := Lib.hid hx4
              clear hB3 HMy c0 hx3
              go_upto_region 21 with fail
              obtain ⟨W4, hW4e⟩ : ∃ W4, W4 = w3.setCell ⟨db, x, none⟩ (.int .i64 4) := ⟨_, rfl⟩
              rw [← hW4e] at hW4 hx4 ⊢
              replace hW4e := Lib.hid hW4e
              go_wp2_with (at_builtin; refine wp_append_full intG W4 rfl _ _ rfl none 0 (asI l) rfl hx4.out (by intro h; first | rfl | cases h) (x : Int) _ rfl rfl (by omega) ?_; intro p5 c5 w5 hc5 hp5 hp5s hx5 hB5; replace hp5s := Lib.hid hp5s; replace hx5 := Lib.hid hx5; replace hB5 := Lib.hid hB5; replace hp5 := Lib.hid hp5; replace hc5 := Lib.hid hc5)
              have hz4 : db < W4.heap.size := hW4.out.nums.lt
              have HC := Lib.hid (HX.out p5 c5 w5 hc5.out hp5.out (fun a ha => by have := hp5s.out a ha; omega) (by have e : asI (l ++ [x]) = asI l ++ [(x : Int)] := (by rw [asI_app]; rfl); rw [e]; exact hx5.out) (hW4.out.below hB5.out))
              go_wp2_with fail
              refine HC.out.mono ?_
              rintro e w6 ⟨rfl, hM6, hg6⟩
              have hgA := (grown_below hB5.out (some mb)).trans hg6
              have N6 : Nums w6 db 82 (asI (d.set x 4)) := (hgA.block db hz4 (by intro e; injection e with e; exact hdbm.out e)).trans hW4.out.nums
              have k6 := N6.cellN (i := x) (by rw [List.length_set, hdlen.out]; exact hx52)
              have f6 := N6.free x
              rw [hW4e.out] at hgA
              have hbk := back_grown hW3.out.nums hxw.out (by rw [hdlen.out]; exact hx52) hdbm.out hgA
              have hM7 : MapOk (FB s d0) (w6.setCell ⟨db, x, none⟩ (.int .i64 (who : Int))) mb := hM6.grown (row := some db) ⟨rfl, rfl, rfl, by simp, fun k hk hne => Below.heap_setCell _ ⟨db, x, none⟩ _ _ (by show k ≠ db; intro e; exact hne (by rw [e]))⟩ (by intro e; injection e with e; exact hdbm.out e.symm)
              have hW7 := Lib.hid (hW3.out.grown hbk.1 hM7)
              have hg7 := Lib.hid (hg3.out.trans hbk.1)
              clear hgA hg6 hM6 hM7 hbk N6 HC HX hx4 hx5 hB5 hp5 hc5 hp5s hW4 hW4e k3 f3 hz4
              go_upto_region 23 with fail
              generalize w6.setCell ⟨db, x, none⟩ (.int .i64 (who : Int)) = W7 at *
              clear k6 f6
              by_cases h1 : T < 0
              · have hst := Lib.hid (hsuc.out.trans (stp_neg _ h1))
                go_wp2_with fail
                have hgk := hgk.out
                go_roundg (H.length - (j + 1))
                case measure => omega
                case rel => exact ⟨j + 1, by omega, rfl, by go_num, by rw [hst.out], hW7.out, hg7.out⟩
              · have d1 : decide (T < 0) = false := decide_eq_false h1
                rcases Nat.mod_two_eq_zero_or_one who with hP | hP
                · have hba : bits .and .i64 (who : Int) 1 = 0 := by rw [hband.out, hP]; rfl
                  by_cases h2 : T < V
                  · have hst := Lib.hid (hsuc.out.trans (stp_up hP h2))
                    replace hP := Lib.hid hP
                    go_wp2_with fail
                    have hgk := hgk.out
                    go_roundg (H.length - (j + 1))
                    case measure => omega
                    case rel => exact ⟨j + 1, by omega, rfl, by go_num, by rw [hst.out], hW7.out, hg7.out⟩
                  · have hst := Lib.hid (hsuc.out.trans (stp_up' hP h1 h2))
                    have d2 : decide (T < V) = false := decide_eq_false h2
                    replace hP := Lib.hid hP
                    go_wp2_with fail
                    have hgk := hgk.out
                    go_roundg (H.length - (j + 1))
                    case measure => omega
                    case rel => exact ⟨j + 1, by omega, rfl, by go_num, by rw [hst.out], hW7.out, hg7.out⟩
                · have hba : bits .and .i64 (who : Int) 1 = 1 := by rw [hband.out, hP]; rfl
                  by_cases h2 : V < T
                  · have hst := Lib.hid (hsuc.out.trans (stp_dn hP h2))
                    replace hP := Lib.hid hP
                    go_wp2_with fail
                    have hgk := hgk.out
                    go_roundg (H.length - (j + 1))
                    case measure => omega
                    case rel => exact ⟨j + 1, by omega, rfl, by go_num, by rw [hst.out], hW7.out, hg7.out⟩
                  · have hst := Lib.hid (hsuc.out.trans (stp_dn' hP h1 h2))
                    have d2 : decide (V < T) = false := decide_eq_false h2
                    replace hP := Lib.hid hP
                    go_wp2_with fail
                    have hgk := hgk.out
                    go_roundg (H.length - (j + 1))
                    case measure => omega
                    case rel => exact ⟨j + 1, by omega, rfl, by go_num, by rw [hst.out], hW7.out, hg7.out⟩
          · obtain rfl : j = H.length := by omega
            rw [← hG2.out]
            have hgf := Lib.hid (hg1.out.trans hg2.out)
            go_wp2_with fail
            go_ret
            exact ⟨rfl, hW2.out.map, hgf.out⟩
      · have hc0 := (hB.out.cell (p := ⟨bb, oo, none⟩) hbb).trans hcc
        replace hl0 := Lib.hid hl0; replace hy52 := Lib.hid hy52
        have i0 : (0 : Int) < (n : Int) := by omega
        replace hOi := Lib.hid hOi; replace hW1 := Lib.hid hW1; replace hx1 := Lib.hid hx1
        go_upto_region 17 with fail
        go_loopg [15, 67] H.length (fun gk tv iv W' => ∃ j : Nat, j ≤ H.length ∧ gk = H.length - j ∧ iv = .int .i64 j ∧ tv = .int .i64 (tpS (who % 2 == 0) H (lgl H l) (cvS s t ld d l) j) ∧ Hid (Wd s d0 tb mb db d W') ∧ Hid (W1.grownBy W' (some mb)))
        case atStart => exact ⟨0, by omega, by omega, rfl, rfl, hW1.out, ⟨rfl, rfl, rfl, Nat.le_refl _, fun _ _ _ => rfl⟩⟩
        case round =>
          obtain ⟨j, hj, hgk, rfl, rfl, hW2, hg2⟩ := hrel
          obtain ⟨W2, rfl⟩ : ∃ W2 : World, W2 = wr := ⟨_, rfl⟩
          replace hgk := Lib.hid hgk
          by_cases hlt : j < H.length
          · have hH2 := ints_grown hOi.out hW1.out.map hg2.out
            have hx2 := Lib.hid (ints_grown hx1.out hW1.out.map hg2.out)
            obtain ⟨b3, o3, rfl, hb3, hc3⟩ := hH2.at (by omega)
            have c0 := hc3 j hlt
            rw [asI_at] at c0
            have hxb := hHb.out _ (st_mem hlt)
            have hsuc := Lib.hid (tpS_succ (who % 2 == 0) H (lgl H l) (cvS s t ld d l) hlt)
            obtain ⟨x, hxe⟩ : ∃ x, x = st H j := ⟨_, rfl⟩
            rw [← hxe] at c0 hxb hsuc
            have HMy := Lib.hid (bmay_any (some ⟨b3, o3, none⟩) H.length cc x ((st l 0 : Nat) : Int) H l W2 (by omega) hH2 (.inr ⟨hl0.out, rfl, hy52.out⟩))
            obtain ⟨T, hT⟩ : ∃ T, T = tpS (who % 2 == 0) H (lgl H l) (cvS s t ld d l) j := ⟨_, rfl⟩
            rw [← hT] at hsuc ⊢
            have hx52 := hxb.1
            have hxw := Lib.hid hxb.2
            replace hxe := Lib.hid hxe; replace hT := Lib.hid hT
            clear hH2 hc3 hxb
            cases hlg : lgl H l x with
            | false =>
              rw [hlg] at HMy hsuc
              replace hlg := Lib.hid hlg
              go_wp2_with fail
              refine HMy.out.mono ?_
              rintro e w3 ⟨rfl, hB3⟩
              have hW3 := Lib.hid (hW2.out.below hB3)
              have hg3 := Lib.hid (hg2.out.trans (grown_below hB3 (some mb)))
              clear hB3 HMy c0
              go_wp2_with fail
              have hgk := hgk.out
              go_roundg (H.length - (j + 1))
              case measure => omega
              case rel => exact ⟨j + 1, by omega, rfl, by go_num, by rw [hsuc.out]; rfl, hW3.out, hg3.out⟩
            | true =>
              rw [hlg, if_pos rfl] at hsuc
              rw [hlg] at HMy
              have HX := Lib.hid (HN.out x hx52 hxw.out)
              generalize cvS s t ld d l x = V at *
              replace hlg := Lib.hid hlg
              have i5 : (x : Int) < 52 := by omega
              have i6 : (0 : Int) ≤ (x : Int) := by omega
              go_wp2_with fail
              refine HMy.out.mono ?_
              rintro e w3 ⟨rfl, hB3⟩
              have hW3 := hW2.out.below hB3
              have hg3 := Lib.hid (hg2.out.trans (grown_below hB3 (some mb)))
              have k3 := hW3.nums.cellN (i := x) (by rw [hdlen.out]; exact hx52)
              have f3 := hW3.nums.free x
              have hx3 := hx2.out.below hB3
              have hW4 := hW3.put (x := x)
              have hx4 : IntsIn (w3.setCell ⟨db, x, none⟩ (.int .i64 4)) (some ⟨bb, oo, none⟩) n (asI l) := ints_put hx3 (by
                intro a ha
                exact hpd.out a ha) _
              replace hW3 := Lib.hid hW3; replace hW4 := Lib.hid hW4; replace hx4 := Lib.hid hx4
              clear hB3 HMy c0 hx3
              go_upto_region 21 with fail
              obtain ⟨W4, hW4e⟩ : ∃ W4, W4 = w3.setCell ⟨db, x, none⟩ (.int .i64 4) := ⟨_, rfl⟩
              rw [← hW4e] at hW4 hx4 ⊢
              replace hW4e := Lib.hid hW4e
              go_wp2_with (at_builtin; refine wp_append_full intG W4 rfl _ _ rfl (some ⟨bb, oo, none⟩) n (asI l) rfl hx4.out (by intro h; first | rfl | cases h) (x : Int) _ rfl rfl (by omega) ?_; intro p5 c5 w5 hc5 hp5 hp5s hx5 hB5; replace hp5s := Lib.hid hp5s; replace hx5 := Lib.hid hx5; replace hB5 := Lib.hid hB5; replace hp5 := Lib.hid hp5; replace hc5 := Lib.hid hc5)
              have hz4 : db < W4.heap.size := hW4.out.nums.lt
              have HC := Lib.hid (HX.out p5 c5 w5 hc5.out hp5.out (fun a ha => by have := hp5s.out a ha; omega) (by have e : asI (l ++ [x]) = asI l ++ [(x : Int)] := (by rw [asI_app]; rfl); rw [e]; exact hx5.out) (hW4.out.below hB5.out))
              go_wp2_with fail
              refine HC.out.mono ?_
              rintro e w6 ⟨rfl, hM6, hg6⟩
              have hgA := (grown_below hB5.out (some mb)).trans hg6
              have N6 : Nums w6 db 82 (asI (d.set x 4)) := (hgA.block db hz4 (by intro e; injection e with e; exact hdbm.out e)).trans hW4.out.nums
              have k6 := N6.cellN (i := x) (by rw [List.length_set, hdlen.out]; exact hx52)
              have f6 := N6.free x
              rw [hW4e.out] at hgA
              have hbk := back_grown hW3.out.nums hxw.out (by rw [hdlen.out]; exact hx52) hdbm.out hgA
              have hM7 : MapOk (FB s d0) (w6.setCell ⟨db, x, none⟩ (.int .i64 (who : Int))) mb := hM6.grown (row := some db) ⟨rfl, rfl, rfl, by simp, fun k hk hne => Below.heap_setCell _ ⟨db, x, none⟩ _ _ (by show k ≠ db; intro e; exact hne (by rw [e]))⟩ (by intro e; injection e with e; exact hdbm.out e.symm)
              have hW7 := Lib.hid (hW3.out.grown hbk.1 hM7)
              have hg7 := Lib.hid (hg3.out.trans hbk.1)
              clear hgA hg6 hM6 hM7 hbk N6 HC HX hx4 hx5 hB5 hp5 hc5 hp5s hW4 hW4e k3 f3 hz4
              go_upto_region 23 with fail
              generalize w6.setCell ⟨db, x, none⟩ (.int .i64 (who : Int)) = W7 at *
              clear k6 f6
              by_cases h1 : T < 0
              · have hst := Lib.hid (hsuc.out.trans (stp_neg _ h1))
                go_wp2_with fail
                have hgk := hgk.out
                go_roundg (H.length - (j + 1))
                case measure => omega
                case rel => exact ⟨j + 1, by omega, rfl, by go_num, by rw [hst.out], hW7.out, hg7.out⟩
              · have d1 : decide (T < 0) = false := decide_eq_false h1
                rcases Nat.mod_two_eq_zero_or_one who with hP | hP
                · have hba : bits .and .i64 (who : Int) 1 = 0 := by rw [hband.out, hP]; rfl
                  by_cases h2 : T < V
                  · have hst := Lib.hid (hsuc.out.trans (stp_up hP h2))
                    replace hP := Lib.hid hP
                    go_wp2_with fail
                    have hgk := hgk.out
                    go_roundg (H.length - (j + 1))
                    case measure => omega
                    case rel => exact ⟨j + 1, by omega, rfl, by go_num, by rw [hst.out], hW7.out, hg7.out⟩
                  · have hst := Lib.hid (hsuc.out.trans (stp_up' hP h1 h2))
                    have d2 : decide (T < V) = false := decide_eq_false h2
                    replace hP := Lib.hid hP
                    go_wp2_with fail
                    have hgk := hgk.out
                    go_roundg (H.length - (j + 1))
                    case measure => omega
                    case rel => exact ⟨j + 1, by omega, rfl, by go_num, by rw [hst.out], hW7.out, hg7.out⟩
                · have hba : bits .and .i64 (who : Int) 1 = 1 := by rw [hband.out, hP]; rfl
                  by_cases h2 : V < T
                  · have hst := Lib.hid (hsuc.out.trans (stp_dn hP h2))
                    replace hP := Lib.hid hP
                    go_wp2_with fail
                    have hgk := hgk.out
                    go_roundg (H.length - (j + 1))
                    case measure => omega
                    case rel => exact ⟨j + 1, by omega, rfl, by go_num, by rw [hst.out], hW7.out, hg7.out⟩
                  · have hst := Lib.hid (hsuc.out.trans (stp_dn' hP h1 h2))
                    have d2 : decide (V < T) = false := decide_eq_false h2
                    replace hP := Lib.hid hP
                    go_wp2_with fail
                    have hgk := hgk.out
                    go_roundg (H.length - (j + 1))
                    case measure => omega
                    case rel => exact ⟨j + 1, by omega, rfl, by go_num, by rw [hst.out], hW7.out, hg7.out⟩
          · obtain rfl : j = H.length := by omega
            rw [← hG2.out]
            have hgf := Lib.hid (hg1.out.trans hg2.out)
            go_wp2_with fail
            go_ret
            exact ⟨rfl, hW2.out.map, hgf.out⟩
theorem both_at {s tb mb db : Nat} {d0 : List Nat} (hs5 : s < 5) : ∀ t, BestAt s d0 tb mb db t ∧ PlayAt s d0 tb mb db t
  | 0 => by
    have hp : PlayAt s d0 tb mb db 0 := fun d ld q l p c w hc ht hq hR => by have := hR.ll; omega
    exact ⟨best_of fun h => hp, hp⟩
  | t + 1 => by
    obtain ⟨h1, h2⟩ := both_at (s := s) (tb := tb) (mb := mb) (db := db) (d0 := d0) hs5 t
    have hp := play_of h1 h2 hs5
    exact ⟨best_of fun _ => hp, hp⟩
end Go.Proofs.Ytkakggagaplaiaa
