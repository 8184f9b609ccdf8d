/- The walk of gameroomkeep.BridgeTurns; conditions: the numbers fit their kind. -/
import Derived.Test.YtkakggagaplaiaaBrL
import Derived.Test.YtkakggagaplaiaaStepA
namespace Go.Proofs.Ytkakggagaplaiaa
open Go.RowKit

theorem el22 : ElT Try.prog 49 22 (.slice none 0 0) 1 24 := ⟨by kernel_rfl, by kernel_rfl, rfl, by omega, by omega⟩
theorem step_append4 {ops : Array Oper} {o : Oper} {a : Act} {K : Act → World → Prop} {Q : Exit → Act → World → Prop} {EE : Prop} (w : World) (hgd : o.guard = none) (s x : Operand)
    (hop : o.op = .call { callee := .builtin .append, args := #[s, x], argTypes := #[49, 49] }) (hs : a.eval s = .slice none 0 0) (sz : Nat) (v0 v1 v2 v3 : Value) (h0 : v0.oneCell' = true) (h1 : v1.oneCell' = true) (h2 : v2.oneCell' = true) (h3 : v3.oneCell' = true)
    (hx : a.eval x = .slice (some ⟨sz, 0, none⟩) 4 4) (hc : w.heap[sz]? = some (.cells #[v0, v1, v2, v3] 22)) (B : Nat) (hB : B ≤ w.heap.size)
    (hK : ∀ p' c' w', OwnC 22 1 B w' p' 4 c' [v0, v1, v2, v3] → w.grownBy w' none → K (a.put o.dst (.slice p' 4 c')) w') :
    if Region.wanted o (yielded ops a.tmps) = true then Oper.wp Try.prog o a w K Q else EE := by
  obtain ⟨i0, hi, hz0, hz1, hz2⟩ := info_parts el22.info
  refine step_append_lies w hgd s x 49 hop B 22 i0 (.slice none 0 0) 1 24 el22.under hi hz0 hz1 hz2 rfl (by omega) (.slice none 0 0) 0 [] hs (World.ownsRow_nil w B 22 1) ⟨sz, 0, none⟩ 4 4 [v0, v1, v2, v3] hx rfl
    (fun j u hj => by
      rw [Addr.add_lit]
      match j, hj with
      | 0, hj => simp at hj; subst hj; exact wcell (cs := [_, _, _, _]) hc 0
      | 1, hj => simp at hj; subst hj; exact wcell (cs := [_, _, _, _]) hc 1
      | 2, hj => simp at hj; subst hj; exact wcell (cs := [_, _, _, _]) hc 2
      | 3, hj => simp at hj; subst hj; exact wcell (cs := [_, _, _, _]) hc 3)
    (by intro u hu; simp at hu; rcases hu with rfl | rfl | rfl | rfl <;> assumption) (by omega) (by unfold maxLen; omega) (by omega) hB w.heap.size rfl ?_
  intro g cap w' g1 g2 g3 g4
  exact hK _ _ _ (by simpa [OwnC] using g1) ⟨g2.os, g2.tape, g2.output, g2.size, fun k hk _ => g2.block k hk (by simp [Value.ownBlock])⟩
/-- what a region with one new block and an append keeps. -/
theorem moved_below {W w6 : World} {o : Obj} (h : (W.alloc o).drew.grownBy w6 none) : Below W.heap.size W w6 :=
  ⟨h.os, h.tape, h.output, Nat.le_trans (Nat.le_trans (by simp) (Nat.le_refl (W.alloc o).heap.size)) h.size, fun k hk => (h.block k (Nat.lt_of_lt_of_le hk (by simp [World.drew])) (by simp)).trans (Below.heap_alloc W o k hk)⟩
theorem hands_H4 {w : World} {g o n co b : Nat} {O : List Nat} (hg : g < w.heap.size) (hr : ∀ i, i < 4 → w.cell? ⟨g, i, none⟩ = some (hv b o n co i)) (hx : IntsIn w (some ⟨b, o, none⟩) (4 * n) (asI O)) :
    H4 w g 0 n (fun _ => b) (fun i => o + i * n) (fun i => co - i * n) (hL O n) :=
  ⟨fun i hi => ⟨hg, by rw [Nat.zero_add]; exact hr i hi⟩, fun i hi => by
    have h1 : i * n + n ≤ 4 * n := by
      have : (i + 1) * n ≤ 4 * n := Nat.mul_le_mul_right _ (by omega)
      rw [Nat.add_mul, Nat.one_mul] at this; exact this
    have h2 := hx.part (i * n) (i * n + n) (by omega) h1 (some ⟨b, o + i * n, none⟩) (fun _ => by simp [Addr.add])
    have e : ((asI O).take (i * n + n)).drop (i * n) = asI (hL O n i) := by
      unfold hL asI
      rw [← List.map_take, ← List.map_drop, List.take_drop]
    rw [e, Nat.add_sub_cancel_left] at h2
    exact h2⟩
set_option maxRecDepth 100000 in
set_option maxHeartbeats 16000000 in
theorem turns_any (p : Option Addr) (nr c0 : Nat) (zs : List Int) (za zb zc : Int) (w : World) (hr : nr ≤ 9223372036854775807) (hx : IntsIn w p nr zs) (hz : ∀ j, j < nr → -9223372036854775808 ≤ zs[j]?.getD 0 ∧ zs[j]?.getD 0 ≤ 9223372036854775807)
    (ha : -9223372036854775808 ≤ za ∧ za ≤ 9223372036854775807) (hb : -9223372036854775808 ≤ zb ∧ zb ≤ 9223372036854775807) (hc : -9223372036854775808 ≤ zc ∧ zc ≤ 9223372036854775807) :
    Calls Try.prog 7 #[.slice p nr c0, .int .i64 za, .int .i64 zb, .int .i64 zc] w fun e w' => e = .returned (.bool true) ∧ Below w.heap.size w w' := by
  have PA := Lib.hid (fun W => picked_any za 3 W ha.1 ha.2 (by omega) (by omega) 3 rfl)
  have PB := Lib.hid (fun W => picked_any zb 5 W hb.1 hb.2 (by omega) (by omega) 5 rfl)
  have PC := Lib.hid (fun W => picked_any zc 4 W hc.1 hc.2 (by omega) (by omega) 4 rfl)
  have la := pick_lt za 3 (by omega)
  have lb := pick_lt zb 5 (by omega)
  have lc := pick_lt zc 4 (by omega)
  clear ha hb hc
  generalize pick za 3 = m0 at *
  generalize pick zb 5 = sS at *
  generalize pick zc 4 = ld at *
  obtain ⟨n, hn⟩ : ∃ n, n = 1 + m0 := ⟨_, rfl⟩
  have en : (1 : Int) + (m0 : Int) = (n : Int) := by omega
  obtain ⟨k, hk⟩ : ∃ k, k = 4 * n := ⟨_, rfl⟩
  have e4 : (4 : Int) * (n : Int) = (k : Int) := by omega
  have hn3 : n ≤ 3 := by omega
  have hn1 : 1 ≤ n := by omega
  have HH := Lib.hid (hand_any p nr c0 k zs w (by omega) hr hx hz)
  replace hk := Lib.hid hk
  clear hx hz
  replace hn := Lib.hid hn
  go_enter Try.func7, Try.ntmps7
  go_wp2_with fail
  refine (PA.out _).mono ?_
  rintro e w' ⟨rfl, rfl⟩
  go_wp2_with fail
  refine HH.out.mono ?_
  rintro e w1 ⟨q, co, O, rfl, hO, hl, hd, h52, hB1⟩
  have hcap := OwnC.cap (k := 1) hO
  have hk0 : 0 < k := by have := hk.out; omega
  obtain ⟨b, o, rfl, hbb, hcc⟩ := hO.in.at hk0
  have hx1 := Lib.hid hO.in
  have hB1s := Lib.hid hB1.size
  replace hB1 := Lib.hid hB1; replace hO := Lib.hid hO
  clear hcc HH
  go_wp2_with fail
  go_loopg [11, 13] 4 (fun gk rv iv W' => ∃ (j : Nat) (q : Option Addr) (c : Nat), j ≤ 4 ∧ gk = 4 - j ∧ iv = .int .i64 j ∧ rv = .slice q j c ∧ Hid (OwnC 22 1 w1.heap.size W' q j c (hvs b o n co j)) ∧ Hid (Below w1.heap.size w1 W'))
  case atStart => exact ⟨0, none, 0, by omega, by omega, rfl, rfl, OwnC.nil _ _ _ _, Below.refl _ _⟩
  case round =>
    obtain ⟨j, q, c, hj, hgk, rfl, rfl, hR, hB2⟩ := hrel
    obtain ⟨W1, rfl⟩ : ∃ W1 : World, W1 = wr := ⟨_, rfl⟩
    replace hgk := Lib.hid hgk
    by_cases hlt : j < 4
    · obtain ⟨t, ht⟩ : ∃ t, t = j * n := ⟨_, rfl⟩
      have e5 : (j : Int) * (n : Int) = (t : Int) := by rw [ht]; push_cast; rfl
      have htb : t + n ≤ k := by
        have : (j + 1) * n ≤ 4 * n := Nat.mul_le_mul_right _ (by omega)
        rw [Nat.add_mul, Nat.one_mul] at this
        rw [hk.out, ht]; exact this
      have i1 : (t : Int) + (n : Int) ≤ (co : Int) := by omega
      have i2 : (t : Int) ≤ (t : Int) + (n : Int) := by omega
      have i3 : (0 : Int) ≤ (t : Int) := by omega
      have hk12 : k ≤ 12 := by have := hk.out; omega
      have hsz := Lib.hid hB2.out.size
      replace ht := Lib.hid ht
      have hqb : Hid (∀ x, q.map (·.block) = some x → w1.heap.size ≤ x) := fun x hx => by
        cases q with
        | none => cases hx
        | some a => simp at hx; subst hx; exact (OwnC.block hR.out a rfl).1
      go_wp2_with (at_builtin; refine wp_appendVs el22 W1 rfl _ _ rfl w1.heap.size q j c (hvs b o n co j) rfl hR.out #[.slice (some ⟨b, o + t, none⟩) n (co - t)] rfl rfl W1.heap.size rfl rfl (by omega) hsz.out ?_; intro q2 c2 w2 hR2 hg2 _ hz2; replace hR2 := Lib.hid hR2; replace hg2 := Lib.hid hg2; replace hz2 := Lib.hid hz2)
      have hgk := hgk.out
      go_roundg (4 - (j + 1))
      case measure => omega
      case rel => exact ⟨j + 1, q2, c2, by omega, rfl, by go_num, rfl, by rw [hvs, hv, ← ht.out]; exact hR2.out, ⟨by rw [hg2.out.os, hB2.out.os], by rw [hg2.out.tape, hB2.out.tape], by rw [hg2.out.output, hB2.out.output], Nat.le_trans hB2.out.size hz2.out, fun x hx => by
        rw [hg2.out.block x (Nat.lt_of_lt_of_le hx hsz.out) (fun e => by have := hqb.out x e.symm; omega)]; exact hB2.out.block x hx⟩⟩
    · obtain rfl : j = 4 := by omega
      obtain ⟨g2, rfl, hg2a, hg2b, hnc⟩ := OwnC.where (k := 1) hR.out (by omega)
      obtain ⟨a0, ha0⟩ : ∃ x, x = o + 0 * n := ⟨_, rfl⟩
      obtain ⟨e0, he0⟩ : ∃ x, x = co - 0 * n := ⟨_, rfl⟩
      have y0 : W1.cell? ⟨g2, 0, none⟩ = some (.slice (some ⟨b, a0, none⟩) n e0) := by rw [ha0, he0]; exact (OwnC.cell (k := 1) hR.out (by omega)).trans rfl
      replace ha0 := Lib.hid ha0; replace he0 := Lib.hid he0
      obtain ⟨a1, ha1⟩ : ∃ x, x = o + 1 * n := ⟨_, rfl⟩
      obtain ⟨e1, he1⟩ : ∃ x, x = co - 1 * n := ⟨_, rfl⟩
      have y1 : W1.cell? ⟨g2, 1, none⟩ = some (.slice (some ⟨b, a1, none⟩) n e1) := by rw [ha1, he1]; exact (OwnC.cell (k := 1) hR.out (by omega)).trans rfl
      replace ha1 := Lib.hid ha1; replace he1 := Lib.hid he1
      obtain ⟨a2, ha2⟩ : ∃ x, x = o + 2 * n := ⟨_, rfl⟩
      obtain ⟨e2, he2⟩ : ∃ x, x = co - 2 * n := ⟨_, rfl⟩
      have y2 : W1.cell? ⟨g2, 2, none⟩ = some (.slice (some ⟨b, a2, none⟩) n e2) := by rw [ha2, he2]; exact (OwnC.cell (k := 1) hR.out (by omega)).trans rfl
      replace ha2 := Lib.hid ha2; replace he2 := Lib.hid he2
      obtain ⟨a3, ha3⟩ : ∃ x, x = o + 3 * n := ⟨_, rfl⟩
      obtain ⟨e3, he3⟩ : ∃ x, x = co - 3 * n := ⟨_, rfl⟩
      have y3 : W1.cell? ⟨g2, 3, none⟩ = some (.slice (some ⟨b, a3, none⟩) n e3) := by rw [ha3, he3]; exact (OwnC.cell (k := 1) hR.out (by omega)).trans rfl
      replace ha3 := Lib.hid ha3; replace he3 := Lib.hid he3
      go_upto_region 8 with fail
      go_cut [12] (fun v wx => ∃ p6 c6, v = .slice p6 4 c6 ∧ OwnC 22 1 W1.heap.size wx p6 4 c6 [.slice (some ⟨b, a3, none⟩) n e3, .slice (some ⟨b, a0, none⟩) n e0, .slice (some ⟨b, a1, none⟩) n e1, .slice (some ⟨b, a2, none⟩) n e2] ∧ Below W1.heap.size W1 wx)
      case first =>
        go_region_law (refine step_append4 _ (by rfl) _ _ (by rfl) (by rfl) W1.heap.size _ _ _ _ rfl rfl rfl rfl (by rfl) (heap_alloc_new _ _) W1.heap.size (by simp) ?_; intro p6 c6 w6 hO6 hg6; replace hO6 := Lib.hid hO6; replace hg6 := Lib.hid hg6)
        all_goals
          go_wp2_with fail
          go_meet
          exact ⟨_, _, rfl, hO6.out, moved_below hg6.out⟩
      case rest =>
        obtain ⟨p6, c6, rfl, hO6, hB6⟩ := hcut
        obtain ⟨g3, rfl, hg3a, hg3b, _⟩ := OwnC.where (k := 1) hO6 (by omega)
        have hIn0 : IntsIn W1 (some ⟨b, o, none⟩) (4 * n) (asI O) := by rw [← hk.out]; exact hx1.out.below hB2.out
        have hH := hands_H4 hg2b (fun i hi => by
          match i, hi with
          | 0, _ => exact (OwnC.cell (k := 1) hR.out (by omega)).trans rfl
          | 1, _ => exact (OwnC.cell (k := 1) hR.out (by omega)).trans rfl
          | 2, _ => exact (OwnC.cell (k := 1) hR.out (by omega)).trans rfl
          | 3, _ => exact (OwnC.cell (k := 1) hR.out (by omega)).trans rfl) hIn0
        have hH6 := Lib.hid (hH.below hB6)
        have hM6 : Hid (H4 wc g3 0 n (fun _ => b) (fun i => o + (i + 3) % 4 * n) (fun i => co - (i + 3) % 4 * n) (mL O n)) := ⟨fun i hi => by
          refine ⟨hg3b, ?_⟩
          match i, hi with
          | 0, _ => exact (OwnC.cell (k := 1) hO6 (by omega)).trans (by rw [ha3.out, he3.out]; rfl)
          | 1, _ => exact (OwnC.cell (k := 1) hO6 (by omega)).trans (by rw [ha0.out, he0.out]; rfl)
          | 2, _ => exact (OwnC.cell (k := 1) hO6 (by omega)).trans (by rw [ha1.out, he1.out]; rfl)
          | 3, _ => exact (OwnC.cell (k := 1) hO6 (by omega)).trans (by rw [ha2.out, he2.out]; rfl), fun i hi => hH6.out.ints ((i + 3) % 4) (Nat.mod_lt _ (by omega))⟩
        have hnd : (cat (hL O n) 4).Nodup := by rw [hL_cat (by rw [hl, hk.out])]; exact hd
        have h52a : ∀ x ∈ cat (hL O n) 4, x < 52 := by rw [hL_cat (by rw [hl, hk.out])]; exact h52
        have hpm := mL_perm (O := O) (n := n) (by rw [hl, hk.out])
        have hnm : (cat (mL O n) 4).Nodup := hpm.nodup_iff.2 hd
        have h52m : ∀ x ∈ cat (mL O n) 4, x < 52 := fun x hx => h52 x (hpm.mem_iff.1 hx)
        obtain ⟨ld', hld'⟩ : ∃ ld', ld' = (ld + 1) % 4 := ⟨_, rfl⟩
        have hlaw := turns_law (s := sS) hn1 (by rw [hl, hk.out]) hd h52 lc
        have HA := Lib.hid (Best_any g2 0 n c sS ld _ _ _ _ wc hn1 (by omega) hH6.out hnd h52a lb lc)
        have HM : Hid (∀ X, Below wc.heap.size wc X → _) := Lib.hid (fun X hX => Best_any g3 0 n c6 sS ld' _ _ _ _ X hn1 (by omega) (hM6.out.below hX) hnm h52m lb (by omega))
        rw [← hld'] at hlaw
        generalize gS sS (4 * n) (dealS (hL O n 0) (hL O n 1) (hL O n 2) (hL O n 3)) ld [] = A at *
        generalize gS sS (4 * n) (dealS (mL O n 0) (mL O n 1) (mL O n 2) (mL O n 3)) ld' [] = A2 at *
        obtain ⟨l1, l2, l3⟩ := hlaw
        have d1 : decide (0 ≤ A) = true := decide_eq_true l2
        have d2 : decide (A ≤ (n : Int)) = true := decide_eq_true l3
        have d3 : A + A2 = (n : Int) := by omega
        have e6 : ((ld : Int) + 1).tmod 4 = (ld' : Int) := by rw [hld']; rcases (show ld = 0 ∨ ld = 1 ∨ ld = 2 ∨ ld = 3 by omega) with rfl | rfl | rfl | rfl <;> rfl
        have d4 : decide (A < 0) = false := decide_eq_false (by omega)
        have hBw := Lib.hid ((hB1.out.trans (hB2.out.mono hB1s.out)).trans (hB6.mono (Nat.le_trans hB1s.out hB2.out.size)))
        replace hld' := Lib.hid hld'
        clear hH hIn0 hH6 hM6 hO6 hB6 y0 y1 y2 y3 hd h52 hl hx1 hR hnd h52a hnm h52m hpm hO hB1 hB2 PA l1 l2 l3
        go_wp2_with fail
        refine (PB.out _).mono ?_
        rintro e w' ⟨rfl, rfl⟩
        go_wp2_with fail
        refine (PC.out _).mono ?_
        rintro e w' ⟨rfl, rfl⟩
        go_wp2_with fail
        refine HA.out.mono ?_
        rintro e w8 ⟨rfl, hB8⟩
        go_wp2_with fail
        refine (HM.out _ hB8).mono ?_
        rintro e w9 ⟨rfl, hB9⟩
        go_wp2_with fail
        go_ret
        exact ⟨by simp, hBw.out.trans ((hB8.trans (hB9.mono hB8.size)).mono hBw.out.size)⟩
end Go.Proofs.Ytkakggagaplaiaa
