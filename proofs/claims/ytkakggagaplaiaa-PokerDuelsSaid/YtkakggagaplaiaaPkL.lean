/- The walk of gameroomkeep.PokerSuits; conditions: the numbers fit their kind. -/
import Derived.Test.YtkakggagaplaiaaPkT
import Derived.Test.YtkakggagaplaiaaHnd
import Derived.Test.YtkakggagaplaiaaNthW
namespace Go.Proofs.Ytkakggagaplaiaa
open Go.RowKit

theorem trS_nodup {o L : List Nat} {k : Nat} (hL : L.length = 7) (hd : L.Nodup) (h : ∀ i, i < 4 → st o i < 4) (hi : ∀ i j, i < 4 → j < 4 → st o i = st o j → i = j) : (trS o L k).Nodup := by
  unfold trS
  refine List.pairwise_map.2 (List.Pairwise.imp_of_mem ?_ List.nodup_range)
  intro i j hi1 hj1 hne e
  simp only [List.mem_range] at hi1 hj1
  have e1 := suS_div h (st L ((i + k) % 7))
  have e2 := suS_div h (st L ((j + k) % 7))
  have m1 := suS_mod h (st L ((i + k) % 7))
  have m2 := suS_mod h (st L ((j + k) % 7))
  rw [e] at e1 m1
  have h3 := hi _ _ (Nat.mod_lt _ (by omega)) (Nat.mod_lt _ (by omega)) (m1.symm.trans m2)
  have h4 : st L ((i + k) % 7) = st L ((j + k) % 7) := by omega
  have l1 : (i + k) % 7 < L.length := by rw [hL]; exact Nat.mod_lt _ (by omega)
  have l2 : (j + k) % 7 < L.length := by rw [hL]; exact Nat.mod_lt _ (by omega)
  have := (List.getElem_inj (h₀ := l1) (h₁ := l2) hd).1 (by unfold st at h4; simpa [l1, l2] using h4)
  omega
theorem trS_lt {o L : List Nat} {k : Nat} (hL : L.length = 7) (h52 : ∀ x ∈ L, x < 52) (h : ∀ i, i < 4 → st o i < 4) : ∀ x ∈ trS o L k, x < 52 := fun x hx => by
  unfold trS at hx
  obtain ⟨j, _, rfl⟩ := List.mem_map.1 hx
  have h1 := h52 _ (st_mem_lt (s := L) (i := (j + k) % 7) (by rw [hL]; exact Nat.mod_lt _ (by omega)))
  have h2 := h (st L ((j + k) % 7) % 4) (Nat.mod_lt _ (by omega))
  unfold suS
  omega
/-- the first j of them. -/
def trJ (o L : List Nat) (k j : Nat) : List Nat := (List.range j).map fun j => suS o (st L ((j + k) % 7))
theorem trJ_succ (o L : List Nat) (k j : Nat) : trJ o L k (j + 1) = trJ o L k j ++ [suS o (st L ((j + k) % 7))] := by simp [trJ, List.range_succ]
theorem trJ_all (o L : List Nat) (k : Nat) : trJ o L k 7 = trS o L k := rfl
theorem i64_wrap0 {x : Nat} (h : x < 9223372036854775807) : IntKind.i64.wrap (x : Int) = x := IntWalk.i64_in _ (by omega)

set_option maxRecDepth 100000 in
set_option maxHeartbeats 8000000 in
theorem suits_any (p : Option Addr) (nr c0 : Nat) (zs : List Int) (za zb : Int) (w : World) (hr : nr ≤ 9223372036854775807) (hx : IntsIn w p nr zs) (hz : ∀ j, j < nr → -9223372036854775808 ≤ zs[j]?.getD 0 ∧ zs[j]?.getD 0 ≤ 9223372036854775807)
    (ha : -9223372036854775808 ≤ za ∧ za ≤ 9223372036854775807) (hb : -9223372036854775808 ≤ zb ∧ zb ≤ 9223372036854775807) :
    Calls Try.prog 3 #[.slice p nr c0, .int .i64 za, .int .i64 zb] w fun e w' => e = .returned (.bool true) ∧ Below w.heap.size w w' := by
  have PA := Lib.hid (fun W => picked_any za 7 W ha.1 ha.2 (by omega) (by omega) 7 rfl)
  have PB := Lib.hid (fun W => picked_any zb 24 W hb.1 hb.2 (by omega) (by omega) 24 rfl)
  have la := pick_lt za 7 (by omega)
  have lb := pick_lt zb 24 (by omega)
  clear ha hb
  generalize pick za 7 = k at *
  generalize pick zb 24 = y at *
  have HH := Lib.hid (hand_any p nr c0 7 zs w (by omega) hr hx hz)
  clear hx hz
  go_enter Try.func3, Try.ntmps3
  go_wp2_with fail
  refine HH.out.mono ?_
  rintro e w1 ⟨q, co, L, rfl, hO, hl, hd, h52, hB1⟩
  clear HH
  obtain ⟨g, rfl, hgB, hgw, hgc⟩ := OwnC.where (k := 1) hO (by omega)
  have hin := hO.in
  have hV : Hid (∀ X, Below w1.heap.size w1 X → Calls Try.prog 12 #[.slice (some ⟨g, 0, none⟩) 7 co] X fun e w' => e = .returned (.tuple #[.int .i64 (bestS L).1, .int .i64 0]) ∧ Below X.heap.size X w') := fun X hX =>
    value7_any _ 7 co L X (by omega) (by omega) (hin.below hX) h52 hd
  have hP : Hid (∀ X, Below w1.heap.size w1 X → Calls Try.prog 13 #[.slice (some ⟨g, 0, none⟩) 7 co] X fun e w' => ∃ q k, e = .returned (.tuple #[.slice q 5 k, .int .i64 0]) ∧ Own 3 X.heap.size w' q 5 k (asI (bestS L).2) ∧ Below X.heap.size X w') := fun X hX =>
    bestP_any _ 7 co L X (by omega) (by omega) (hin.below hX) h52 hd
  have tk : ∀ m, (asI L).take m = asI (L.take m) := fun m => by unfold asI; rw [List.map_take]
  have hV5 : Hid (∀ X, Below w1.heap.size w1 X → Calls Try.prog 12 #[.slice (some ⟨g, 0, none⟩) 5 co] X fun e w' => e = .returned (.tuple #[.int .i64 (bestS (L.take 5)).1, .int .i64 0]) ∧ Below X.heap.size X w') := fun X hX => by
    have h1 := (hin.below hX).part 0 5 (by omega) (by omega) (some ⟨g, 0, none⟩) (fun _ => by simp [Addr.add])
    rw [List.drop_zero, tk] at h1
    exact value7_any _ 5 co (L.take 5) X (by omega) (by omega) h1 (fun x hx => h52 x (List.mem_of_mem_take hx)) (hd.sublist (List.take_sublist _ _))
  have hV6 : Hid (∀ X, Below w1.heap.size w1 X → Calls Try.prog 12 #[.slice (some ⟨g, 0, none⟩) 6 co] X fun e w' => e = .returned (.tuple #[.int .i64 (bestS (L.take 6)).1, .int .i64 0]) ∧ Below X.heap.size X w') := fun X hX => by
    have h1 := (hin.below hX).part 0 6 (by omega) (by omega) (some ⟨g, 0, none⟩) (fun _ => by simp [Addr.add])
    rw [List.drop_zero, tk] at h1
    exact value7_any _ 6 co (L.take 6) X (by omega) (by omega) h1 (fun x hx => h52 x (List.mem_of_mem_take hx)) (hd.sublist (List.take_sublist _ _))
  have hpos := best_pos (L := L) (by omega) hd h52
  have hm1 : (bestS (L.take 5)).1 ≤ (bestS (L.take 6)).1 := by
    have := best_more (L := L.take 6) (n := 5) (by omega) (by rw [List.length_take]; omega)
    rwa [List.take_take] at this
  have hm2 : (bestS (L.take 6)).1 ≤ (bestS L).1 := best_more (by omega) (by omega)
  obtain ⟨_, x5, hx5, e5⟩ := best_is (L := L) (by omega)
  have hF5 : Hid (∀ X q k, IntsIn X q 5 (asI (bestS L).2) → Calls Try.prog 12 #[.slice q 5 k] X fun e w' => e = .returned (.tuple #[.int .i64 (bestS L).1, .int .i64 0]) ∧ Below X.heap.size X w') := fun X q k hX => by
    have hlen : (bestS L).2.length = 5 := best_len (by omega)
    have hlt : ∀ i ∈ x5, i < L.length := fun i hi => (ixs_lt _ _ _ hx5 i hi).2
    have h1 : ∀ y ∈ (bestS L).2, y < 52 := fun y hy => by
      rw [e5] at hy; unfold atS at hy; obtain ⟨i, hi, rfl⟩ := List.mem_map.1 hy; exact h52 _ (st_mem_lt (hlt i hi))
    have h2 : (bestS L).2.Nodup := by
      rw [e5]
      unfold atS
      refine List.pairwise_map.2 (List.Pairwise.imp_of_mem ?_ (ixs_nodup _ _ _ hx5))
      intro i j hi hj hne e
      have a1 := hlt i hi; have a2 := hlt j hj
      exact hne ((List.getElem_inj (h₀ := a1) (h₁ := a2) hd).1 (by unfold st at e; simpa [a1, a2] using e))
    have h3 := value7_any q 5 k _ X (by omega) (by omega) hX h1 h2
    rw [best_five hlen] at h3
    have h4 : ((vlS (bestS L).2 : Nat) : Int) = (bestS L).1 := by rw [e5]
    rw [← h4]; exact h3
  have hRest : Hid (∀ o, IsOrd 4 o → ∀ X q c, IntsIn X q 7 (asI (trJ o L k 7)) → Calls Try.prog 12 #[.slice q 7 c] X fun e w' => e = .returned (.tuple #[.int .i64 (bestS L).1, .int .i64 0]) ∧ Below X.heap.size X w') := fun o ho X q c hX => by
    have o1 : ∀ i, i < 4 → st o i < 4 := fun i hi => ho.lt (st_mem_lt (by rw [ho.len]; exact hi))
    have o2 : ∀ i j, i < 4 → j < 4 → st o i = st o j → i = j := fun i j hi hj e => by
      have l1 : i < o.length := by rw [ho.len]; exact hi
      have l2 : j < o.length := by rw [ho.len]; exact hj
      exact (List.getElem_inj (h₀ := l1) (h₁ := l2) ho.nodup).1 (by unfold st at e; simpa [l1, l2] using e)
    rw [trJ_all] at hX
    have h3 := value7_any q 7 c _ X (by omega) (by omega) hX (trS_lt hl h52 o1) (trS_nodup hl hd o1 o2)
    rw [tr_best la hl o1 o2] at h3
    exact h3
  have hcell : Hid (∀ i, i < 7 → w1.cell? ⟨g, i, none⟩ = some (.int .i64 (st L i : Nat))) := fun i hi => by
    have := Own.cell hO (i := i) hi
    rwa [asI_at] at this
  have hst : Hid (∀ i, st L i < 52) := fun i => by
    by_cases h : i < L.length
    · exact h52 _ (st_mem_lt h)
    · unfold st; rw [List.getElem?_eq_none (by omega)]; exact Nat.zero_lt_succ _
  generalize bestS L = bs at *
  obtain ⟨V, five⟩ := bs
  simp only at *
  generalize (bestS (L.take 5)).1 = v5 at *
  generalize (bestS (L.take 6)).1 = v6 at *
  replace hB1 := Lib.hid hB1
  have f1 : decide (V ≤ 0) = false := decide_eq_false (by omega)
  have f2 : decide (v6 < v5) = false := decide_eq_false (by omega)
  have f3 : decide (V < v6) = false := decide_eq_false (by omega)
  clear hO hin hd h52 tk e5 hx5 hpos hm1 hm2
  go_wp2_with fail
  refine (hV.out w1 (Below.refl _ _)).mono ?_
  rintro e w2 ⟨rfl, hb2⟩
  go_wp2_with fail
  refine (hP.out w2 hb2).mono ?_
  rintro e w3 ⟨q3, k3, rfl, hO3, hb3⟩
  have hb13 := hb2.trans (hb3.mono hb2.size)
  have H5 := hF5.out w3 q3 k3 hO3.in
  clear hO3 hF5
  go_wp2_with fail
  refine H5.mono ?_
  rintro e w4 ⟨rfl, hb4⟩
  have hb14 := hb13.trans (hb4.mono hb13.size)
  have H6 := Lib.hid (hV5.out w4 hb14)
  clear H5 hV5
  go_wp2_with fail
  refine H6.out.mono ?_
  rintro e w5 ⟨rfl, hb5⟩
  have hb15 := hb14.trans (hb5.mono hb14.size)
  have H7 := Lib.hid (hV6.out w5 hb15)
  clear H6 hV6
  go_wp2_with fail
  refine H7.out.mono ?_
  rintro e w6 ⟨rfl, hb6⟩
  have hb16 := hb15.trans (hb6.mono hb15.size)
  clear H7 hb2 hb3 hb13 hb4 hb14 hb5 hb15 hb6
  have HN := Lib.hid (nth_any 4 y w6 (by omega) (by omega) lb)
  have ho : Hid (IsOrd 4 (nth 4 y)) := nth_ord lb
  go_wp2_with fail
  refine (PB.out _).mono ?_
  rintro e w' ⟨rfl, rfl⟩
  go_wp2_with fail
  refine HN.out.mono ?_
  rintro e w7 ⟨q7, c7, rfl, hO7, hb7⟩
  clear HN
  generalize nth 4 y = o at *
  have o1 : ∀ i, i < 4 → st o i < 4 := fun i hi => ho.out.lt (st_mem_lt (by rw [ho.out.len]; exact hi))
  obtain ⟨g7, rfl, hgB7, hgw7, hgc7⟩ := OwnC.where (k := 1) hO7 (by omega)
  have hb17 := hb16.trans (hb7.mono hb16.size)
  have hRR := Lib.hid (hRest.out o ho.out)
  have hoc : Hid (∀ i, i < 4 → w7.cell? ⟨g7, i, none⟩ = some (.int .i64 (st o i : Nat))) := fun i hi => by
    have := Own.cell hO7 (i := i) hi
    rwa [asI_at] at this
  have hLc : Hid (∀ i, i < 7 → w7.cell? ⟨g, i, none⟩ = some (.int .i64 (st L i : Nat))) := fun i hi => (hb17.cell (p := ⟨g, i, none⟩) hgw).trans (hcell.out i hi)
  have hBw7 := Lib.hid (hB1.out.trans (hb17.mono hB1.out.size))
  have hg7lt : g < w7.heap.size := Nat.lt_of_lt_of_le hgw hb17.size
  replace o1 := Lib.hid o1
  clear hO7 hb7 hb16 hb17 hRest ho hcell hP hV
  have hsj : Hid (∀ j, trJ o L k (j + 1) = trJ o L k j ++ [suS o (st L ((j + k) % 7))]) := trJ_succ o L k
  go_wp2_with fail
  refine (PA.out _).mono ?_
  rintro e w' ⟨rfl, rfl⟩
  go_wp2_with fail
  go_loopg [20, 21] 7 (fun gk lv jv W' => ∃ (j cl : Nat) (q : Option Addr), j ≤ 7 ∧ gk = 7 - j ∧ jv = .int .i64 j ∧ lv = .slice q j cl ∧ Hid (Own 3 w7.heap.size W' q j cl (asI (trJ o L k j))) ∧ Hid (Below w7.heap.size w7 W'))
  case atStart => exact ⟨0, 0, none, by omega, by omega, rfl, rfl, Own.nil _ _ _, Below.refl _ _⟩
  case round =>
    obtain ⟨j, cl, q, hj, hgk, rfl, rfl, hQ, hB⟩ := hrel
    obtain ⟨W1, rfl⟩ : ∃ W1 : World, W1 = wr := ⟨_, rfl⟩
    replace hgk := Lib.hid hgk
    by_cases hlt : j < 7
    · obtain ⟨m, hm⟩ : ∃ m, m = (j + k) % 7 := ⟨_, rfl⟩
      have hm7 : m < 7 := by omega
      have t1 : ((j : Int) + (k : Int)).tmod 7 = (m : Int) := by rw [Int.tmod_eq_emod_of_nonneg (by omega)]; omega
      have t1' : ((j : Int) + (k : Int)) % 7 = (m : Int) := by omega
      have hss := hsj.out j
      rw [← hm] at hss
      replace hss := Lib.hid hss
      replace hm := Lib.hid hm
      have kc := (hB.out.cell (p := ⟨g, m, none⟩) hg7lt).trans (hLc.out m hm7)
      have hx52 := hst.out m
      have hsu : suS o (st L m) = st L m / 4 * 4 + st o (st L m % 4) := rfl
      rw [hsu] at hss
      generalize st L m = x at *
      obtain ⟨r, hrr⟩ : ∃ r, r = x / 4 := ⟨_, rfl⟩
      obtain ⟨u, hu⟩ : ∃ u, u = x % 4 := ⟨_, rfl⟩
      have t2' : (x : Int) / 4 = (r : Int) := by omega
      have t2 : (x : Int).tdiv 4 = (r : Int) := by rw [Int.tdiv_eq_ediv_of_nonneg (by omega)]; exact t2'
      have t3' : (x : Int) % 4 = (u : Int) := by omega
      have t3 : (x : Int).tmod 4 = (u : Int) := by rw [Int.tmod_eq_emod_of_nonneg (by omega)]; exact t3'
      have hu4 : u < 4 := by omega
      have ko := (hB.out.cell (p := ⟨g7, u, none⟩) hgw7).trans (hoc.out u hu4)
      have ho4 := o1.out u hu4
      rw [← hrr, ← hu] at hss
      have hr13 : r < 13 := by omega
      obtain ⟨r4, hr4⟩ : ∃ r4, r4 = r * 4 := ⟨_, rfl⟩
      rw [← hr4] at hss
      have t4 : (r : Int) * 4 = (r4 : Int) := by omega
      have t5 : IntKind.i64.wrap (r4 : Int) = r4 := IntWalk.i64_in _ (by omega)
      have hr52 : r4 < 52 := by omega
      generalize st o u = z at *
      obtain ⟨s, hs⟩ : ∃ s, s = r4 + z := ⟨_, rfl⟩
      rw [← hs] at hss
      have t6 : (r4 : Int) + (z : Int) = (s : Int) := by omega
      have t7 : IntKind.i64.wrap (s : Int) = s := IntWalk.i64_in _ (by omega)
      have n1 : (0 : Int) ≤ (m : Int) := by omega
      have n2 : (m : Int) < 7 := by omega
      have n3 : (0 : Int) ≤ (u : Int) := by omega
      have n4 : (u : Int) < 4 := by omega
      replace hs := Lib.hid hs; replace hr4 := Lib.hid hr4; replace hu := Lib.hid hu; replace hrr := Lib.hid hrr
      have hqb : Hid (∀ z, q.map (·.block) = some z → w7.heap.size ≤ z) := fun z e => by
        cases q with
        | none => cases e
        | some a => simp at e; subst e; exact (OwnC.block (k := 1) hQ.out a rfl).1
      go_wp2_with (at_builtin; refine wp_append1 intG W1 rfl _ _ rfl w7.heap.size q j cl _ rfl hQ.out (s : Int) rfl (by omega) hB.out.size ?_; intro q2 co2 W3 hQ2 hg2 _ hz2; replace hQ2 := Lib.hid hQ2; replace hg2 := Lib.hid hg2)
      have hB3 := Lib.hid (hB.out.grown hg2.out hB.out.size hqb.out)
      have hgk := hgk.out
      go_roundg (7 - (j + 1))
      case measure => omega
      case rel => exact ⟨j + 1, co2, q2, by omega, rfl, by go_num, rfl, by rw [hss.out, asI_app]; exact hQ2, hB3⟩
    · obtain rfl : j = 7 := by omega
      have HF := Lib.hid (hRR.out W1 q cl (Own.in hQ.out))
      have hBf := Lib.hid (hBw7.out.trans (hB.out.mono hBw7.out.size))
      go_wp2_with fail
      refine HF.out.mono ?_
      rintro e w9 ⟨rfl, hb9⟩
      have hBz := Lib.hid (hBf.out.trans (hb9.mono hBf.out.size))
      clear hb9 HF
      go_wp2_with fail
      go_ret
      exact ⟨by simp, hBz.out⟩
end Go.Proofs.Ytkakggagaplaiaa
