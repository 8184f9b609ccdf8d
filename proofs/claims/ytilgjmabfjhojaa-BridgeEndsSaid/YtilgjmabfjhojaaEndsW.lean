/- What gameroomkeep.BridgeEnds returns: true; conditions: the calls read as a list of ints, the tricks are an int of 64 bits. -/
import Derived.Test.YtilgjmabfjhojaaScoreX
namespace Go.Proofs.Ytilgjmabfjhojaa
open Go.RowKit

theorem score_any (l s d : Nat) (dc : Int) (v : Bool) (n : Nat) (w : World) (h1 : 1 ≤ l) (h2 : l ≤ 7) (h3 : s ≤ 4) (h4 : d ≤ 2) (h5 : n ≤ 13) (g1 : 0 ≤ dc) (g2 : dc ≤ 3) (nI : Int) (hnI : Hid (nI = n)) :
    Calls Try.prog 8 #[.agg #[.int .i64 l, .int .i64 s, .int .i64 d, .int .i64 dc], .bool v, .int .i64 nI] w fun e w' => e = .returned (.tuple #[.int .i64 (scoreS l s d v n), .int .i64 0]) ∧ Below w.heap.size w w' := by
  by_cases hn : n < l + 6
  · exact score_fail l s d dc v n w h1 h2 h3 h4 h5 g1 g2 hn nI hnI
  · have e := hnI.out
    obtain ⟨m, rfl⟩ : ∃ m, n = l + 6 + m := ⟨n - (l + 6), by omega⟩
    have hr : scoreS l s d v (l + 6 + m) = madeS l s d v m := by
      unfold scoreS; rw [if_neg (by omega)]; congr 1; omega
    rw [hr]
    rcases (show d = 0 ∨ d = 1 ∨ d = 2 from by omega) with rfl | rfl | rfl
    · exact score_made0 l s dc v m w h1 h2 h3 (by omega) g1 g2 nI (by omega) (by omega) (by omega)
    · exact score_made1 l s dc v m w h1 h2 h3 (by omega) g1 g2 nI (by omega) (by omega) (by omega)
    · exact score_made2 l s dc v m w h1 h2 h3 (by omega) g1 g2 nI (by omega) (by omega) (by omega)

theorem int22 : IntT Try.prog 22 3 := ⟨Try.underlying22, by kernel_rfl⟩
set_option maxHeartbeats 400000 in
theorem ints_any (ad : Addr) (n c : Nat) (xs : List Int) (w : World) (hn : n ≤ 1000000) (hx : IntsIn w (some ad) n xs) :
    Calls Try.prog 6 #[.slice (some ad) n c] w fun e w' => ∃ p' c', e = .returned (.slice p' n c') ∧ Own 3 w.heap.size w' p' n c' xs ∧ Below w.heap.size w w' := by
  have hin := Lib.hid hx
  clear hx
  go_enter Try.func6, Try.ntmps6
  go_wp2_with (at_builtin; refine wp_appendL int22 w rfl _ _ rfl w.heap.size none 0 0 [] rfl (Own.nil _ _ _) ad n c xs rfl hin.out (by omega) (Nat.le_refl _) ?_; intro p' c' w2 hO hg _ hz)
  have hB : Below w.heap.size w w2 := (Below.refl _ w).grown hg (Nat.le_refl _) (fun x hx => by cases hx)
  replace hO := Lib.hid hO; replace hB := Lib.hid hB
  clear hg hz
  go_wp2
  go_ret
  exact ⟨p', c', by simp, by simpa using hO.out, hB.out⟩

theorem fin_err (p : Nat × Au) (h : (fin p).2 ≠ 0) : (fin p).1 = (0, 0, 0, 0) := by
  unfold fin at h ⊢
  split
  · rfl
  · split
    · rfl
    · split
      · rfl
      · rename_i h1 h2 h3
        rw [if_neg h1, if_neg h2, if_neg h3] at h
        exact absurd rfl h
theorem fin_small : fin (auS [0, 7, 0, 0, 0]) = ((1, 4, 0, 1), 0) := by decide
theorem fin_nil : (fin (auS [])).2 = 13 := by decide
set_option maxHeartbeats 8000000 in
set_option maxRecDepth 100000 in
theorem ends_any (p : Option Addr) (n c : Nat) (xs : List Int) (v : Bool) (t : Int) (w : World) (hn : n ≤ 9223372036854775807) (hx : IntsIn w p n xs) (x1 : -9223372036854775808 ≤ t) (x2 : t ≤ 9223372036854775807) :
    Calls Try.prog 3 #[.slice p n c, .bool v, .int .i64 t] w fun e w' => e = .returned (.bool true) ∧ Below w.heap.size w w' := by
  have hl := hx.len
  have H1 := auction_any (some ⟨w.heap.size, 0, none⟩) 5 5 [0, 7, 0, 0, 0] (w.alloc (.cells #[.int .i64 0, .int .i64 7, .int .i64 0, .int .i64 0, .int .i64 0] 3)) (by omega) (IntsIn.new w _ 3 _ 5 _ rfl rfl rfl)
  rw [fin_small] at H1
  have hB0 : Hid (Below w.heap.size w (w.alloc (.cells #[.int .i64 0, .int .i64 7, .int .i64 0, .int .i64 0, .int .i64 0] 3))) := (Below.refl _ _).alloc (Nat.le_refl _) _
  have hsz : w.heap.size < (w.alloc (.cells #[.int .i64 0, .int .i64 7, .int .i64 0, .int .i64 0, .int .i64 0] 3)).heap.size := by simp
  have H2 := Lib.hid (fun W hx => auction_any p n c xs W hn hx)
  replace H1 := Lib.hid H1; replace hx := Lib.hid hx; replace hl := Lib.hid hl
  have hferr := Lib.hid (fin_err (auS xs))
  have hfok := Lib.hid (fun h => fin_fit xs h)
  have hfov := Lib.hid (fun h => fin_over xs h)
  have hfn : Hid ((fin (auS xs)).2 = 0 → 1 ≤ n) := fun h => by
    have hl := hl.out
    rcases Nat.eq_zero_or_pos n with e | e
    · rw [e] at hl
      rw [List.eq_nil_of_length_eq_zero hl, fin_nil] at h
      cases h
    · exact e
  have hpk := pick_lt t 13 (by omega)
  have HP := Lib.hid (fun W => picked_any t 13 W x1 x2 (by omega) (by omega) 13 rfl)
  generalize pick t 13 = k at *
  rcases hfe : fin (auS xs) with ⟨⟨lv, st, d, dc⟩, er⟩
  rw [hfe] at H2 hferr hfok hfov hfn
  simp only at H2 hferr hfok hfov hfn
  replace hfe := Lib.hid hfe
  clear x1 x2
  go_enter Try.func3, Try.ntmps3
  go_wp2_with fail
  generalize w.alloc (.cells #[.int .i64 0, .int .i64 7, .int .i64 0, .int .i64 0, .int .i64 0] 3) = W at *
  refine H1.out.mono ?_
  rintro e W1 ⟨rfl, hB1⟩
  have hB1w := Lib.hid (hB0.out.trans (hB1.mono (Nat.le_of_lt hsz)))
  have hsz1 := Nat.lt_of_lt_of_le hsz hB1.size
  have hB2w := Lib.hid (hB1w.out.alloc (Nat.le_of_lt hsz1) (.cells #[.int .i64 1, .int .i64 4, .int .i64 0, .int .i64 1] 24))
  clear hB0 hB1 hsz H1 W
  have hx2 := Lib.hid (hx.out.below hB2w.out)
  clear hx hB1w hsz1
  go_wp2_with fail
  generalize W1.alloc (.cells #[.int .i64 1, .int .i64 4, .int .i64 0, .int .i64 1] 24) = W2 at *
  refine (H2.out _ hx2.out).mono ?_
  rintro e W3 ⟨rfl, hB3⟩
  have hx3 := Lib.hid (hx2.out.below hB3)
  have hB3w := Lib.hid (hB2w.out.trans (hB3.mono hB2w.out.size))
  have hx4 := Lib.hid (hx3.out.alloc (.cells #[.int .i64 lv, .int .i64 st, .int .i64 d, .int .i64 dc] 24))
  have hB4w := Lib.hid (hB3w.out.alloc hB3w.out.size (.cells #[.int .i64 lv, .int .i64 st, .int .i64 d, .int .i64 dc] 24))
  have a0 := heap_alloc_new W3 (.cells #[.int .i64 lv, .int .i64 st, .int .i64 d, .int .i64 dc] 24)
  have hsz4 : W3.heap.size < (W3.alloc (.cells #[.int .i64 lv, .int .i64 st, .int .i64 d, .int .i64 dc] 24)).heap.size := by simp
  clear hB2w hB3 hx2 H2
  by_cases her : er = 0
  · subst her
    obtain ⟨hfit, hnx⟩ := hfok.out rfl
    have hn1 := hfn.out rfl
    obtain ⟨hov, _, _, _⟩ := hfov.out rfl
    obtain ⟨f1, f2, f3, f4, f5, f6, f7⟩ := hfit
    simp only at f1 f2 f3 f4 f5 f6 f7
    have hnx2 : n ≤ 1000000 := by have := hl.out; omega
    obtain ⟨l', rfl⟩ : ∃ l' : Nat, lv = l' := ⟨lv.toNat, by omega⟩
    obtain ⟨s', rfl⟩ : ∃ s' : Nat, st = s' := ⟨st.toNat, by omega⟩
    have HS1 := Lib.hid (fun W => score_any l' s' d dc v k W (by omega) (by omega) (by omega) f5 (by omega) f6 f7 k rfl)
    have HS2 := Lib.hid (fun W => score_any l' s' d dc v (k + 1) W (by omega) (by omega) (by omega) f5 (by omega) f6 f7 ((k : Int) + 1) (Lib.hid (by omega)))
    have hup := score_up l' s' d v k (by omega) (by omega) (by omega) f5 (by omega)
    generalize scoreS l' s' d v k = sc1 at *
    generalize scoreS l' s' d v (k + 1) = sc2 at *
    obtain ⟨b, o, rfl, hb, hc⟩ := hx4.out.at (by omega)
    have HI := Lib.hid (fun W hx => ints_any ⟨b, o, none⟩ n c xs W hnx2 hx)
    replace hov := Lib.hid hov
    clear hc hfok hfov hfn hferr
    go_wp2_with fail
    generalize W3.alloc (.cells #[.int .i64 l', .int .i64 s', .int .i64 d, .int .i64 dc] 24) = W4 at *
    have c0 : W4.cell? ⟨W3.heap.size, 0, none⟩ = some (.int .i64 l') := wcell (cs := [_, _, _, _]) a0 0
    have c1 : W4.cell? ⟨W3.heap.size, 1, none⟩ = some (.int .i64 s') := wcell (cs := [_, _, _, _]) a0 1
    have c2 : W4.cell? ⟨W3.heap.size, 2, none⟩ = some (.int .i64 d) := wcell (cs := [_, _, _, _]) a0 2
    have c3 : W4.cell? ⟨W3.heap.size, 3, none⟩ = some (.int .i64 dc) := wcell (cs := [_, _, _, _]) a0 3
    replace a0 := Lib.hid a0
    refine (HI.out _ hx4.out).mono ?_
    rintro e W5 ⟨p5, c5, rfl, hO5, hB5⟩
    have hB5w := Lib.hid (hB4w.out.trans (hB5.mono hB4w.out.size))
    replace hO5 := Lib.hid hO5
    have hz5 := hB5.size
    replace hB5 := Lib.hid hB5
    go_wp2_with (at_builtin; refine wp_append1 int22 W5 rfl _ _ rfl W4.heap.size p5 n c5 _ rfl hO5.out 0 rfl (by omega) hz5 ?_; intro p6 c6 W6 hO6 hg6 _ hz6)
    have hB6 := hB5.out.grown hg6 hz5 (fun x hx => by
      cases p5 with
      | none => cases hx
      | some a => cases hx; exact (hO5.out.block a rfl).1)
    have hxi := hO6.in
    have hB6w := Lib.hid (hB4w.out.trans (hB6.mono hB4w.out.size))
    have d0 := (hB6.cell (p := ⟨W3.heap.size, 0, none⟩) hsz4).trans c0
    have d1 := (hB6.cell (p := ⟨W3.heap.size, 1, none⟩) hsz4).trans c1
    have d2 := (hB6.cell (p := ⟨W3.heap.size, 2, none⟩) hsz4).trans c2
    have d3 := (hB6.cell (p := ⟨W3.heap.size, 3, none⟩) hsz4).trans c3
    have hsz6 := Nat.lt_of_lt_of_le hsz4 hB6.size
    have HA := auction_any p6 (n + 1) c6 (xs ++ [0]) W6 (by omega) hxi
    rw [hov.out] at HA
    replace HA := Lib.hid HA
    clear c0 c1 c2 c3 hxi hO6 hg6 hB6
    refine HA.out.mono ?_
    rintro e W7 ⟨rfl, hB7⟩
    have hB7w := Lib.hid (hB6w.out.trans (hB7.mono hB6w.out.size))
    have e0 := (hB7.cell (p := ⟨W3.heap.size, 0, none⟩) hsz6).trans d0
    have e1 := (hB7.cell (p := ⟨W3.heap.size, 1, none⟩) hsz6).trans d1
    have e2 := (hB7.cell (p := ⟨W3.heap.size, 2, none⟩) hsz6).trans d2
    have e3 := (hB7.cell (p := ⟨W3.heap.size, 3, none⟩) hsz6).trans d3
    have hsz7 := Nat.lt_of_lt_of_le hsz6 hB7.size
    have hB8w := Lib.hid (hB7w.out.alloc hB7w.out.size (.cells #[.int .i64 0, .int .i64 0, .int .i64 0, .int .i64 0] 24))
    clear d0 d1 d2 d3 HA hB7
    go_wp2_with fail
    refine (HP.out _).mono ?_
    rintro e w' ⟨rfl, rfl⟩
    go_wp2_with fail
    have m0 : (W7.alloc (.cells #[.int .i64 0, .int .i64 0, .int .i64 0, .int .i64 0] 24)).cell? ⟨W3.heap.size, 0, none⟩ = some (.int .i64 l') := (((Below.refl _ _).alloc (Nat.le_refl _) _).cell (p := ⟨W3.heap.size, 0, none⟩) hsz7).trans e0
    have m1 : (W7.alloc (.cells #[.int .i64 0, .int .i64 0, .int .i64 0, .int .i64 0] 24)).cell? ⟨W3.heap.size, 1, none⟩ = some (.int .i64 s') := (((Below.refl _ _).alloc (Nat.le_refl _) _).cell (p := ⟨W3.heap.size, 1, none⟩) hsz7).trans e1
    have m2 : (W7.alloc (.cells #[.int .i64 0, .int .i64 0, .int .i64 0, .int .i64 0] 24)).cell? ⟨W3.heap.size, 2, none⟩ = some (.int .i64 d) := (((Below.refl _ _).alloc (Nat.le_refl _) _).cell (p := ⟨W3.heap.size, 2, none⟩) hsz7).trans e2
    have m3 : (W7.alloc (.cells #[.int .i64 0, .int .i64 0, .int .i64 0, .int .i64 0] 24)).cell? ⟨W3.heap.size, 3, none⟩ = some (.int .i64 dc) := (((Below.refl _ _).alloc (Nat.le_refl _) _).cell (p := ⟨W3.heap.size, 3, none⟩) hsz7).trans e3
    have hsz8 : W3.heap.size < (W7.alloc (.cells #[.int .i64 0, .int .i64 0, .int .i64 0, .int .i64 0] 24)).heap.size := by simp; omega
    generalize W7.alloc (.cells #[.int .i64 0, .int .i64 0, .int .i64 0, .int .i64 0] 24) = W8 at *
    clear e0 e1 e2 e3
    refine (HS1.out _).mono ?_
    rintro e W9 ⟨rfl, hB9⟩
    have hB9w := Lib.hid (hB8w.out.trans (hB9.mono hB8w.out.size))
    have e0 := (hB9.cell (p := ⟨W3.heap.size, 0, none⟩) hsz8).trans m0
    have e1 := (hB9.cell (p := ⟨W3.heap.size, 1, none⟩) hsz8).trans m1
    have e2 := (hB9.cell (p := ⟨W3.heap.size, 2, none⟩) hsz8).trans m2
    have e3 := (hB9.cell (p := ⟨W3.heap.size, 3, none⟩) hsz8).trans m3
    have hsz9 := Nat.lt_of_lt_of_le hsz8 hB9.size
    clear m0 m1 m2 m3 hB9
    go_wp2_with fail
    refine (HS2.out _).mono ?_
    rintro e W10 ⟨rfl, hB10⟩
    have hB10w := Lib.hid (hB9w.out.trans (hB10.mono hB9w.out.size))
    have m0 := (hB10.cell (p := ⟨W3.heap.size, 0, none⟩) hsz9).trans e0
    clear e0 e1 e2 e3 hB10
    go_wp2_with fail
    go_ret
    exact ⟨rfl, hB10w.out⟩
  · have z0 : ((er : Int) != 0) = true := by simp; omega
    have hz := hferr.out her
    injection hz with q1 q2
    injection q2 with q2 q3
    injection q3 with q3 q4
    subst q1 q2 q3 q4
    clear hferr hfok hfov hfn HP
    go_wp2_with fail
    go_ret
    exact ⟨rfl, hB4w.out⟩
end Go.Proofs.Ytilgjmabfjhojaa
