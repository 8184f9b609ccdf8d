/- gameroomkeep.DiceAll returns true whatever it is given (all_any); conditions: the slice reads as a list of ints of 64 bits, many and sides are ints of 64 bits. -/
import Derived.Test.YtlpiejeaekfchaaEq
import Derived.Test.YtlpiejeaekfchaaPick
import Derived.Deep.DeepCutAuto
import Derived.Deep.CutBlock
namespace Go.Proofs.Ytlpiejeaekfchaa
open Go.RowKit

def asInts (ds : List Nat) : List Int := ds.map fun s : Nat => (s : Int)
def dsOf (xs : List Int) (j : Nat) : List Nat := (xs.take j).map fun x => 1 + pick x 20
theorem dsOf_snoc (xs : List Int) (j : Nat) (h : j < xs.length) : dsOf xs (j + 1) = dsOf xs j ++ [1 + pick (xs[j]?.getD 0) 20] := by
  unfold dsOf
  rw [List.take_succ_eq_append_getElem h, List.map_append]; simp [h]
theorem dsOf_mem (xs : List Int) (j : Nat) : ∀ s ∈ dsOf xs j, 1 ≤ s ∧ s ≤ 20 := by
  intro s hs
  unfold dsOf at hs
  obtain ⟨x, _, rfl⟩ := List.mem_map.1 hs
  have := pick_lt x 20 (by omega)
  omega
theorem dsOf_len (xs : List Int) (j : Nat) (h : j ≤ xs.length) : (dsOf xs j).length = j := by simp [dsOf]; omega
theorem prod_le (ds : List Nat) (h : ∀ s ∈ ds, 1 ≤ s ∧ s ≤ 20) : prod ds ≤ 20 ^ ds.length := by
  induction ds with
  | nil => simp [prod]
  | cons s ds ih =>
    have h1 := ih fun t ht => h t (List.mem_cons_of_mem _ ht)
    have h2 := h s (List.mem_cons_self ..)
    have h3 := prod_pos ds fun t ht => (h t (List.mem_cons_of_mem _ ht)).1
    simp only [prod, List.length_cons, Int.pow_succ]
    have : (s : Int) * prod ds ≤ 20 * 20 ^ ds.length := Int.mul_le_mul (by omega) h1 (by omega) (by omega)
    omega
theorem prod_small (xs : List Int) (j : Nat) (hj : j ≤ xs.length) (h6 : j ≤ 6) : 1 ≤ prod (dsOf xs j) ∧ prod (dsOf xs j) ≤ 64000000 ∧ (j ≤ 5 → prod (dsOf xs j) ≤ 3200000) := by
  have h1 := prod_pos (dsOf xs j) fun s hs => (dsOf_mem xs j s hs).1
  have h2 := prod_le (dsOf xs j) (dsOf_mem xs j)
  rw [dsOf_len xs j hj] at h2
  refine ⟨h1, ?_, fun h5 => ?_⟩
  · rcases (show j = 0 ∨ j = 1 ∨ j = 2 ∨ j = 3 ∨ j = 4 ∨ j = 5 ∨ j = 6 from by omega) with rfl | rfl | rfl | rfl | rfl | rfl | rfl <;> omega
  · rcases (show j = 0 ∨ j = 1 ∨ j = 2 ∨ j = 3 ∨ j = 4 ∨ j = 5 from by omega) with rfl | rfl | rfl | rfl | rfl | rfl <;> omega

theorem lsum_nonneg {l : List Int} (h : ∀ j, j < l.length → 0 ≤ l[j]?.getD 0) : 0 ≤ lsum l := by
  rw [lsum_sumN]; exact sumN_nonneg h

set_option maxRecDepth 100000 in
set_option maxHeartbeats 2000000 in
theorem all_any (p : Option Addr) (n c : Nat) (xs : List Int) (many sides : Int) (w : World) (hn : n ≤ 9223372036854775807) (hx : IntsIn w p n xs) (hw : Hid (∀ j, j < n → -9223372036854775808 ≤ xs[j]?.getD 0 ∧ xs[j]?.getD 0 ≤ 9223372036854775807))
    (m1 : -9223372036854775808 ≤ many) (m2 : many ≤ 9223372036854775807) (s1 : -9223372036854775808 ≤ sides) (s2 : sides ≤ 9223372036854775807) :
    Calls Try.prog 4 #[.slice p n c, .int .i64 many, .int .i64 sides] w fun e w' => e = .returned (.bool true) ∧ Below w.heap.size w w' := by
  have hlen := Lib.hid hx.len
  replace hx := Lib.hid hx
  go_enter Try.func4, Try.ntmps4
  go_upto_block 0 with (fail)
  go_cut [7, 8] (fun l all W => ∃ j c' : Nat, ∃ q : Option Addr, j ≤ n ∧ j ≤ 6 ∧ (j = 0 → n = 0) ∧ l = .slice q j c' ∧ IntsIn W q j (asInts (dsOf xs j)) ∧ all = .int .i64 (prod (dsOf xs j)) ∧ Below w.heap.size w W)
  case first =>
    go_wp2_with fail
    go_loopg [7, 8, 9] 6 (fun k l all i W => ∃ j c' : Nat, ∃ q : Option Addr, j ≤ n ∧ j ≤ 6 ∧ k = 6 - j ∧ i = .int .i64 j ∧ l = .slice q j c' ∧ Own 3 w.heap.size W q j c' (asInts (dsOf xs j)) ∧ all = .int .i64 (prod (dsOf xs j)) ∧ Below w.heap.size w W)
    case atStart => exact ⟨0, 0, none, by omega, by omega, rfl, rfl, rfl, Own.nil _ _ _, rfl, Below.refl _ _⟩
    case round =>
      obtain ⟨j, c', q, hj, hj6, hk, rfl, rfl, hO, rfl, hB⟩ := hrel
      replace hk := Lib.hid hk
      by_cases hlt : j < n
      · by_cases hlt6 : j < 6
        · obtain ⟨b, o, rfl, hb, hc⟩ := (hx.out.below hB).at (by omega)
          have hcj := hc j hlt
          obtain ⟨w1, w2⟩ := hw.out j hlt
          have hpl := pick_lt (xs[j]?.getD 0) 20 (by omega)
          have hsn := dsOf_snoc xs j (by have := hlen.out; omega)
          obtain ⟨P1, P2, P3⟩ := prod_small xs j (by have := hlen.out; omega) hj6
          replace P3 := P3 (by omega)
          have H := Lib.hid (picked_any (xs[j]?.getD 0) 20 wr w1 w2 (by omega) (by omega) 20 rfl)
          generalize hv : pick (xs[j]?.getD 0) 20 = v at *
          have hPv : prod (dsOf xs j) * (1 + (v : Int)) ≤ 3200000 * 20 := Int.mul_le_mul P3 (by omega) (by omega) (by omega)
          have hPv0 : 0 ≤ prod (dsOf xs j) * (1 + (v : Int)) := Int.mul_nonneg (by omega) (by omega)
          have hB' := hB.size
          replace hv := Lib.hid hv; replace hO := Lib.hid hO; replace hB := Lib.hid hB; replace hsn := Lib.hid hsn
          clear hc
          go_wp2_with fail
          refine H.out.mono ?_
          rintro e w' ⟨rfl, rfl⟩
          go_wp2_with (at_builtin; refine wp_append1 int22 wr rfl _ _ rfl w.heap.size q j c' _ rfl hO.out (1 + (v : Int)) rfl (by omega) hB' ?_; intro q' c2 w2 hO2 hg2 _ hz2)
          have hB2 : Below w.heap.size w w2 := hB.out.grown hg2 hB' (fun x hx => by cases q with
            | none => cases hx
            | some a => cases hx; exact (hO.out.block a rfl).1)
          have hk := hk.out
          go_roundg (6 - (j + 1))
          case measure => omega
          case rel =>
            have e1 : asInts (dsOf xs (j + 1)) = asInts (dsOf xs j) ++ [1 + (v : Int)] := by rw [hsn.out]; simp [asInts]
            have e2 : prod (dsOf xs (j + 1)) = prod (dsOf xs j) * (1 + (v : Int)) := by rw [hsn.out, prod_append]; simp [prod]
            exact ⟨j + 1, c2, q', by omega, by omega, rfl, by go_num, rfl, by rw [e1]; exact hO2, by rw [e2], hB2⟩
        · have h0 := hO.in
          replace h0 := Lib.hid h0; replace hB := Lib.hid hB; replace hO := Lib.hid hO
          go_wp2_with fail
          go_meet
          exact ⟨j, c', q, hj, hj6, by omega, rfl, h0.out, rfl, hB.out⟩
      · have h0 := hO.in
        replace h0 := Lib.hid h0; replace hB := Lib.hid hB; replace hO := Lib.hid hO
        go_wp2_with fail
        go_meet
        exact ⟨j, c', q, hj, hj6, by omega, rfl, h0.out, rfl, hB.out⟩
  case rest =>
    obtain ⟨j, c', q, hj, hj6, hj0, rfl, h0, rfl, hB⟩ := hcut
    have hjl : j ≤ xs.length := by have := hlen.out; omega
    go_upto_if 47 with (fail)
    go_cut [7, 8] (fun l all W => ∃ ds : List Nat, ∃ m c' : Nat, ∃ q : Option Addr, ds.length = m ∧ 1 ≤ m ∧ m ≤ 6 ∧ (∀ s ∈ ds, 1 ≤ s ∧ s ≤ 20) ∧ l = .slice q m c' ∧ IntsIn W q m (asInts ds) ∧ all = .int .i64 (prod ds) ∧ prod ds ≤ 64000000 ∧ Below w.heap.size w W)
    case first =>
      replace h0 := Lib.hid h0; replace hB := Lib.hid hB
      replace hj0 := Lib.hid hj0; replace hjl := Lib.hid hjl
      by_cases hj1 : j = 0
      · have hj1' : ((j : Int) == 0) = true := by simp [hj1]
        clear hj1
        go_wp2
        go_meet
        exact ⟨[6], 1, 1, _, rfl, by omega, by omega, by simp, rfl, IntsIn.new _ _ _ _ _ _ rfl rfl rfl, rfl, by decide, hB.out.alloc hB.out.size _⟩
      · have hj1' : ((j : Int) == 0) = false := by simp; omega
        go_wp2
        go_meet
        exact ⟨dsOf xs j, j, c', q, dsOf_len xs j hjl.out, by have := of_decide_eq_false hj1'; omega, hj6, dsOf_mem xs j, rfl, h0.out, rfl, (prod_small xs j hjl.out hj6).2.1, hB.out⟩
    case rest =>
      clear h0 hB
      obtain ⟨ds, m, c', q, hdl, hm1, hm6, hds, rfl, hq, rfl, hpr, hB⟩ := hcut
      have S := sums_ok q m c' (asInts ds) ds wc rfl hm1 (by omega) hq hds (by omega)
      have hE := sums_even ds (fun s hs => (hds s hs).1) [1] even_one
      have hSum := sums_sum ds (fun s hs => (hds s hs).1) [1]
      have hSl := sumsL_len ds hds [1] (by simp)
      simp only [lsum, Int.add_zero, Int.mul_one] at hSum
      generalize hA : prod ds = A at *
      generalize sumsL ds [1] = T at *
      replace S := Lib.hid S; replace hA := Lib.hid hA; replace hdl := Lib.hid hdl; replace hB := Lib.hid hB; replace hE := Lib.hid hE; replace hSum := Lib.hid hSum
      clear hds hq hjl hj hj6 hj0
      go_wp2_with fail
      refine S.out.mono ?_
      rintro e w1 ⟨p1, t, c1, rfl, hT, hB1⟩
      replace hB := Lib.hid (hB.out.trans (hB1.mono hB.out.size)); clear hB1
      have hTl := hT.len
      have ht1 : 1 ≤ t ∧ t ≤ 121 := by have := hdl.out; simp at hSl; omega
      replace hTl := Lib.hid hTl
      obtain ⟨b, o, rfl, hb, hc⟩ := hT.at (by omega)
      replace hT := Lib.hid hT
      clear hSl
      go_wp2_with fail
      have hAll : Hid (∀ a, a ≤ t → 0 ≤ lsum (T.take a) ∧ lsum (T.take a) ≤ A) := fun a ha => by
        have hl := hTl.out; have hE := hE.out; have hS := hSum.out
        have e : lsum T = lsum (T.take a) + lsum (T.drop a) := by rw [← lsum_append, List.take_append_drop]
        have p1 : 0 ≤ lsum (T.take a) := lsum_nonneg fun j hj => by
          have := hE.1 j (by simp at hj; omega)
          simp at hj; rw [List.getElem?_take_of_lt (by omega)]; exact this
        have p2 : 0 ≤ lsum (T.drop a) := lsum_nonneg fun j hj => by
          have := hE.1 (a + j) (by simp at hj; omega)
          simpa using this
        omega
      go_loopg [13, 14] t (fun k v i W => ∃ a : Nat, ∃ x : Int, a ≤ t ∧ k = t - a ∧ i = .int .i64 a ∧ v = .int .i64 x ∧ x = lsum (T.take a) ∧ 0 ≤ x ∧ x ≤ A ∧ Below w1.heap.size w1 W)
      case atStart => exact ⟨0, 0, by omega, by omega, rfl, rfl, by simp [lsum], by omega, by have := hAll.out 0 (by omega); simp [lsum] at this; omega, Below.refl _ _⟩
      case round =>
        obtain ⟨a, x, ha, hk, rfl, rfl, hx1, hx2, hx3, hBa⟩ := hrel
        replace hk := Lib.hid hk; replace hx1 := Lib.hid hx1
        by_cases hat : a < t
        · have d1 := (hBa.cell (p := ⟨b, o + a, none⟩) hb).trans (hc a hat)
          have d2 := (hBa.cell (p := ⟨b, o + (t - 1 - a), none⟩) hb).trans (hc (t - 1 - a) (by omega))
          have hev := hE.out.2 a (by have := hTl.out; omega)
          rw [hTl.out] at hev
          have hpos := hE.out.1 a (by have := hTl.out; omega)
          rw [← hev] at d2
          have hsn : Hid (lsum (T.take (a + 1)) = x + T[a]?.getD 0) := by
            show _ = _
            have hl : a < T.length := by have := hTl.out; omega
            rw [List.take_succ_eq_append_getElem hl, lsum_append, ← hx1.out]; simp [lsum, hl]
          have hx4 := (hAll.out (a + 1) (by omega))
          rw [hsn.out] at hx4
          have h0 : (0 : Int) ≤ (t : Int) - 1 - a := by omega
          have hlt1 : (t : Int) - 1 - a < t := by omega
          have hlt2 : (a : Int) < t := by omega
          replace hev := Lib.hid hev; replace hBa := Lib.hid hBa
          go_wp2
          go_quiet (fail)
          go_wp2
          have hk := hk.out
          go_roundg (t - (a + 1))
          case measure => omega
          case rel => exact ⟨a + 1, _, by omega, rfl, by go_num, rfl, hsn.out.symm, by omega, by omega, below_drewN hBa.out _⟩
        · have hxA : x = A := by
            have h1 := hx1.out; have h2 := hTl.out
            rw [List.take_of_length_le (by omega)] at h1
            rw [h1]; exact hSum.out
          subst hxA
          replace hB := Lib.hid (hB.out.trans (hBa.mono hB.out.size))
          clear hBa
          go_wp2_with fail
          refine (picked_any many 4 _ m1 m2 (by omega) (by omega) _ rfl).mono ?_
          rintro e w2 ⟨rfl, rfl⟩
          have q1 := pick_lt many 4 (by omega)
          generalize pick many 4 = mv at *
          go_wp2_with fail
          refine (picked_any sides 8 _ s1 s2 (by omega) (by omega) _ rfl).mono ?_
          rintro e w2 ⟨rfl, rfl⟩
          have q2 := pick_lt sides 8 (by omega)
          generalize pick sides 8 = sv at *
          have K := keep_sums mv q1 sv q2
          have S2 := fun q c W (h : IntsIn W q (mv + 1) (asInts (List.replicate (mv + 1) (sv + 1)))) => sums_ok q (mv + 1) c (asInts (List.replicate (mv + 1) (sv + 1))) (List.replicate (mv + 1) (sv + 1)) W rfl (by omega) (by omega) h (by intro s hs; obtain rfl := (List.mem_replicate.1 hs).2; omega)
            (by
              have h := prod_le (List.replicate (mv + 1) (sv + 1)) (by intro s hs; obtain rfl := (List.mem_replicate.1 hs).2; omega)
              rw [List.length_replicate] at h
              rcases (show mv = 0 ∨ mv = 1 ∨ mv = 2 ∨ mv = 3 from by omega) with rfl | rfl | rfl | rfl <;> omega)
          have KO : ∀ (W : World) (nI kI : Int), nI = ((mv + 1 : Nat) : Int) → kI = ((sv + 1 : Nat) : Int) → Calls Try.prog 8 #[.int .i64 nI, .int .i64 kI, .int .i64 nI] W fun e w' => ∃ p m c, e = .returned (.tuple #[.slice p m c, .int .i64 0]) ∧ IntsIn w' p m (sumsL (List.replicate (mv + 1) (sv + 1)) [1]) ∧ Below W.heap.size W w' := fun W nI kI e1 e2 => by
            subst e1 e2
            exact keep_ok (mv + 1) (sv + 1) W _ (by omega) (by omega) (by omega) (by omega) K
          have hT2 := (sumsL_len (List.replicate (mv + 1) (sv + 1)) (by intro s hs; obtain rfl := (List.mem_replicate.1 hs).2; omega) [1] (by simp)).2
          simp only [List.length_replicate, List.length_cons, List.length_nil] at hT2
          generalize sumsL (List.replicate (mv + 1) (sv + 1)) [1] = T2 at *
          replace hT2 := Lib.hid hT2
          replace S2 := Lib.hid S2; replace KO := Lib.hid KO
          clear K hc hT hTl hAll ht1 hE hSum hA hdl
          go_wp2_with fail
          go_loopg [17, 18] (mv + 1) (fun k l i W => ∃ a c' : Nat, ∃ q : Option Addr, a ≤ mv + 1 ∧ k = mv + 1 - a ∧ i = .int .i64 a ∧ l = .slice q a c' ∧ Own 3 w.heap.size W q a c' (asInts (List.replicate a (sv + 1))) ∧ Below w.heap.size w W)
          case atStart => exact ⟨0, 0, none, by omega, by omega, rfl, rfl, Own.nil _ _ _, hB.out⟩
          case round =>
            clear hB
            obtain ⟨a, c', q, ha, hk, rfl, rfl, hO, hB⟩ := hrel
            replace hk := Lib.hid hk
            by_cases hat : a < mv + 1
            · have hB' := hB.size
              obtain ⟨W0, rfl⟩ : ∃ W0 : World, W0 = wr := ⟨_, rfl⟩
              replace hO := Lib.hid hO; replace hB := Lib.hid hB
              go_wp2_with (at_builtin; refine wp_append1 int22 _ rfl _ _ rfl w.heap.size q a c' _ rfl hO.out (1 + (sv : Int)) rfl (by omega) hB' ?_; intro q' c2 w2 hO2 hg2 _ hz2)
              have hB2 : Below w.heap.size w w2 := hB.out.grown hg2 hB' (fun x hx => by cases q with
                | none => cases hx
                | some a => cases hx; exact (hO.out.block a rfl).1)
              have hk := hk.out
              go_roundg (mv + 1 - (a + 1))
              case measure => omega
              case rel =>
                have e1 : asInts (List.replicate (a + 1) (sv + 1)) = asInts (List.replicate a (sv + 1)) ++ [1 + (sv : Int)] := by
                  rw [List.replicate_succ']; simp [asInts]; omega
                exact ⟨a + 1, c2, q', by omega, rfl, by go_num, rfl, by rw [e1]; exact hO2, hB2⟩
            · have ham : a = mv + 1 := by omega
              subst ham
              have hq := hO.in
              replace hq := Lib.hid hq; replace hB := Lib.hid hB
              clear hO
              go_wp2_with fail
              refine (S2.out _ _ _ hq.out).mono ?_
              rintro e w3 ⟨p3, t3, c3, rfl, hT3, hB3⟩
              replace hB := Lib.hid (hB.out.trans (hB3.mono hB.out.size)); clear hB3
              replace hT3 := Lib.hid hT3
              go_wp2_with fail
              refine (KO.out _ _ _ (by omega) (by omega)).mono ?_
              rintro e w4 ⟨p4, t4, c4, rfl, hT4, hB4⟩
              replace hB := Lib.hid (hB.out.trans (hB4.mono hB.out.size))
              replace hT3 := Lib.hid (hT3.out.below hB4); clear hB4
              replace hT4 := Lib.hid hT4
              go_wp2_with fail
              have hl3 := hT3.out.len; have hl4 := hT4.out.len
              refine (same_any _ _ _ _ _ _ T2 T2 _ (by have := hT2.out; omega) hT3.out hT4.out).mono ?_
              rintro e w5 ⟨rfl, hB5⟩
              replace hB := Lib.hid (hB.out.trans (hB5.mono hB.out.size)); clear hB5
              go_wp2_with fail
              go_ret
              exact ⟨by simp, hB.out⟩
end Go.Proofs.Ytlpiejeaekfchaa
