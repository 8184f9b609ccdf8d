/- What the closure of magic.Count adds to its count; conditions: squares of three rows, nothing given, the boxes lie as Count lays them. -/
import Derived.Test.YtbfdhegglaaghaaCSt
import Derived.StillTailTactics
import Derived.BigQuiet
import Derived.Deep.DeepCutAuto
import Derived.Deep.RegionHeld3
namespace Go.Proofs.Ytbfdhegglaaghaa
open Go.RowKit

theorem sumV_at (f : Nat → Nat) {v : Nat} (hv : 1 ≤ v) : sumV f v = sumV f (v - 1) + f v := by
  obtain ⟨u, rfl⟩ : ∃ u, v = u + 1 := ⟨v - 1, by omega⟩
  rfl
theorem take_set (l : List Int) (p : List Nat) (a v : Nat) (ha : a < l.length) (h : l.take a = asI p) : (l.set a (v : Int)).take (a + 1) = asI (p ++ [v]) := by
  have e : (l.set a (v : Int)).take (a + 1) = l.take a ++ [(v : Int)] := by
    rw [List.take_add_one, List.take_set_of_le (Nat.le_refl a)]
    simp [ha]
  rw [e, h]
  simp [asI]
theorem take_less {l : List Int} {p : List Nat} {a v : Nat} (ha : p.length = a) (h : l.take (a + 1) = asI (p ++ [v])) : l.take a = asI p := by
  have e := congrArg (List.take a) h
  rw [List.take_take, Nat.min_eq_left (Nat.le_succ a)] at e
  rw [e]
  simp [asI, ← ha]
theorem row_kept (k : Int) (B : Nat) (W X : World) (hB : Below B W X) (hBX : B ≤ X.heap.size) : Calls Try.prog 23 #[.int .i64 k] X fun e X' => ∃ b, e = .returned (.func (.func 34) #[] #[.pointer (some ⟨b, 0, none⟩)]) ∧ Box X' b k ∧ (∀ b' v, Box X b' v → Box X' b' v) ∧ Below B W X' ∧ B ≤ X'.heap.size :=
  (mk0 k X).mono fun _ _ ⟨h1, h2⟩ => ⟨X.heap.size, h1, by rw [h2]; exact Box.new X k, fun b' v h => by rw [h2]; exact h.below ((Below.refl _ _).alloc (Nat.le_refl _) _) h.lt, by rw [h2]; exact hB.alloc hBX _, by rw [h2]; simp; omega⟩
theorem sum_kept (k : Nat) (c : Nat) (L : Nat) (l : List Int) (B : Nat) (W X : World) (b : Nat) (hk : k < 3) (hl : ∀ x ∈ l, -1000000 ≤ x ∧ x ≤ 1000000) (hx : IntsIn X (some ⟨L, 0, none⟩) 9 l) (hb : Box X b k) (hB : Below B W X) (hBX : B ≤ X.heap.size) :
    Calls Try.prog 22 #[.slice (some ⟨L, 0, none⟩) 9 c, .int .i64 3, .func (.func 34) #[] #[.pointer (some ⟨b, 0, none⟩)]] X fun e X' => e = .returned (.int .i64 (sumI l 3 0 k 3)) ∧ (∀ b' v, Box X b' v → Box X' b' v) ∧ Below B W X' ∧ B ≤ X'.heap.size :=
  (isumd b k 3 c (some ⟨L, 0, none⟩) l X (by omega) (by omega) hk hx hl hb).mono fun _ _ ⟨h1, d, h2⟩ => ⟨h1, fun _ _ h => by rw [h2]; exact h, by rw [h2]; exact below_drewN hB d, by rw [h2]; exact hBX⟩
set_option maxRecDepth 100000 in
set_option maxHeartbeats 8000000 in
theorem fill_any (H nb gb L lb mb fb g : Nat) : ∀ (k a used m : Nat) (p : List Nat) (l : List Int) (W : World), a + k = 9 → p.length = a → used < 1024 → m + 9 ^ k ≤ 4611686018427387904 → l.take a = asI p → Hid (Fs H nb gb L lb mb fb g W l m) →
    Calls Try.prog 21 #[.int .i64 a, .int .u64 used, .pointer (some ⟨nb, 0, none⟩), .pointer (some ⟨lb, 0, none⟩), .pointer (some ⟨mb, 0, none⟩), .pointer (some ⟨gb, 0, none⟩), .pointer (some ⟨fb, 0, none⟩)] W
      fun r W' => r = .returned (.tuple #[]) ∧ (∃ l', Fs H nb gb L lb mb fb g W' l' (m + cntP k used p) ∧ l'.take a = asI p) ∧ Below H W W' := by
  intro k
  induction k with
  | zero =>
    intro a used m p l W ha hp hu hm ht hS
    obtain rfl : a = 9 := by omega
    have d1 : W.cell? ⟨nb, 0, none⟩ = some (.int .i64 3) := wcell (cs := [_]) hS.out.n0 0
    have d2 : W.cell? ⟨lb, 0, none⟩ = some (.slice (some ⟨L, 0, none⟩) 9 9) := wcell (cs := [_]) hS.out.l0 0
    have HK : Calls Try.prog 19 #[.slice (some ⟨L, 0, none⟩) 9 9, .int .i64 3] W fun e w' => e = .returned (.tuple #[.int .i64 (kindI l 3).1, .int .i64 (kindI l 3).2]) ∧ Below W.heap.size W w' :=
      ikind_any 3 9 (some ⟨L, 0, none⟩) l W (by omega) (by omega) hS.out.row hS.out.lb'
    have hl9 : l = asI p := by rw [← ht]; exact (List.take_of_length_le (by rw [hS.out.len]; exact Nat.le_refl _)).symm
    have hc : Hid (cntP 0 used p = if 2 ≤ (kindI l 3).1 then 1 else 0) := by show leafP p = _; rw [hl9]; rfl
    replace HK := Lib.hid HK; replace ht := Lib.hid ht; replace hl9 := Lib.hid hl9
    generalize kindI l 3 = ks at *
    obtain ⟨k1, k2⟩ := ks
    simp only at HK hc
    go_enter Try.func21, Try.ntmps21
    go_wp2_with fail
    refine HK.out.mono ?_
    rintro e W1 ⟨rfl, hB⟩
    have hS1 := Lib.hid (hS.out.below hB)
    have hB1 := Lib.hid (hB.mono hS.out.base)
    clear hB d1 d2 hS HK
    have c1 : W1.cell? ⟨mb, 0, none⟩ = some (.int .i64 (m : Int)) := wcell (cs := [_]) hS1.out.m0 0
    have c2 : W1.frozen? ⟨mb, 0, none⟩ = false := wfree hS1.out.m0 0
    by_cases h2 : 2 ≤ k1
    · obtain ⟨hS2, hB2⟩ := hS1.out.many (m + 1)
      have e1 : ((m + 1 : Nat) : Int) = (m : Int) + 1 := by push_cast; rfl
      rw [e1] at hS2 hB2
      replace hS2 := Lib.hid hS2
      have hB3 := Lib.hid (hB1.out.trans hB2)
      clear hB2
      go_wp2_with fail
      refine bodyPost_ret (results_none rfl _ _ _) rfl ⟨rfl, ⟨l, ?_, ht.out⟩, hB3.out⟩
      rw [hc.out, if_pos h2]; exact hS2.out
    · go_wp2_with fail
      refine bodyPost_ret (results_none rfl _ _ _) rfl ⟨rfl, ⟨l, ?_, ht.out⟩, hB1.out⟩
      rw [hc.out, if_neg h2]; exact hS1.out
  | succ k ih =>
    intro a used m p l W ha hp hu hm ht hS
    have IH := Lib.hid ih
    clear ih
    have d1 : W.cell? ⟨nb, 0, none⟩ = some (.int .i64 3) := wcell (cs := [_]) hS.out.n0 0
    have hcn : Hid (cntP (k + 1) used p = sumV (fun v => if used / 2 ^ v % 2 = 1 then 0 else if badP (p ++ [v]) then 0 else cntP k (used ||| 2 ^ v) (p ++ [v])) 9) := rfl
    have hM := Lib.hid (fun u => sumV_le (f := fun v => if used / 2 ^ v % 2 = 1 then 0 else if badP (p ++ [v]) then 0 else cntP k (used ||| 2 ^ v) (p ++ [v])) (M := 9 ^ k) (fun v => by
      show (if used / 2 ^ v % 2 = 1 then 0 else if badP (p ++ [v]) then 0 else cntP k (used ||| 2 ^ v) (p ++ [v])) ≤ _
      split; exact Nat.zero_le _; split; exact Nat.zero_le _; exact cntP_le _ _ _) u)
    generalize hf : (fun v => if used / 2 ^ v % 2 = 1 then 0 else if badP (p ++ [v]) then 0 else cntP k (used ||| 2 ^ v) (p ++ [v])) = f at *
    have hfv : Hid (∀ v, f v = if used / 2 ^ v % 2 = 1 then 0 else if badP (p ++ [v]) then 0 else cntP k (used ||| 2 ^ v) (p ++ [v])) := fun v => by rw [← hf]
    replace hf := Lib.hid hf; replace hm := Lib.hid hm; replace hp := Lib.hid hp; replace ht := Lib.hid ht
    have ha9 : ((a : Int) == 9) = false := by simp; omega
    go_enter Try.func21, Try.ntmps21
    go_wp2_with fail
    go_loopg [11] 9 (fun gk iv W' => ∃ (v : Nat) (l1 : List Int), 1 ≤ v ∧ v ≤ 10 ∧ gk = 10 - v ∧ iv = .int .i64 v ∧ Fs H nb gb L lb mb fb g W' l1 (m + sumV f (v - 1)) ∧ l1.take a = asI p ∧ Below H W W')
    case atStart => exact ⟨1, l, by omega, by omega, by omega, rfl, hS.out, ht.out, Below.refl _ _⟩
    case round =>
      obtain ⟨v, l1, hv1, hv, hgk, rfl, hS1, ht1, hB1⟩ := hrel
      obtain ⟨W1, rfl⟩ : ∃ W1 : World, W1 = wr := ⟨_, rfl⟩
      clear hS d1
      replace hgk := Lib.hid hgk
      have d1 : W1.cell? ⟨nb, 0, none⟩ = some (.int .i64 3) := wcell (cs := [_]) hS1.n0 0
      have d2 : W1.cell? ⟨gb, 0, none⟩ = some (.slice (some ⟨g, 0, none⟩) 9 9) := wcell (cs := [_]) hS1.g0 0
      have d3 : W1.cell? ⟨lb, 0, none⟩ = some (.slice (some ⟨L, 0, none⟩) 9 9) := wcell (cs := [_]) hS1.l0 0
      have d4 : W1.cell? ⟨g, a, none⟩ = some (.int .i64 0) := hS1.z a (by omega)
      by_cases hlt : v ≤ 9
      · have hs1 := Lib.hid (sumV_at f hv1)
        have hMi := hM.out (v - 1)
        have hfq1 := hfv.out v
        obtain ⟨M, hMe⟩ : ∃ M, M = sumV f (v - 1) := ⟨_, rfl⟩
        rw [← hMe] at hS1 hs1 hMi
        have hp64 : 2 ^ v ≤ 512 := Nat.pow_le_pow_right (by omega) (show v ≤ 9 by omega)
        have hsd : used / 2 ^ v ≤ used := Nat.div_le_self _ _
        have hand : bits .and .u64 ((used : Int) / 2 ^ v) 1 = ((used / 2 ^ v % 2 : Nat) : Int) := by
          have h := u64_and_nat (used / 2 ^ v) 1 (by omega) (by omega)
          rw [nat_mask1] at h
          rw [← h, Int.natCast_ediv]; push_cast; rfl
        replace hMe := Lib.hid hMe
        by_cases hz : used / 2 ^ v % 2 = 1
        · rw [if_pos hz] at hfq1
          rw [hz] at hand
          replace hS1 := Lib.hid hS1; replace hB1 := Lib.hid hB1; replace ht1 := Lib.hid ht1; replace hsd := Lib.hid hsd; replace hp64 := Lib.hid hp64; replace hfq1 := Lib.hid hfq1; replace hz := Lib.hid hz; replace hMi := Lib.hid hMi
          clear IH hM hfv d2 d3 d4
          go_wp2_with fail
          have hgk := hgk.out
          go_roundg (10 - (v + 1))
          case measure => omega
          case rel =>
            refine ⟨v + 1, l1, by omega, by omega, rfl, by go_num, ?_, ht1.out, hB1.out⟩
            rw [Nat.add_sub_cancel, hs1.out, hfq1.out]; exact hS1.out
        · rw [if_neg hz] at hfq1
          have hz0 : used / 2 ^ v % 2 = 0 := by omega
          rw [hz0] at hand
          obtain ⟨hS2, hB2⟩ := hS1.put a v hlt
          have ht2 := Lib.hid (take_set l1 p a v (by rw [hS1.len]; omega) ht1)
          have hl2 := hS2.len
          have d5 : (W1.setCell ⟨L, a, none⟩ (.int .i64 (v : Int))).cell? ⟨nb, 0, none⟩ = some (.int .i64 3) := wcell (cs := [_]) hS2.n0 0
          have hB3 := Lib.hid (hB1.trans hB2)
          have f4 : W1.frozen? ⟨L, a, none⟩ = false := wfree hS1.r0 a
          have c4 : W1.cell? ⟨L, a, none⟩ = some (.int .i64 (l1[a]?.getD 0)) := Nums.cell hS1.r0 (by rw [hS1.len]; omega)
          have ha8 : a < 9 := by omega
          have hbn := Lib.hid (fun h => bad_not (p ++ [v]) a (by simp [hp.out]) h)
          have hbr := Lib.hid (fun h3 h0 => bad_row (l1.set a v) (p ++ [v]) a (by simp [hp.out]) ha8 hl2 ht2.out h3 h0)
          generalize hl1' : l1.set a (v : Int) = l2 at *
          replace hl1' := Lib.hid hl1'
          generalize l1[a]?.getD 0 = c at *
          replace hl2 := Lib.hid hl2
          have hy9 : a / 3 < 3 := by omega
          obtain ⟨y, hy⟩ : ∃ y, a / 3 = y := ⟨_, rfl⟩
          obtain ⟨r, hr⟩ : ∃ r, a % 3 = r := ⟨_, rfl⟩
          have t1 : (a : Int).tdiv 3 = (y : Int) := by rw [Int.tdiv_eq_ediv_of_nonneg (by omega)]; omega
          have t2 : (a : Int) / 3 = (y : Int) := by omega
          have t3 : (a : Int).tmod 3 = (r : Int) := by rw [Int.tmod_eq_emod_of_nonneg (by omega)]; omega
          have t4 : (a : Int) % 3 = (r : Int) := by omega
          rw [hy] at hbn hbr hy9
          rw [hr] at hbn hbr
          replace hy := Lib.hid hy; replace hr := Lib.hid hr
          replace hS2 := Lib.hid hS2; replace hB1 := Lib.hid hB1; replace ht1 := Lib.hid ht1; replace hsd := Lib.hid hsd; replace hp64 := Lib.hid hp64; replace hfq1 := Lib.hid hfq1; replace hz := Lib.hid hz; replace hz0 := Lib.hid hz0; replace hMi := Lib.hid hMi
          replace hS1 := Lib.hid hS1
          clear hM hfv hB2
          go_upto_region 10 with fail
          generalize W1.setCell ⟨L, a, none⟩ (.int .i64 (v : Int)) = W2 at *
          clear d1 d2 d3 d4 d5 f4 c4
          have d1 : W2.cell? ⟨nb, 0, none⟩ = some (.int .i64 3) := wcell (cs := [_]) hS2.out.n0 0
          have d3 : W2.cell? ⟨lb, 0, none⟩ = some (.slice (some ⟨L, 0, none⟩) 9 9) := wcell (cs := [_]) hS2.out.l0 0
          generalize hbd : badP (p ++ [v]) = bd at *
          go_cut [83] (fun bv wx => bv = .bool bd ∧ Fs H nb gb L lb mb fb g wx l2 (m + M) ∧ Below H W wx)
          case first =>
            by_cases c1 : r = 2
            · have g1 : ((r : Int) == 2) = true := by simp; omega
              by_cases c2 : 0 < y
              · have g2 : decide (0 < (y : Int)) = true := decide_eq_true (by omega)
                have hbe := Lib.hid (hbr.out c1 c2)
                have r0 : Below W2.heap.size W2 W2.drew := below_drewN (Below.refl _ _) 1
                have s0 : W2.heap.size ≤ W2.drew.heap.size := Nat.le_refl _
                have e1 : W2.drew.cell? ⟨nb, 0, none⟩ = some (.int .i64 3) := d1
                have e3 : W2.drew.cell? ⟨lb, 0, none⟩ = some (.slice (some ⟨L, 0, none⟩) 9 9) := d3
                have hnl : nb < W2.heap.size := lt_of_heap hS2.out.n0
                have hll : lb < W2.heap.size := lt_of_heap hS2.out.l0
                have KA := Lib.hid (row_kept (y : Int) W2.heap.size W2)
                have KB := Lib.hid (row_kept 0 W2.heap.size W2)
                have KC := Lib.hid (fun X b (hB : Below W2.heap.size W2 X) (hBX : W2.heap.size ≤ X.heap.size) (hb : Box X b y) => sum_kept y 9 L l2 W2.heap.size W2 X b hy9 hS2.out.lb' (hS2.out.row.below hB) hb hB hBX)
                have KD := Lib.hid (fun X b (hB : Below W2.heap.size W2 X) (hBX : W2.heap.size ≤ X.heap.size) (hb : Box X b ((0 : Nat) : Int)) => sum_kept 0 9 L l2 W2.heap.size W2 X b (by omega) hS2.out.lb' (hS2.out.row.below hB) hb hB hBX)
                clear hbn hbr
                replace t3 : (a : Int).tmod 3 = 2 := by omega
                replace t4 : (a : Int) % 3 = 2 := by omega
                replace c1 := Lib.hid c1
                clear g1
                generalize sumI l2 3 0 y 3 = SY at *
                generalize sumI l2 3 0 0 3 = SZ at *
                go_region_held3 (fun X => X.cell? ⟨nb, 0, none⟩ = some (.int .i64 3) ∧ X.cell? ⟨lb, 0, none⟩ = some (.slice (some ⟨L, 0, none⟩) 9 9)) (first | with_reducible exact ⟨e1, e3⟩ | with_reducible exact ⟨x1, x3⟩ | go_keep)
                  (first
                  | ((try refine (if_pos rfl).mpr ?_); go_at_call 23; (with_reducible refine (KA.out _ ?_ ?_).mono ?_); (first | exact r0 | exact hbB | exact hbD); (first | exact s0 | exact hsB | exact hsD); rintro e X6 ⟨bA, rfl, hA, kA, hbA, hsA⟩; replace hA := Lib.hid hA; replace kA := Lib.hid kA; have x1 := (hbA.cell (p := ⟨nb, 0, none⟩) hnl).trans d1; have x3 := (hbA.cell (p := ⟨lb, 0, none⟩) hll).trans d3)
                  | ((try refine (if_pos rfl).mpr ?_); go_at_call 23; (with_reducible refine (KB.out _ ?_ ?_).mono ?_); (first | exact r0 | exact hbA | exact hbC); (first | exact s0 | exact hsA | exact hsC); rintro e X7 ⟨bB, rfl, hB, kB, hbB, hsB⟩; replace hB := Lib.hid hB; replace kB := Lib.hid kB; have x1 := (hbB.cell (p := ⟨nb, 0, none⟩) hnl).trans d1; have x3 := (hbB.cell (p := ⟨lb, 0, none⟩) hll).trans d3)
                  | ((try refine (if_pos rfl).mpr ?_); go_at_call 22; (with_reducible refine (KC.out _ bA ?_ ?_ ?_).mono ?_); (first | exact hbA | exact hbB | exact hbD); (first | exact hsA | exact hsB | exact hsD); (first | exact hA.out | exact kB.out _ _ hA.out | exact kD.out _ _ (kB.out _ _ hA.out)); rintro e X8 ⟨rfl, kC, hbC, hsC⟩; replace kC := Lib.hid kC; have x1 := (hbC.cell (p := ⟨nb, 0, none⟩) hnl).trans d1; have x3 := (hbC.cell (p := ⟨lb, 0, none⟩) hll).trans d3)
                  | ((try refine (if_pos rfl).mpr ?_); go_at_call 22; (with_reducible refine (KD.out _ bB ?_ ?_ ?_).mono ?_); (first | exact hbB | exact hbA | exact hbC); (first | exact hsB | exact hsA | exact hsC); (first | exact hB.out | exact kA.out _ _ hB.out | exact kC.out _ _ (kA.out _ _ hB.out)); rintro e X9 ⟨rfl, kD, hbD, hsD⟩; replace kD := Lib.hid kD; have x1 := (hbD.cell (p := ⟨nb, 0, none⟩) hnl).trans d1; have x3 := (hbD.cell (p := ⟨lb, 0, none⟩) hll).trans d3))
                all_goals
                  go_wp2_with fail
                  go_meet
                  first
                  | exact ⟨by rw [← hbe.out]; rfl, hS2.out.below hbC, hB3.out.trans (hbC.mono hS2.out.base)⟩
                  | exact ⟨by rw [← hbe.out]; rfl, hS2.out.below hbD, hB3.out.trans (hbD.mono hS2.out.base)⟩
              · have g2 : decide (0 < (y : Int)) = false := decide_eq_false (by omega)
                have hb := Lib.hid (hbn.out (fun h => c2 h.2))
                clear hbn hbr
                go_quiet (fail)
                go_wp2
                go_meet
                exact ⟨by rw [hb.out], hS2.out.drewN _, below_drewN hB3.out _⟩
            · have g1 : ((r : Int) == 2) = false := by simp; omega
              have hb := Lib.hid (hbn.out (fun h => c1 h.1))
              clear hbn hbr
              go_quiet (fail)
              go_wp2
              go_meet
              exact ⟨by rw [hb.out], hS2.out.drewN _, below_drewN hB3.out _⟩
          case rest =>
            obtain ⟨rfl, hS3, hB4⟩ := hcut
            clear d1 d3 hB3 hS2 hbn hbr hS1 hB1
            cases bd
            · have hor : bits .or .u64 (used : Int) (2 ^ v) = ((used ||| 2 ^ v : Nat) : Int) := by
                have hp64 := hp64.out
                have h := u64_or_nat used (2 ^ v) (by omega) (by omega)
                rw [← h]; push_cast; rfl
              have hwr : IntKind.u64.wrap (2 ^ v) = 2 ^ v := by
                have hp64 := hp64.out
                rw [IntKind.wrap_u64]; have : (2 : Int) ^ v = ((2 ^ v : Nat) : Int) := by push_cast; rfl
                rw [this]
                generalize 2 ^ v = P at hp64
                omega
              have hsn : used ||| 2 ^ v < 1024 := Nat.or_lt_two_pow (n := 10) hu (Nat.lt_of_le_of_lt hp64.out (by decide))
              have hb2 : (m + M) + 9 ^ k ≤ 4611686018427387904 := by
                have h1 := Nat.mul_le_mul_right (9 ^ k) (show (v - 1) + 1 ≤ 9 by omega)
                rw [Nat.add_mul, Nat.one_mul] at h1
                have h2 := hm.out
                rw [Nat.pow_succ] at h2
                have h3 := hMi.out
                omega
              have HH := Lib.hid (IH.out (a + 1) (used ||| 2 ^ v) (m + M) (p ++ [v]) l2 wc.drew (by omega) (by simp [hp.out]) hsn hb2 ht2.out (Lib.hid (hS3.drewN 1)))
              rw [show ((a + 1 : Nat) : Int) = (a : Int) + 1 by push_cast; rfl] at HH
              have k1 : wc.cell? ⟨fb, 0, none⟩ = some (.func (.func 21) #[] #[.pointer (some ⟨nb, 0, none⟩), .pointer (some ⟨lb, 0, none⟩), .pointer (some ⟨mb, 0, none⟩), .pointer (some ⟨gb, 0, none⟩), .pointer (some ⟨fb, 0, none⟩)]) := wcell (cs := [_]) hS3.f0 0
              have hBd : Hid (Below H W wc.drew) := below_drewN hB4 1
              replace hS3 := Lib.hid hS3; replace hB4 := Lib.hid hB4; replace hbd := Lib.hid hbd; replace hb2 := Lib.hid hb2; replace hsn := Lib.hid hsn
              clear IH
              go_wp2_with fail
              go_still_tail 7, (by kernel_rfl)
              change wpList _ _ _ _ _ wc.drew
              go_wp2_with (go_at_call 21; with_reducible refine HH.out.mono ?_; rintro e w3 ⟨rfl, ⟨l3, hS4, ht4⟩, hB5⟩; replace hS4 := Lib.hid hS4; replace hB5 := Lib.hid hB5; replace ht4 := Lib.hid ht4)
              have hB6 := Lib.hid (hBd.out.trans hB5.out)
              have hgk := hgk.out
              go_roundg (10 - (v + 1))
              case measure => omega
              case rel =>
                refine ⟨v + 1, l3, by omega, by omega, rfl, by go_num, ?_, take_less hp.out ht4.out, hB6.out⟩
                rw [Nat.add_sub_cancel, hs1.out, hfq1.out, ← Nat.add_assoc]; exact hS4.out
            · have ht5 := Lib.hid (take_less hp.out ht2.out)
              replace hS3 := Lib.hid hS3; replace hB4 := Lib.hid hB4; replace hbd := Lib.hid hbd
              clear IH
              go_wp2_with fail
              have hgk := hgk.out
              go_roundg (10 - (v + 1))
              case measure => omega
              case rel =>
                refine ⟨v + 1, l2, by omega, by omega, rfl, by go_num, ?_, ht5.out, hB4.out⟩
                rw [Nat.add_sub_cancel, hs1.out, hfq1.out]; exact hS3.out
      · obtain rfl : v = 10 := by omega
        replace hS1 := Lib.hid hS1; replace hB1 := Lib.hid hB1; replace ht1 := Lib.hid ht1
        go_wp2_with fail
        go_end0
        refine ⟨rfl, ⟨l1, ?_, ht1.out⟩, hB1.out⟩
        rw [hcn.out]; exact hS1.out
end Go.Proofs.Ytbfdhegglaaghaa
