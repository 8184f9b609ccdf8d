/- What the closure of tour.Count adds to its boxes; conditions: the boxes lie as Count lays them, at most 20 places. -/
import Derived.Test.YtebgliipeaelhaaDoorCns
import Derived.StillTailTactics
namespace Go.Proofs.YtebgliipeaelhaaDoor
open Go.RowKit

set_option maxRecDepth 100000 in
set_option maxHeartbeats 4000000 in
theorem walk_any (ob fb mb cb wb g a b x : Nat) (hn20 : a * b ≤ 20) : ∀ (l p s m c : Nat) (W : World), p < a * b → s < 2 ^ (a * b) → l ≤ 20 → m + 8 ^ l ≤ 4611686018427387904 → c ≤ m → Hid (Cs W ob fb mb cb wb g a b x m c) →
    Calls Tryd.prog 13 #[.int .i64 p, .int .u64 s, .int .i64 l, .pointer (some ⟨mb, 0, none⟩), .pointer (some ⟨fb, 0, none⟩), .pointer (some ⟨ob, 0, none⟩), .pointer (some ⟨cb, 0, none⟩), .pointer (some ⟨wb, 0, none⟩)] W
      fun r W' => r = .returned (.tuple #[]) ∧ Cs W' ob fb mb cb wb g a b x (m + (cntS a b x l p s).1) (c + (cntS a b x l p s).2) ∧ Below mb W W' := by
  intro l
  induction l with
  | zero =>
    intro p s m c W hp hs hl hb hcm hS
    obtain ⟨hS1, hB1⟩ := hS.out.many (m + 1)
    obtain ⟨hS2, hB2⟩ := hS1.closed (c + 1)
    obtain ⟨rp, cc, f1, f2, f3⟩ := hS1.field.2 p hp
    have hn8 := nb_len a b p
    have e1 := cell_of_one hS.out.m0
    have e2 := free_of_one hS.out.m0
    have d1 := cell_of_one hS1.f0
    have d2 := cell_of_one hS1.o0
    obtain ⟨qs, hqs⟩ : ∃ qs, qs = nb a b p := ⟨_, rfl⟩
    rw [← hqs] at f1 f2 f3 hn8
    obtain ⟨n, hn⟩ : ∃ n, n = qs.length := ⟨_, rfl⟩
    rw [← hn] at f1 f2 f3 hn8
    have hcn : cntS a b x 0 p s = (1, if x ∈ qs then 1 else 0) := by rw [hqs]; rfl
    have hB12 := Lib.hid (hB1.trans hB2)
    have hmi : ((m + 1 : Nat) : Int) = (m : Int) + 1 := by push_cast; rfl
    have hci : ((c + 1 : Nat) : Int) = (c : Int) + 1 := by push_cast; rfl
    rw [hmi] at hS1 hB1 f1 f2 d1 d2 hS2 hB12
    rw [hci] at hS2 hB12
    have HC := Lib.hid (fun k => contains_any rp n cc (asI qs) x ((W.setCell ⟨mb, 0, none⟩ (.int .i64 ((m : Int) + 1))).drewN k) (by omega) ⟨f2.1, f2.2⟩)
    rw [hasV_asI] at HC
    replace hqs := Lib.hid hqs; replace hn := Lib.hid hn; replace hcn := Lib.hid hcn; replace hS1 := Lib.hid hS1; replace hB1 := Lib.hid hB1; replace hS2 := Lib.hid hS2
    replace f2 := Lib.hid f2; replace f3 := Lib.hid f3
    clear hB2 hmi hci
    have hm62 : m < 4611686018427387904 := by have := Nat.pow_pos (n := 0) (show 0 < 8 by omega); omega
    go_enter Tryd.func13, Tryd.ntmps13
    go_wp2_with fail
    go_quiet ((go_at_call 14; ((with_reducible refine (HC.out _).mono ?_); exact fun _ _ h => ⟨h.1, _, h.2.symm⟩)))
    have hSd := Lib.hid (hS1.out.drewN nq)
    have hBd : Hid (Below mb W ((W.setCell ⟨mb, 0, none⟩ (.int .i64 ((m : Int) + 1))).drewN nq)) := below_drewN hB1.out nq
    generalize (W.setCell ⟨mb, 0, none⟩ (.int .i64 ((m : Int) + 1))).drewN nq = W1 at *
    have k1 := cell_of_one hSd.out.c0
    have k2 := free_of_one hSd.out.c0
    clear HC hS1 hB1 e1 e2 d1 d2 f1
    by_cases hx : x ∈ qs
    · have hd : decide (x ∈ qs) = true := decide_eq_true hx
      obtain ⟨hS3, hB3⟩ := hSd.out.closed (c + 1)
      rw [show ((c + 1 : Nat) : Int) = (c : Int) + 1 by push_cast; rfl] at hS3 hB3
      replace hS3 := Lib.hid hS3
      have hB4 := Lib.hid (hBd.out.trans hB3)
      clear hB3
      go_wp2_with fail
      refine bodyPost_ret (results_none rfl _ _ _) rfl ⟨rfl, ?_, hB4.out⟩
      rw [hcn.out, if_pos hx]; exact hS3.out
    · have hd : decide (x ∈ qs) = false := decide_eq_false hx
      go_wp2_with fail
      refine bodyPost_ret (results_none rfl _ _ _) rfl ⟨rfl, ?_, hBd.out⟩
      rw [hcn.out, if_neg hx]; exact hSd.out
  | succ l ih =>
    intro p s m c W hp hs hl hb hcm hS
    obtain ⟨w0, hf1, hf2, hf3⟩ := hS.out.fld
    obtain ⟨rp, cc, f0, f2, f3⟩ := hf1.2 p hp
    have f1 := (hf3.cell (p := ⟨g, p, none⟩) hf1.1).trans f0
    have hf4 : Hid (∀ W', Below mb W W' → Below w0.heap.size w0 W') := fun W' h => hf3.trans (h.mono hf2)
    clear hf1 f0 hf2 hf3
    have hn8 := nb_len a b p
    have d1 := cell_of_one hS.out.f0
    have hcn : Hid (cntS a b x (l + 1) p s = sumP (fun q => if s / 2 ^ q % 2 = 0 then cntS a b x l q (s ||| 2 ^ q) else (0, 0)) (nb a b p) (nb a b p).length) := rfl
    have hM := Lib.hid (fun i => sumP_le (f := fun q => if s / 2 ^ q % 2 = 0 then cntS a b x l q (s ||| 2 ^ q) else (0, 0)) (M := 8 ^ l) (fun q => by
      show (if s / 2 ^ q % 2 = 0 then cntS a b x l q (s ||| 2 ^ q) else (0, 0)).1 ≤ _ ∧ _ ≤ (if s / 2 ^ q % 2 = 0 then cntS a b x l q (s ||| 2 ^ q) else (0, 0)).1
      by_cases h : s / 2 ^ q % 2 = 0
      · simp only [if_pos h]; exact cntS_le a b x l q _
      · simp only [if_neg h]; exact ⟨Nat.zero_le _, Nat.le_refl _⟩) (nb a b p) i)
    have hql : Hid (∀ i, i < (nb a b p).length → st (nb a b p) i < a * b) := fun i hi => by
      unfold st; rw [List.getElem?_eq_getElem hi]; exact nb_lt 8 (List.getElem_mem hi)
    generalize hqs : nb a b p = qs at *
    obtain ⟨n, hn⟩ : ∃ n, n = qs.length := ⟨_, rfl⟩
    rw [← hn] at f1 f2 f3 hn8 hcn hql
    generalize hf : (fun q => if s / 2 ^ q % 2 = 0 then cntS a b x l q (s ||| 2 ^ q) else (0, 0)) = f at *
    have hfq : Hid (∀ q, f q = if s / 2 ^ q % 2 = 0 then cntS a b x l q (s ||| 2 ^ q) else (0, 0)) := fun q => by rw [← hf]
    have IH := Lib.hid ih
    replace hqs := Lib.hid hqs; replace hn := Lib.hid hn; replace hf := Lib.hid hf; replace hb := Lib.hid hb; replace f2 := Lib.hid f2; replace f3 := Lib.hid f3; replace hcm := Lib.hid hcm
    clear ih
    go_enter Tryd.func13, Tryd.ntmps13
    go_wp2_with fail
    go_loopg [30] n (fun gk iv W' => ∃ (i : Nat), i ≤ n ∧ gk = n - i ∧ iv = .int .i64 i ∧ Cs W' ob fb mb cb wb g a b x (m + (sumP f qs i).1) (c + (sumP f qs i).2) ∧ Below mb W W')
    case atStart => exact ⟨0, by omega, rfl, rfl, hS.out, Below.refl _ _⟩
    case round =>
      obtain ⟨i, hi, hgk, rfl, hS2, hB2⟩ := hrel
      obtain ⟨W2, rfl⟩ : ∃ W2 : World, W2 = wr := ⟨_, rfl⟩
      clear hS f1 d1
      replace hgk := Lib.hid hgk
      by_cases hlt : i < n
      · obtain ⟨bb, o, rfl, _, hcc⟩ := (f2.out.below (hf4.out _ hB2)).at (by omega)
        have hq := hcc i hlt
        rw [asI_at] at hq
        clear hcc
        obtain ⟨q, hqe⟩ : ∃ q, q = st qs i := ⟨_, rfl⟩
        have hqN := hql.out i hlt
        rw [← hqe] at hq hqN
        have hq20 : q < 20 := by omega
        have hs1 : Hid (sumP f qs (i + 1) = ((sumP f qs i).1 + (f q).1, (sumP f qs i).2 + (f q).2)) := by show _ = _; rw [hqe]; rfl
        have hMi := hM.out i
        have hfq1 := hfq.out q
        obtain ⟨M, hMe⟩ : ∃ M, M = sumP f qs i := ⟨_, rfl⟩
        rw [← hMe] at hS2 hs1 hMi
        have hs64 : s < 18446744073709551616 := Nat.lt_of_lt_of_le hs (Nat.le_trans (Nat.pow_le_pow_right (by omega) hn20) (by decide))
        have hp64 : 2 ^ q ≤ 1048576 := Nat.pow_le_pow_right (by omega) (show q ≤ 20 by omega)
        have hsd : s / 2 ^ q ≤ s := Nat.div_le_self _ _
        have hand : bits .and .u64 ((s : Int) / 2 ^ q) 1 = ((s / 2 ^ q % 2 : Nat) : Int) := by
          have h := u64_and_nat (s / 2 ^ q) 1 (by omega) (by omega)
          rw [nat_mask1] at h
          rw [← h, Int.natCast_ediv]; push_cast; rfl
        by_cases hz : s / 2 ^ q % 2 = 0
        · rw [if_pos hz] at hfq1
          rw [hz] at hand
          have hor : bits .or .u64 (s : Int) (2 ^ q) = ((s ||| 2 ^ q : Nat) : Int) := by
            have h := u64_or_nat s (2 ^ q) (by omega) (by omega)
            rw [← h]; push_cast; rfl
          have hwr : IntKind.u64.wrap (2 ^ q) = 2 ^ q := by
            rw [IntKind.wrap_u64]; have : (2 : Int) ^ q = ((2 ^ q : Nat) : Int) := by push_cast; rfl
            rw [this]
            generalize 2 ^ q = P at hp64
            omega
          have hsn := or_small hs hqN
          have k1 := cell_of_one hS2.w0
          replace hMi := Lib.hid hMi
          have hb2 : (m + M.1) + 8 ^ l ≤ 4611686018427387904 := by
            have h1 := Nat.mul_le_mul_right (8 ^ l) (show i + 1 ≤ 8 by omega)
            rw [Nat.add_mul, Nat.one_mul] at h1
            have h2 := hb.out
            rw [Nat.pow_succ] at h2
            have h3 := hMi.out.1
            omega
          have H := Lib.hid (IH.out q (s ||| 2 ^ q) (m + M.1) (c + M.2) W2.drew hqN hsn (by omega) hb2 (by have := hMi.out.2; have := hcm.out; omega) (Lib.hid (hS2.drewN 1)))
          have hwl : IntKind.i64.wrap (l : Int) = l := IntWalk.i64_in _ (by omega)
          have hBd : Hid (Below mb W W2.drew) := below_drewN hB2 1
          replace hqe := Lib.hid hqe; replace hMe := Lib.hid hMe; replace hs1 := Lib.hid hs1
          clear IH hM hql hfq
          replace hS2 := Lib.hid hS2; replace hB2 := Lib.hid hB2; replace hs := Lib.hid hs; replace hsd := Lib.hid hsd; replace hp64 := Lib.hid hp64; replace hfq1 := Lib.hid hfq1; replace hz := Lib.hid hz
          go_wp2_with fail
          go_still_tail 8, (by kernel_rfl)
          change wpList _ _ _ _ _ W2.drew
          go_wp2_with (go_at_call 13; with_reducible refine H.out.mono ?_; rintro e w3 ⟨rfl, hS3, hB3⟩; replace hS3 := Lib.hid hS3; replace hB3 := Lib.hid hB3)
          have hB4 := Lib.hid (hBd.out.trans hB3.out)
          have hgk := hgk.out
          go_roundg (n - (i + 1))
          case measure => omega
          case rel =>
            refine ⟨i + 1, by omega, rfl, by go_num, ?_, hB4.out⟩
            rw [hs1.out, hfq1.out, ← Nat.add_assoc, ← Nat.add_assoc]; exact hS3.out
        · rw [if_neg hz] at hfq1
          have hz1 : s / 2 ^ q % 2 = 1 := by omega
          rw [hz1] at hand
          replace hqe := Lib.hid hqe; replace hMe := Lib.hid hMe; replace hs1 := Lib.hid hs1
          clear IH hM hql hfq
          replace hS2 := Lib.hid hS2; replace hB2 := Lib.hid hB2; replace hs := Lib.hid hs; replace hsd := Lib.hid hsd; replace hp64 := Lib.hid hp64; replace hfq1 := Lib.hid hfq1; replace hz := Lib.hid hz; replace hz1 := Lib.hid hz1; replace hMi := Lib.hid hMi
          go_wp2_with fail
          have hgk := hgk.out
          go_roundg (n - (i + 1))
          case measure => omega
          case rel =>
            refine ⟨i + 1, by omega, rfl, by go_num, ?_, hB2.out⟩
            rw [hs1.out, hfq1.out]; exact hS2.out
      · obtain rfl : i = n := by omega
        replace hS2 := Lib.hid hS2; replace hB2 := Lib.hid hB2
        go_wp2_with fail
        go_end0
        refine ⟨rfl, ?_, hB2.out⟩
        rw [hcn.out]; exact hS2.out
end Go.Proofs.YtebgliipeaelhaaDoor
