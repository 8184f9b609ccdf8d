/- What mancala.Value computes; conditions: the slice's length fits its kind. -/
import Derived.Test.YtehcelajmhclmaaMVal
import Derived.Test.YtehcelajmhclmaaMMay
namespace Go.Proofs.Ytehcelajmhclmaa
open Go.RowKit

def topV (s : List Nat) (P t : Nat) : Int × Int × Int :=
  if 4 < (ownL (turnL s P t) P).sum + (otherL (turnL s P t) P).sum then (0, 0, 2) else (if t = 1 then -(valV 5005 P (turnL s P t)).1 else (valV 5005 P (turnL s P t)).1, (valV 5005 P (turnL s P t)).2, 0)
theorem tot_bound (W : Nat → Nat) (B : Nat) (l : List Nat) : ∀ k, (∀ i, k ≤ i → i < k + l.length → W i ≤ B) → tot W l k ≤ l.sum * B := by
  induction l with
  | nil => intro k _; simp [tot]
  | cons x l ih =>
    intro k h
    have h1 := ih (k + 1) (fun i h2 h3 => h i (by omega) (by simp; omega))
    have h2 := Nat.mul_le_mul_left x (h k (Nat.le_refl _) (by simp))
    simp only [tot, List.sum_cons, Nat.add_mul]
    omega
theorem wts_le (P : Nat) (hP : P ≤ 6) (l : List Nat) (hl : l.length = 2 * P + 2) : wts P l ≤ ((ownL l P).sum + (otherL l P).sum) * 1006 := by
  have e : l = l.take P ++ (([st l P] ++ ((l.take (2 * P + 1)).drop (P + 1))) ++ l.drop (2 * P + 1)) := by
    have h1 : (l.take (2 * P + 1)).drop P = [st l P] ++ (l.take (2 * P + 1)).drop (P + 1) := by
      rw [List.drop_eq_getElem_cons (by simp; omega)]
      simp [st, show P < l.length by omega]
    rw [← h1, ← List.append_assoc]
    have h2 : l.take P ++ (l.take (2 * P + 1)).drop P = l.take (2 * P + 1) := by
      have := List.take_append_drop P (l.take (2 * P + 1))
      rwa [List.take_take, show min P (2 * P + 1) = P by omega] at this
    rw [h2, List.take_append_drop]
  have l1 : (l.take P).length = P := by simp; omega
  have l2 : ((l.take (2 * P + 1)).drop (P + 1)).length = P := by simp; omega
  have l3 : (l.drop (2 * P + 1)).length = 1 := by simp; omega
  have a1 := tot_bound (wt P) 1006 (l.take P) 0 (fun i _ hi => by unfold wt; rw [if_pos (by omega)]; omega)
  have a2 := tot_bound (wt P) 1006 ((l.take (2 * P + 1)).drop (P + 1)) (P + 1) (fun i h1 hi => by unfold wt; rw [if_neg (by omega), if_pos (by omega)]; omega)
  have a3 := tot_bound (wt P) 0 (l.drop (2 * P + 1)) (2 * P + 1) (fun i h1 hi => by
    obtain rfl : i = 2 * P + 1 := by omega
    rw [wt_q]; exact Nat.le_refl _)
  unfold wts ownL otherL
  rw [e]
  rw [tot_app, tot_app, tot_app]
  simp only [l1, List.length_append, List.length_singleton, l2, tot, wt_p, Nat.zero_add, Nat.mul_zero, Nat.add_zero]
  rw [← e]
  rw [show P + (1 + P) = 2 * P + 1 by omega]
  omega
theorem topV_small (s : List Nat) (P t : Nat) (hP : P ≤ 6) (hl : s.length = 2 * P + 2) (h : ¬ 4 < (ownL (turnL s P t) P).sum + (otherL (turnL s P t) P).sum) : wts P (turnL s P t) < 5005 := by
  have := wts_le P hP (turnL s P t) (by rw [turnL_len]; exact hl)
  omega
theorem turnL_sum (s : List Nat) (P t : Nat) : (turnL s P t).sum = s.sum := by
  unfold turnL
  split
  · exact rot_sum P s
  · rfl

set_option maxHeartbeats 1000000 in
theorem top_no (q : Option Addr) (n c : Nat) (t : Int) (xs : List Int) (w : World) (hn : n ≤ 9223372036854775807) (ht1 : -9223372036854775808 ≤ t) (ht2 : t ≤ 9223372036854775807) (hx : IntsIn w q n xs) (hm : mayF xs t = false) :
    Calls Try.prog 5 #[.agg #[.slice q n c, .int .i64 t]] w fun e w' => e = .returned (.tuple #[.int .i64 0, .int .i64 0, .int .i64 12]) ∧ Below w.heap.size w w' := by
  have HM := may_any q n c t xs (w.alloc (.cells #[.slice q n c, .int .i64 t] 24)) hn ht1 ht2 (hx.alloc _)
  rw [hm] at HM
  have hB0 := Lib.hid ((Below.refl w.heap.size w).alloc (Nat.le_refl _) (.cells #[.slice q n c, .int .i64 t] 24))
  replace HM := Lib.hid HM; replace hm := Lib.hid hm
  clear hx
  go_enter Try.func5, Try.ntmps5
  go_wp2_with fail
  generalize w.alloc (.cells #[.slice q n c, .int .i64 t] 24) = W at *
  refine HM.out.mono ?_
  rintro e w1 ⟨rfl, hB⟩
  replace hB := Lib.hid hB
  go_wp2_with fail
  go_ret3
  exact ⟨rfl, hB0.out.trans (hB.out.mono hB0.out.size)⟩

set_option maxRecDepth 20000 in
set_option maxHeartbeats 4000000 in
theorem top_yes (q : Option Addr) (n c P t : Nat) (s : List Nat) (w : World) (hP1 : 1 ≤ P) (hP : P ≤ 6) (hn : n = 2 * P + 2) (ht : t ≤ 1) (hs : s.sum ≤ 1000) (hx : IntsIn w q n (asI s)) :
    Calls Try.prog 5 #[.agg #[.slice q n c, .int .i64 t]] w fun e w' => e = .returned (.tuple #[.int .i64 (topV s P t).1, .int .i64 (topV s P t).2.1, .int .i64 (topV s P t).2.2]) ∧ Below w.heap.size w w' := by
  have hls : s.length = n := by have := hx.len; rwa [asI_len] at this
  have HM := may_any q n c t (asI s) (w.alloc (.cells #[.slice q n c, .int .i64 t] 24)) (by omega) (by omega) (by omega) (hx.alloc _)
  have h1 : mayGo (asI s) 1000 = true := by simpa using mayGo_of s 1000 hs
  have hmt : mayF (asI s) t = true := by unfold mayF; rw [h1, asI_len, hls, decide_eq_true (by omega)]; rfl
  clear h1
  rw [hmt] at HM
  have hB0 := Lib.hid ((Below.refl w.heap.size w).alloc (Nat.le_refl _) (.cells #[.slice q n c, .int .i64 t] 24))
  have a0 := heap_alloc_new w (.cells #[.slice q n c, .int .i64 t] 24)
  have hsz : w.heap.size < (w.alloc (.cells #[.slice q n c, .int .i64 t] 24)).heap.size := by simp
  have hx1 := hx.alloc (.cells #[.slice q n c, .int .i64 t] 24)
  replace HM := Lib.hid HM
  clear hx hmt
  have hT : Hid (topV s P t = if 4 < (ownL (turnL s P t) P).sum + (otherL (turnL s P t) P).sum then (0, 0, 2) else (if t = 1 then -(valV 5005 P (turnL s P t)).1 else (valV 5005 P (turnL s P t)).1, (valV 5005 P (turnL s P t)).2, 0)) := rfl
  generalize topV s P t = T at *
  replace hls := Lib.hid hls; replace hn := Lib.hid hn
  go_enter Try.func5, Try.ntmps5
  go_wp2_with fail
  generalize w.alloc (.cells #[.slice q n c, .int .i64 t] 24) = W at *
  refine HM.out.mono ?_
  rintro e w1 ⟨rfl, hB⟩
  have hB1 := Lib.hid (hB0.out.trans (hB.mono hB0.out.size))
  have a1 := (hB.block _ hsz).trans a0
  have hsz1 := Nat.lt_of_lt_of_le hsz hB.size
  have HF := Lib.hid (from_any q n c P t s w1 hP1 hP hn.out ht (hx1.below hB))
  clear hB hB0 a0 hsz hx1 HM
  have c0 : w1.cell? ⟨w.heap.size, 0, none⟩ = some (.slice q n c) := wcell (cs := [_, _]) a1 0
  have c1 : w1.cell? ⟨w.heap.size, 1, none⟩ = some (.int .i64 (t : Int)) := wcell (cs := [_, _]) a1 1
  go_wp2_with fail
  refine HF.out.mono ?_
  rintro e w2 ⟨g, c2, rfl, hO, hB⟩
  have hB2 := Lib.hid (hB1.out.trans (hB.mono hB1.out.size))
  have a2 := (hB.block _ hsz1).trans a1
  have hsz2 := Nat.lt_of_lt_of_le hsz1 hB.size
  replace hO := OwnC.mono (k := 1) hO (Nat.le_of_lt hsz1)
  have hO : Own 3 w.heap.size w2 (some ⟨g, 0, none⟩) n c2 (asI (turnL s P t)) := hO
  have hll : (turnL s P t).length = n := by rw [turnL_len]; exact hls.out
  have hlsum : (turnL s P t).sum ≤ 1000 := by rw [turnL_sum]; exact hs
  have hsm := topV_small s P t hP (by rw [hls.out, hn.out])
  clear c0 c1 hB a1 hsz1 HF hB1
  generalize turnL s P t = l at *
  replace hsm := Lib.hid hsm
  have e3 := heap_alloc_new w2 (.cells #[.slice (some ⟨g, 0, none⟩) n c2, .int .i64 P] 37)
  have a3 := (Below.heap_alloc w2 (.cells #[.slice (some ⟨g, 0, none⟩) n c2, .int .i64 P] 37) _ hsz2).trans a2
  have hsz3 : w2.heap.size < (w2.alloc (.cells #[.slice (some ⟨g, 0, none⟩) n c2, .int .i64 P] 37)).heap.size := by simp
  have hB3 := Lib.hid (hB2.out.alloc hB2.out.size (.cells #[.slice (some ⟨g, 0, none⟩) n c2, .int .i64 P] 37))
  have hO3 := Lib.hid (show Own 3 w.heap.size (w2.alloc (.cells #[.slice (some ⟨g, 0, none⟩) n c2, .int .i64 P] 37)) (some ⟨g, 0, none⟩) n c2 (asI l) from hO.alloc _)
  clear hO a2 hB2
  have hsz4 : w.heap.size < (w2.alloc (.cells #[.slice (some ⟨g, 0, none⟩) n c2, .int .i64 P] 37)).heap.size := Nat.lt_trans hsz2 hsz3
  replace hll := Lib.hid hll
  go_wp2_with fail
  generalize w2.alloc (.cells #[.slice (some ⟨g, 0, none⟩) n c2, .int .i64 P] 37) = W2 at *
  generalize w2.heap.size = b2 at *
  have d0 : W2.cell? ⟨b2, 0, none⟩ = some (.slice (some ⟨g, 0, none⟩) n c2) := wcell (cs := [_, _]) e3 0
  have d1 : W2.cell? ⟨b2, 1, none⟩ = some (.int .i64 (P : Int)) := wcell (cs := [_, _]) e3 1
  replace e3 := Lib.hid e3; replace a3 := Lib.hid a3
  go_upto_if 20 with fail
  go_cut [20] (fun v wx => v = .bool (decide (4 < (ownL l P).sum + (otherL l P).sum)) ∧ Below W2.heap.size W2 wx)
  case first =>
    have hnc : 2 * P + 1 < c2 := by have := OwnC.cap (k := 1) hO3.out; have := hn.out; omega
    have HO := Lib.hid (fun W => own_any g n c2 P W (by omega))
    have HT := Lib.hid (fun W => other_any g n c2 P W (by omega) (by omega))
    have hos : (ownL l P).sum ≤ 1000 := Nat.le_trans (take_sum_le l P) hlsum
    have hts : (otherL l P).sum ≤ 1000 := Nat.le_trans (Nat.le_trans (drop_sum_le _ _) (take_sum_le l _)) hlsum
    have HS1 := Lib.hid (fun W (h : Below W2.heap.size W2 W) => sum_any (some ⟨g, 0, none⟩) P c2 (ownL l P) W (by omega) (by omega) (by
      have := (hO3.out.part 0 P (by omega) (by have := hn.out; omega)).below h
      simpa [ownL, asI_take] using this))
    have HS2 := Lib.hid (fun W (h : Below W2.heap.size W2 W) => sum_any (some ⟨g, P + 1, none⟩) P (c2 - (P + 1)) (otherL l P) W (by omega) (by omega) (by
      have := (hO3.out.part (P + 1) (2 * P + 1) (by omega) (by have := hn.out; omega)).below h
      rw [show 2 * P + 1 - (P + 1) = P by omega] at this
      simpa [otherL, asI_take, asI_drop] using this))
    clear hT hsm
    generalize (ownL l P).sum = S1 at *
    generalize (otherL l P).sum = S2 at *
    have hw1 : IntKind.i64.wrap ((S1 : Int) + (S2 : Int)) = (S1 : Int) + (S2 : Int) := IntWalk.i64_in _ (by omega)
    have hdc : Hid (decide (4 < (S1 : Int) + (S2 : Int)) = decide (4 < S1 + S2)) := by show _ = _; congr 1; apply propext; omega
    go_region_law (first
      | (go_simp; refine (HO.out _).mono ?_; rintro e W3 ⟨rfl, hB3⟩; have hQ3 := Lib.hid (show Below W2.heap.size W2 W3 from by first | exact hB3 | exact (below_drewN (Below.refl _ _) 1).trans hB3); replace hB3 := Lib.hid hB3; have d0' : W3.cell? ⟨b2, 0, none⟩ = some (.slice (some ⟨g, 0, none⟩) n c2) := wcell (cs := [_, _]) ((hQ3.out.block _ hsz3).trans e3.out) 0; have d1' : W3.cell? ⟨b2, 1, none⟩ = some (.int .i64 (P : Int)) := wcell (cs := [_, _]) ((hQ3.out.block _ hsz3).trans e3.out) 1)
      | (go_simp; refine (HT.out _).mono ?_; rintro e W4 ⟨rfl, hB4⟩; have hQ4 := Lib.hid (hQ3.out.trans (hB4.mono hQ3.out.size)); replace hB4 := Lib.hid hB4)
      | (go_simp; refine (HS2.out _ hQ4.out).mono ?_; rintro e w' ⟨rfl, rfl⟩)
      | (go_simp; refine (HS1.out _ hQ3.out).mono ?_; rintro e w' ⟨rfl, rfl⟩))
    all_goals
      go_wp2_with fail
      go_meet
      exact ⟨congrArg Value.bool hdc.out, hQ4.out⟩
  case rest =>
    obtain ⟨rfl, hBx⟩ := hcut
    have e4 := (hBx.block _ hsz3).trans e3.out
    have a4 := (hBx.block _ hsz4).trans a3.out
    have hO4 := Lib.hid (hO3.out.below hBx (Nat.le_refl _))
    have hB4 := Lib.hid (hB3.out.trans (hBx.mono hB3.out.size))
    clear d0 d1 hBx
    have d0 : wc.cell? ⟨b2, 0, none⟩ = some (.slice (some ⟨g, 0, none⟩) n c2) := wcell (cs := [_, _]) e4 0
    have d1 : wc.cell? ⟨b2, 1, none⟩ = some (.int .i64 (P : Int)) := wcell (cs := [_, _]) e4 1
    have c1 : wc.cell? ⟨w.heap.size, 1, none⟩ = some (.int .i64 (t : Int)) := wcell (cs := [_, _]) a4 1
    replace e4 := Lib.hid e4; replace a4 := Lib.hid a4
    by_cases h4 : 4 < (ownL l P).sum + (otherL l P).sum
    · have hd : decide (4 < (ownL l P).sum + (otherL l P).sum) = true := decide_eq_true h4
      have hT2 : Hid (T = (0, 0, 2)) := by show _ = _; rw [hT.out, if_pos h4]
      generalize decide (4 < (ownL l P).sum + (otherL l P).sum) = D at *
      subst hd
      replace h4 := Lib.hid h4
      clear hsm hT
      go_wp2_with fail
      go_ret3
      exact ⟨by rw [hT2.out]; rfl, hB4.out⟩
    · have hd : decide (4 < (ownL l P).sum + (otherL l P).sum) = false := decide_eq_false h4
      have HV := value_any P hP1 hP 5005 (Nat.le_refl _) g w.heap.size n c2 l wc (hsm.out h4) hn.out hO4.out (by omega)
      have hvs := valV_small 3000 P 5005 l (by have := hn.out; have := hll.out; omega) (by omega)
      have hT2 : Hid (T = (if t = 1 then -(valV 5005 P l).1 else (valV 5005 P l).1, (valV 5005 P l).2, 0)) := by show _ = _; rw [hT.out, if_neg h4]
      unfold ValPost at HV
      generalize decide (4 < (ownL l P).sum + (otherL l P).sum) = D at *
      subst hd
      generalize valV 5005 P l = V at *
      obtain ⟨v1, v2, v3, v4⟩ := hvs
      replace h4 := Lib.hid h4; replace HV := Lib.hid HV
      clear hsm hT
      go_wp2_with fail
      refine HV.out.mono ?_
      rintro e w5 ⟨rfl, hB5⟩
      have hsz5 : w.heap.size < wc.heap.size := lt_of_heap a4.out
      clear c1 d0 d1
      have c1 : w5.cell? ⟨w.heap.size, 1, none⟩ = some (.int .i64 (t : Int)) := wcell (cs := [_, _]) ((hB5.block _ hsz5).trans a4.out) 1
      have hB6 := Lib.hid (hB4.out.trans (hB5.mono hB4.out.size))
      clear hB5
      rcases (show t = 0 ∨ t = 1 by omega) with rfl | rfl
      · have hT3 : Hid (T = (V.1, V.2, 0)) := by show _ = _; rw [hT2.out, if_neg (by omega)]
        go_wp2_with fail
        go_ret3
        exact ⟨by rw [hT3.out]; rfl, hB6.out⟩
      · have hT3 : Hid (T = (-V.1, V.2, 0)) := by show _ = _; rw [hT2.out, if_pos rfl]
        go_wp2_with fail
        go_ret3
        exact ⟨by rw [hT3.out]; rfl, hB6.out⟩
end Go.Proofs.Ytehcelajmhclmaa
