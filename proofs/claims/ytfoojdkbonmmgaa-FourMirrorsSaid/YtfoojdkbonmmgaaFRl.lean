/- A row through a place is a line that is owned; plain; no conditions. -/
import Derived.Test.YtfoojdkbonmmgaaFRw
import Derived.Test.YtfoojdkbonmmgaaFMr
namespace Go.Proofs.Ytfoojdkbonmmgaa

theorem won_mem {cs : List Nat} {l : List Nat} : ∀ {ls : List (List Nat)}, l ∈ ls → own cs l ≠ 0 → won cs ls ≠ 0 := by
  intro ls hl ho
  unfold won
  suffices H : ∀ (ls : List (List Nat)) (a : Nat), ls.foldl (fun n l => n ||| own cs l) a = 0 → a = 0 ∧ ∀ l ∈ ls, own cs l = 0 from fun h => ho ((H ls 0 h).2 l hl)
  intro ls
  induction ls with
  | nil => exact fun a h => ⟨h, fun l hl => by cases hl⟩
  | cons x xs ih =>
    intro a h
    obtain ⟨h1, h2⟩ := ih _ h
    replace h1 : a ||| own cs x = 0 := h1
    have e1 : a ≤ a ||| own cs x := Nat.left_le_or
    have e2 : own cs x ≤ a ||| own cs x := Nat.right_le_or
    rw [h1] at e1 e2
    refine ⟨by omega, fun l hl => ?_⟩
    rcases List.mem_cons.1 hl with rfl | hl
    · omega
    · exact h2 l hl
theorem line_won {a b k j : Nat} {s : List Nat} {who X Y : Int} (hk : 1 ≤ k) (hj : j < 4) (hw : 0 < who) (h : ∀ i : Nat, i < k → cf a b s (X + dx j * i) (Y + dy j * i) = who) : won s (LY a b k b) ≠ 0 := by
  have h0 := cf_in (h 0 (by omega)) (by omega)
  have h1 := cf_in (h (k - 1) (by omega)) (by omega)
  simp only [Int.natCast_zero, Int.mul_zero, Int.add_zero] at h0
  obtain ⟨x, rfl⟩ : ∃ x : Nat, X = (x : Int) := ⟨X.toNat, by omega⟩
  obtain ⟨y, rfl⟩ : ∃ y : Nat, Y = (y : Int) := ⟨Y.toNat, by omega⟩
  have hk' : ((k - 1 : Nat) : Int) = (k : Int) - 1 := by omega
  rw [hk'] at h1
  have hf : fits a b k x y j = true := by
    unfold fits
    rw [decide_eq_true_eq]
    exact ⟨h1.1, h1.2.1, h1.2.2.2⟩
  have hx : x < a := by omega
  have hy : y < b := by omega
  have hmem : lineUp a x y j k ∈ LY a b k b := by
    unfold LY
    simp only [List.mem_flatMap, List.mem_range]
    refine ⟨y, hy, ?_⟩
    unfold LX
    simp only [List.mem_flatMap, List.mem_range]
    refine ⟨x, hx, ?_⟩
    unfold LD
    simp only [List.mem_flatMap, List.mem_range]
    refine ⟨j, hj, ?_⟩
    unfold cand
    rw [if_pos hf]; exact List.mem_singleton.2 rfl
  have hst : ∀ i, i < k → ((st s (st (lineUp a x y j k) i) : Nat) : Int) = who := fun i hi => by
    have e : st (lineUp a x y j k) i = cell a x y j i := by
      show (List.map _ _)[i]?.getD 0 = _
      rw [List.getElem?_map, List.getElem?_range hi]; rfl
    obtain ⟨u, v, hu, hv, e1, e2, e3⟩ := cell_ok a b k x y j i hj hx hy hi hf
    rw [e, e3, ← cf_at hv hu, ← e1, ← e2]
    exact h i hi
  have hown := own_all (cs := s) (l := lineUp a x y j k) fun t ht => by
    rw [lineUp_len] at ht
    have a1 := hst t ht
    have a2 := hst 0 (by omega)
    omega
  refine won_mem hmem ?_
  rw [hown]
  have := hst 0 (by omega)
  omega
theorem row_won {a b k x y : Nat} {s : List Nat} (hk : 1 ≤ k) (hx : x < a) (hy : y < b) (hw : 0 < st s (y * a + x)) (hr : Row4 (cf a b s) (st s (y * a + x) : Nat) x y k) : won s (LY a b k b) ≠ 0 := by
  obtain ⟨j, hj, p, q, h1, h2, h3⟩ := hr
  have h0 : cf a b s x y = ((st s (y * a + x) : Nat) : Int) := cf_at hx hy
  generalize hwho : ((st s (y * a + x) : Nat) : Int) = who at *
  have hwp : 0 < who := by omega
  have key : ∀ t : Int, -(q : Int) ≤ t → t ≤ p → cf a b s (x + dx4 j * t) (y + dy4 j * t) = who := fun t k1 k2 => by
    rcases (show t = 0 ∨ 0 < t ∨ t < 0 by omega) with rfl | hp | hn
    · rw [Int.mul_zero, Int.mul_zero, Int.add_zero, Int.add_zero]; exact h0
    · obtain ⟨m, rfl⟩ : ∃ m : Nat, t = (m : Int) := ⟨t.toNat, by omega⟩
      exact h1 m (by omega) (by omega)
    · obtain ⟨m, hm⟩ : ∃ m : Nat, -t = (m : Int) := ⟨(-t).toNat, by omega⟩
      have := h2 m (by omega) (by omega)
      rw [Int.neg_mul, Int.neg_mul, ← hm, Int.mul_neg, Int.mul_neg, Int.neg_neg, Int.neg_neg] at this
      exact this
  obtain ⟨q', hq'⟩ : ∃ q', q' = min q (k - 1) := ⟨_, rfl⟩
  have hq1 : q' ≤ q := by omega
  have hq2 : k - 1 - q' ≤ p := by omega
  have hq3 : q' ≤ k - 1 := by omega
  by_cases hj3 : j = 3
  · subst hj3
    refine line_won (j := 3) (X := x + (k - 1 - q' : Nat)) (Y := y - (k - 1 - q' : Nat)) hk (by omega) hwp fun i hi => ?_
    have := key (((k - 1 - q' : Nat) : Int) - i) (by omega) (by omega)
    rw [← this]
    congr 1
    · show _ + (-1 : Int) * _ = _ + (1 : Int) * _; omega
    · show _ + (1 : Int) * _ = _ + (-1 : Int) * _; omega
  · have ed : dx j = dx4 j ∧ dy j = dy4 j := by
      rcases (show j = 0 ∨ j = 1 ∨ j = 2 by omega) with rfl | rfl | rfl <;> decide
    refine line_won (j := j) (X := x + dx4 j * (-(q' : Int))) (Y := y + dy4 j * (-(q' : Int))) hk hj hwp fun i hi => ?_
    have := key ((i : Int) - q') (by omega) (by omega)
    rw [← this, ed.1, ed.2]
    congr 1
    · rw [Int.mul_sub, Int.mul_neg]; omega
    · rw [Int.mul_sub, Int.mul_neg]; omega
theorem over_won {a b n k who : Nat} {wb : List Nat → Nat → Bool} {s : List Nat} (hn : n = a * b) (hk : 1 ≤ k) (hw : WbOk a b k wb) (hwho : 0 < who) (h : Theirs wb s who n ∨ Mine wb s who n) : won s (LY a b k b) ≠ 0 := by
  have : ∃ i, i < n ∧ 0 < st s i ∧ wb s i = true := by
    rcases h with ⟨i, h1, h2, _, h3⟩ | ⟨i, h1, h2, h3⟩
    · exact ⟨i, h1, h2, h3⟩
    · exact ⟨i, h1, by omega, h3⟩
  obtain ⟨i, h1, h2, h3⟩ := this
  rw [hn] at h1
  obtain ⟨p1, p2, p3⟩ := parts h1
  rw [← p3] at h2 h3
  exact row_won hk p2 p1 h2 ((hw s _ _ p2 p1).1 h3)
end Go.Proofs.Ytfoojdkbonmmgaa
