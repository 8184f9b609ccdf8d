/- Plain laws of a square's forms: where each number of a turned or mirrored square goes, and what a form keeps; no program in sight. -/
import Derived.Test.YtbfdhegglaaghaaIPl
namespace Go.Proofs.Ytbfdhegglaaghaa

/-- where the j-th number of a square goes in the turned (t = 0) or mirrored one. -/
def dest (t n j : Nat) : Nat := if t = 0 then j % n * n + (n - 1 - j / n) else j / n * n + (n - 1 - j % n)
def destOk : Bool := (List.range 13).all fun n => (List.range (n * n)).all fun p => [0, 1].all fun t =>
  decide (dest t n p < n * n) && decide (tau t n p < n * n) && decide (dest t n (tau t n p) = p) && decide (tau t n (dest t n p) = p)
theorem destOk_true : destOk = true := by decide +kernel
theorem dest_at {n p t : Nat} (hn : n ≤ 12) (hp : p < n * n) (ht : t ≤ 1) : dest t n p < n * n ∧ tau t n p < n * n ∧ dest t n (tau t n p) = p ∧ tau t n (dest t n p) = p := by
  have h := destOk_true
  unfold destOk at h
  rw [List.all_eq_true] at h
  have h1 := h n (by simp; omega)
  rw [List.all_eq_true] at h1
  have h2 := h1 p (by simpa using hp)
  rw [List.all_eq_true] at h2
  have h3 := h2 t (by rcases (show t = 0 ∨ t = 1 by omega) with rfl | rfl <;> simp)
  simp only [Bool.and_eq_true, decide_eq_true_eq] at h3
  exact ⟨h3.1.1.1, h3.1.1.2, h3.1.2, h3.2⟩
/-- the first i numbers are where they go. -/
def PutS (t n : Nat) (now : List Int) (i : Nat) (T : List Int) : Prop := T.length = n * n ∧ ∀ p, p < n * n → tau t n p < i → ist T p = ist now (tau t n p)
theorem PutS.zero (t n : Nat) (now : List Int) : PutS t n now 0 (List.replicate (n * n) 0) := ⟨by simp, fun _ _ h => absurd h (Nat.not_lt_zero _)⟩
theorem ist_set (T : List Int) (q p : Nat) (v : Int) (hq : q < T.length) : ist (T.set q v) p = if p = q then v else ist T p := by
  unfold ist
  rw [List.getElem?_set]
  by_cases h : q = p
  · subst h; simp [hq]
  · rw [if_neg h, if_neg (fun e => h e.symm)]
theorem PutS.step {t n i : Nat} {now T : List Int} (h : PutS t n now i T) (hn : n ≤ 12) (ht : t ≤ 1) (hi : i < n * n) : PutS t n now (i + 1) (T.set (dest t n i) (ist now i)) := by
  obtain ⟨d1, d2, d3, d4⟩ := dest_at hn hi ht
  refine ⟨by simp [h.1], fun p hp hlt => ?_⟩
  rw [ist_set _ _ _ _ (by rw [h.1]; exact d1)]
  by_cases e : p = dest t n i
  · rw [if_pos e, e, d4]
  · rw [if_neg e]
    refine h.2 p hp ?_
    obtain ⟨_, _, e3, _⟩ := dest_at hn hp ht
    have : tau t n p ≠ i := fun e2 => e (by rw [← e2]; exact e3.symm)
    omega
theorem PutS.sym {t n : Nat} {now T : List Int} (h : PutS t n now (n * n) T) (hn : n ≤ 12) (ht : t ≤ 1) : Sym t n now T := fun p hp => h.2 p hp (dest_at hn hp ht).2.1
/-- a form of l: of its size, of its kind and sum, of its numbers. -/
def Gd (n : Nat) (l F : List Int) : Prop := F.length = n * n ∧ kindI F n = kindI l n ∧ ∀ x ∈ F, x ∈ l
theorem Gd.refl {n : Nat} {l : List Int} (h : l.length = n * n) : Gd n l l := ⟨h, rfl, fun _ h => h⟩
theorem ist_mem {l : List Int} {i : Nat} (h : i < l.length) : ist l i ∈ l := by
  unfold ist
  simp [h]
theorem Gd.put {t n : Nat} {l F T : List Int} (h : Gd n l F) (h1 : 1 ≤ n) (hn : n ≤ 12) (ht : t ≤ 1) (hT : PutS t n F (n * n) T) : Gd n l T := by
  have hs := hT.sym hn ht
  refine ⟨hT.1, (kind_sym hs h1 hn ht).trans h.2.1, fun x hx => ?_⟩
  obtain ⟨p, hp, rfl⟩ := List.mem_iff_getElem.1 hx
  have hp2 : p < n * n := by rw [← hT.1]; exact hp
  have e := hs p hp2
  have e2 : ist T p = T[p] := by unfold ist; simp [hp]
  rw [← e2, e]
  exact h.2.2 _ (ist_mem (by rw [h.1]; exact (dest_at hn hp2 ht).2.1))
end Go.Proofs.Ytbfdhegglaaghaa
