/- Plain laws of squares: turned and mirrored ones are of one kind and sum, doubled ones have twice the sum; no program in sight. -/
import Derived.Test.YtbfdhegglaaghaaISp
namespace Go.Proofs.Ytbfdhegglaaghaa

/-- the places of a line. -/
def lineP (kd n k : Nat) : List Nat := (List.range n).map (place kd n k)
theorem foldl_sum (f : Nat → Int) (L : List Nat) (z : Int) : L.foldl (fun s i => s + f i) z = z + (L.map f).sum := by
  induction L generalizing z with
  | nil => simp
  | cons a l ih => rw [List.foldl_cons, ih, List.map_cons, List.sum_cons]; omega
theorem sumI_line (l : List Int) (n kd k : Nat) : sumI l n kd k n = ((lineP kd n k).map (ist l)).sum := by
  unfold sumI lineP
  rw [foldl_sum]
  simp [List.map_map, Function.comp_def]
theorem perm_sum {a b : List Int} (h : a.Perm b) : a.sum = b.sum := by
  induction h with
  | nil => rfl
  | cons x _ ih => simp [ih]
  | swap x y l => simp; omega
  | trans _ _ h1 h2 => rw [h1, h2]
/-- where a place of a turned (t = 0) or mirrored square comes from. -/
def tau (t n p : Nat) : Nat := if t = 0 then (n - 1 - p % n) * n + p / n else p / n * n + (n - 1 - p % n)
/-- the line that a line comes from: its kind and number. -/
def kdT (t kd : Nat) : Nat := if kd = 0 then (if t = 0 then 1 else 0) else if kd = 1 then (if t = 0 then 0 else 1) else if kd = 2 then 3 else 2
def kT (t kd n k : Nat) : Nat := if kd = 0 then k else if kd = 1 then n - 1 - k else if kd = 2 then (n - k) % n else (if t = 0 then k else (n - k) % n)
def permOk : Bool := (List.range 13).all fun n => (List.range n).all fun k => [0, 1].all fun t => [0, 1, 2, 3].all fun kd =>
  ((lineP kd n k).map (tau t n)).isPerm (lineP (kdT t kd) n (kT t kd n k)) && decide (kT t kd n k < n) && decide (kT t kd n (kT t kd n k) = k) && (lineP kd n k).all fun p => decide (p < n * n)
theorem permOk_true : permOk = true := by decide +kernel
theorem perm_at {n k t kd : Nat} (hn : n ≤ 12) (hk : k < n) (ht : t ≤ 1) (hd : kd ≤ 3) :
    ((lineP kd n k).map (tau t n)).Perm (lineP (kdT t kd) n (kT t kd n k)) ∧ kT t kd n k < n ∧ kT t kd n (kT t kd n k) = k ∧ ∀ p ∈ lineP kd n k, p < n * n := by
  have h := permOk_true
  unfold permOk at h
  rw [List.all_eq_true] at h
  have h1 := h n (by simp; omega)
  rw [List.all_eq_true] at h1
  have h2 := h1 k (by simpa using hk)
  rw [List.all_eq_true] at h2
  have h3 := h2 t (by rcases (show t = 0 ∨ t = 1 by omega) with rfl | rfl <;> simp)
  rw [List.all_eq_true] at h3
  have h4 := h3 kd (by rcases (show kd = 0 ∨ kd = 1 ∨ kd = 2 ∨ kd = 3 by omega) with rfl | rfl | rfl | rfl <;> simp)
  simp only [Bool.and_eq_true, decide_eq_true_eq, List.all_eq_true, List.isPerm_iff] at h4
  exact ⟨h4.1.1.1, h4.1.1.2, h4.1.2, h4.2⟩
/-- m is l, turned or mirrored. -/
def Sym (t n : Nat) (l m : List Int) : Prop := ∀ p, p < n * n → ist m p = ist l (tau t n p)
theorem sum_sym {t n kd k : Nat} {l m : List Int} (h : Sym t n l m) (hn : n ≤ 12) (hk : k < n) (ht : t ≤ 1) (hd : kd ≤ 3) : sumI m n kd k n = sumI l n (kdT t kd) (kT t kd n k) n := by
  obtain ⟨h1, _, _, h4⟩ := perm_at hn hk ht hd
  rw [sumI_line, sumI_line]
  have e : (lineP kd n k).map (ist m) = ((lineP kd n k).map (tau t n)).map (ist l) := by
    rw [List.map_map]
    exact List.map_congr_left fun p hp => h p (h4 p hp)
  rw [e]
  exact perm_sum (h1.map _)
/-- all lines of a kind have the sum s. -/
def Alk (l : List Int) (n kd : Nat) (s : Int) : Prop := ∀ k, k < n → sumI l n kd k n = s
instance (l : List Int) (n kd : Nat) (s : Int) : Decidable (Alk l n kd s) := by unfold Alk; exact inferInstance
theorem alike_iff {l : List Int} {n kd : Nat} {s : Int} : alikeI l n s kd = true ↔ Alk l n kd s := by
  unfold alikeI Alk
  rw [List.all_eq_true]
  simp
theorem alk_sym {t n kd : Nat} {l m : List Int} {s : Int} (h : Sym t n l m) (hn : n ≤ 12) (ht : t ≤ 1) (hd : kd ≤ 3) : Alk m n kd s ↔ Alk l n (kdT t kd) s := by
  constructor
  · intro a k hk
    obtain ⟨_, h2, h3, _⟩ := perm_at hn hk ht hd
    have := a (kT t kd n k) h2
    rw [sum_sym h hn h2 ht hd, h3] at this
    exact this
  · intro a k hk
    obtain ⟨_, h2, _, _⟩ := perm_at hn hk ht hd
    rw [sum_sym h hn hk ht hd]
    exact a _ h2
/-- the kind in words. -/
theorem kind_words (l : List Int) (n : Nat) (hn : 0 < n) :
    ((¬ ∃ s, Alk l n 0 s ∧ Alk l n 1 s) ∧ kindI l n = (0, 0)) ∨
    ∃ s, Alk l n 0 s ∧ Alk l n 1 s ∧ kindI l n = ((if Alk l n 2 s ∧ Alk l n 3 s then 3 else if sumI l n 2 0 n = s ∧ sumI l n 3 0 n = s then 2 else 1), s) := by
  by_cases h : ∃ s, Alk l n 0 s ∧ Alk l n 1 s
  · obtain ⟨s, h0, h1⟩ := h
    right
    have hs : sumI l n 0 0 n = s := h0 0 hn
    refine ⟨s, h0, h1, ?_⟩
    unfold kindI
    simp only [hs]
    rw [if_neg (by rw [alike_iff.2 h0, alike_iff.2 h1]; simp)]
    by_cases h23 : Alk l n 2 s ∧ Alk l n 3 s
    · rw [if_neg (by rw [alike_iff.2 h23.1, alike_iff.2 h23.2]; simp), if_pos h23]
    · rw [if_pos (by
        by_cases h2 : Alk l n 2 s
        · right
          rw [Bool.eq_false_iff]; intro h3
          exact h23 ⟨h2, alike_iff.1 h3⟩
        · left
          rw [Bool.eq_false_iff]; intro h3
          exact h2 (alike_iff.1 h3)), if_neg h23]
      split <;> rfl
  · left
    refine ⟨h, ?_⟩
    unfold kindI
    simp only
    rw [if_pos]
    by_cases h0 : alikeI l n (sumI l n 0 0 n) 0 = false
    · exact .inl h0
    · right
      rw [Bool.eq_false_iff]; intro h1
      exact h ⟨_, alike_iff.1 (by simpa using h0), alike_iff.1 h1⟩
theorem kT_zero {t kd n : Nat} (hd : kd = 2 ∨ kd = 3) : kT t kd n 0 = 0 := by
  unfold kT
  rcases hd with rfl | rfl
  · simp
  · by_cases h : t = 0 <;> simp [h]
/-- turned and mirrored squares are of one kind and one sum. -/
theorem kind_sym {t n : Nat} {l m : List Int} (h : Sym t n l m) (h0 : 0 < n) (hn : n ≤ 12) (ht : t ≤ 1) : kindI m n = kindI l n := by
  have a0 := fun s => alk_sym (kd := 0) (s := s) h hn ht (by omega)
  have a1 := fun s => alk_sym (kd := 1) (s := s) h hn ht (by omega)
  have a2 := fun s => alk_sym (kd := 2) (s := s) h hn ht (by omega)
  have a3 := fun s => alk_sym (kd := 3) (s := s) h hn ht (by omega)
  have b2 := sum_sym (kd := 2) h hn h0 ht (by omega)
  have b3 := sum_sym (kd := 3) h hn h0 ht (by omega)
  rw [kT_zero (.inl rfl)] at b2
  rw [kT_zero (.inr rfl)] at b3
  have e2 : kdT t 2 = 3 := rfl
  have e3 : kdT t 3 = 2 := rfl
  rw [e2] at b2
  rw [e3] at b3
  simp only [e2] at a2
  simp only [e3] at a3
  have hrc : ∀ s, (Alk m n 0 s ∧ Alk m n 1 s) ↔ (Alk l n 0 s ∧ Alk l n 1 s) := fun s => by
    rw [a0, a1]
    rcases (show t = 0 ∨ t = 1 by omega) with rfl | rfl
    · exact and_comm
    · exact Iff.rfl
  rcases kind_words m n h0 with ⟨h1, h2⟩ | ⟨s, h1, h2, h3⟩
  · rcases kind_words l n h0 with ⟨_, h4⟩ | ⟨s, h4, h5, _⟩
    · rw [h2, h4]
    · exact absurd ⟨s, (hrc s).2 ⟨h4, h5⟩⟩ h1
  · obtain ⟨g1, g2⟩ := (hrc s).1 ⟨h1, h2⟩
    rcases kind_words l n h0 with ⟨h4, _⟩ | ⟨s', h4, h5, h6⟩
    · exact absurd ⟨s, g1, g2⟩ h4
    · have hs : s' = s := (h4 0 h0).symm.trans (g1 0 h0)
      subst hs
      rw [h3, h6, b2, b3]
      have c1 : (Alk m n 2 s' ∧ Alk m n 3 s') ↔ (Alk l n 2 s' ∧ Alk l n 3 s') := by rw [a2, a3]; exact and_comm
      have c2 : (sumI l n 3 0 n = s' ∧ sumI l n 2 0 n = s') ↔ (sumI l n 2 0 n = s' ∧ sumI l n 3 0 n = s') := and_comm
      simp only [c1, c2]
/-- each number twice: twice the sum, the same kind. -/
theorem ist_twice (l : List Int) (i : Nat) : ist (l.map fun x => 2 * x) i = 2 * ist l i := by
  unfold ist
  rw [List.getElem?_map]
  cases l[i]? <;> simp
theorem sum_twice (l : List Int) (n kd k j : Nat) : sumI (l.map fun x => 2 * x) n kd k j = 2 * sumI l n kd k j := by
  induction j with
  | zero => simp [sumI]
  | succ j ih => rw [sumI_succ, sumI_succ, ih, ist_twice]; omega
theorem alk_twice {l : List Int} {n kd : Nat} {s : Int} : Alk (l.map fun x => 2 * x) n kd (2 * s) ↔ Alk l n kd s := by
  unfold Alk
  constructor <;> intro h k hk
  · have := h k hk; rw [sum_twice] at this; omega
  · rw [sum_twice, h k hk]
theorem kind_twice {l : List Int} {n : Nat} (h0 : 0 < n) : kindI (l.map fun x => 2 * x) n = ((kindI l n).1, 2 * (kindI l n).2) := by
  rcases kind_words l n h0 with ⟨h1, h2⟩ | ⟨s, h1, h2, h3⟩
  · rw [h2]
    rcases kind_words (l.map fun x => 2 * x) n h0 with ⟨_, h4⟩ | ⟨s, h4, h5, _⟩
    · rw [h4]; rfl
    · exfalso
      have hs : s = 2 * sumI l n 0 0 n := by rw [← sum_twice]; exact (h4 0 h0).symm
      rw [hs] at h4 h5
      exact h1 ⟨_, alk_twice.1 h4, alk_twice.1 h5⟩
  · rw [h3]
    rcases kind_words (l.map fun x => 2 * x) n h0 with ⟨h4, _⟩ | ⟨s', h4, h5, h6⟩
    · exact absurd ⟨2 * s, alk_twice.2 h1, alk_twice.2 h2⟩ h4
    · have hs : s' = 2 * s := by rw [← h4 0 h0, sum_twice, h1 0 h0]
      subst hs
      rw [h6]
      have c1 : (Alk (l.map fun x => 2 * x) n 2 (2 * s) ∧ Alk (l.map fun x => 2 * x) n 3 (2 * s)) ↔ (Alk l n 2 s ∧ Alk l n 3 s) := by rw [alk_twice, alk_twice]
      have c2 : (sumI (l.map fun x => 2 * x) n 2 0 n = 2 * s ∧ sumI (l.map fun x => 2 * x) n 3 0 n = 2 * s) ↔ (sumI l n 2 0 n = s ∧ sumI l n 3 0 n = s) := by
        rw [sum_twice, sum_twice]; omega
      simp only [c1, c2]
end Go.Proofs.Ytbfdhegglaaghaa
