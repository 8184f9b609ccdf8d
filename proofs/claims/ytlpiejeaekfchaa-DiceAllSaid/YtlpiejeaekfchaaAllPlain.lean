/- Plain laws of sums of dice: what dice.Sums makes of a list of sides (sumsL) adds up to the product, and is the same from behind; no conditions. -/
namespace Go.Proofs.Ytlpiejeaekfchaa

def sumN (n : Nat) (h : Nat → Int) : Int := match n with
  | 0 => 0
  | n + 1 => sumN n h + h n
theorem sumN_add (n : Nat) (f g : Nat → Int) : sumN n (fun i => f i + g i) = sumN n f + sumN n g := by
  induction n with
  | zero => rfl
  | succ n ih => simp only [sumN, ih]; omega
theorem sumN_congr {n : Nat} {f g : Nat → Int} (h : ∀ i, i < n → f i = g i) : sumN n f = sumN n g := by
  induction n with
  | zero => rfl
  | succ n ih => simp only [sumN]; rw [ih (fun i hi => h i (by omega)), h n (by omega)]
theorem sumN_zero (n : Nat) : sumN n (fun _ => 0) = 0 := by
  induction n with
  | zero => rfl
  | succ n ih => simp only [sumN, ih]; omega
theorem sumN_front (n : Nat) (f : Nat → Int) : sumN (n + 1) f = f 0 + sumN n (fun i => f (i + 1)) := by
  induction n with
  | zero => simp only [sumN]; omega
  | succ n ih => rw [sumN, ih]; simp only [sumN]; omega
theorem sumN_rev (n : Nat) : ∀ f : Nat → Int, sumN n f = sumN n (fun i => f (n - 1 - i)) := by
  induction n with
  | zero => intro f; rfl
  | succ n ih =>
    intro f
    rw [sumN_front n (fun i => f (n + 1 - 1 - i)), sumN]
    rw [ih f]
    have : sumN n (fun i => f (n - 1 - i)) = sumN n (fun i => f (n + 1 - 1 - (i + 1))) := sumN_congr fun i hi => by congr 1; omega
    rw [this]
    simp only [Nat.add_sub_cancel, Nat.sub_zero]; omega
theorem sumN_le {n : Nat} {f g : Nat → Int} (h : ∀ i, i < n → f i ≤ g i) : sumN n f ≤ sumN n g := by
  induction n with
  | zero => simp [sumN]
  | succ n ih => simp only [sumN]; have := ih (fun i hi => h i (by omega)); have := h n (by omega); omega
theorem sumN_nonneg {n : Nat} {f : Nat → Int} (h : ∀ i, i < n → 0 ≤ f i) : 0 ≤ sumN n f := by
  have := sumN_le (f := fun _ => 0) h
  rwa [sumN_zero] at this
theorem sumN_mono {n m : Nat} {f : Nat → Int} (hnm : n ≤ m) (h : ∀ i, i < m → 0 ≤ f i) : sumN n f ≤ sumN m f := by
  induction m with
  | zero => have : n = 0 := by omega
            subst this; exact Int.le_refl _
  | succ m ih =>
    by_cases e : n = m + 1
    · subst e; exact Int.le_refl _
    · have := ih (by omega) (fun i hi => h i (by omega))
      have := h m (by omega)
      simp only [sumN]; omega
theorem sumN_one (n t : Nat) (v : Int) (ht : t < n) : sumN n (fun j => if j = t then v else 0) = v := by
  induction n with
  | zero => omega
  | succ n ih =>
    simp only [sumN]
    by_cases e : t = n
    · subst e
      have : sumN t (fun j => if j = t then v else 0) = 0 := by
        exact (sumN_congr (g := fun _ => 0) fun i hi => by rw [if_neg (by omega)]).trans (sumN_zero t)
      rw [this]; simp
    · rw [ih (by omega), if_neg (by omega)]; omega
theorem sumN_range (n a s : Nat) (v : Int) (h : a + s ≤ n) : sumN n (fun j => if a ≤ j ∧ j < a + s then v else 0) = s * v := by
  induction s with
  | zero =>
    rw [show ((0 : Nat) : Int) * v = 0 from by simp]
    exact (sumN_congr (g := fun _ => 0) fun i hi => by rw [if_neg (by omega)]).trans (sumN_zero n)
  | succ s ih =>
    have e : sumN n (fun j => if a ≤ j ∧ j < a + (s + 1) then v else 0) = sumN n (fun j => (if a ≤ j ∧ j < a + s then v else 0) + (if j = a + s then v else 0)) := by
      refine sumN_congr fun i hi => ?_
      by_cases h1 : a ≤ i ∧ i < a + s
      · rw [if_pos h1, if_pos (by omega), if_neg (by omega)]; omega
      · by_cases h2 : i = a + s
        · rw [if_neg h1, if_pos (by omega), if_pos h2]; omega
        · rw [if_neg h1, if_neg (by omega), if_neg h2]; omega
    rw [e, sumN_add, ih (by omega), sumN_one _ _ _ (by omega), show ((s + 1 : Nat) : Int) = (s : Int) + 1 from by omega, Int.add_mul, Int.one_mul]

/-- how often sum j comes, of the first i places of l, and of k sides more at place i. -/
def cvs (l : List Int) (s j n : Nat) : Int := sumN n (fun i => if i ≤ j ∧ j < i + s then l[i]?.getD 0 else 0)
def cv (l : List Int) (s i k j : Nat) : Int := cvs l s j i + (if i ≤ j ∧ j < i + k then l[i]?.getD 0 else 0)
def tab (m : Nat) (f : Nat → Int) : List Int := (List.range m).map f
def convL (l : List Int) (s : Nat) : List Int := tab (l.length + s - 1) (fun j => cvs l s j l.length)
def sumsL (dice : List Nat) (l : List Int) : List Int := match dice with
  | [] => l
  | s :: ds => sumsL ds (convL l s)
def lsum : List Int → Int
  | [] => 0
  | x :: l => x + lsum l

theorem cv_step (l : List Int) (s i k j : Nat) : cv l s i (k + 1) j = cv l s i k j + (if j = i + k then l[i]?.getD 0 else 0) := by
  unfold cv
  by_cases h : i ≤ j ∧ j < i + k
  · rw [if_pos h, if_pos (by omega), if_neg (by omega)]; omega
  · by_cases h2 : j = i + k
    · rw [if_neg h, if_pos (by omega), if_pos h2]; omega
    · rw [if_neg h, if_neg (by omega), if_neg h2]; omega
theorem cv_next (l : List Int) (s i j : Nat) : cv l s i s j = cv l s (i + 1) 0 j := by
  unfold cv cvs
  rw [if_neg (by omega : ¬ (i + 1 ≤ j ∧ j < i + 1 + 0))]
  simp only [sumN]; omega
theorem cv_zero (l : List Int) (s j : Nat) : cv l s 0 0 j = 0 := by
  unfold cv cvs
  rw [if_neg (by omega)]
  simp [sumN]
theorem cv_all (l : List Int) (s j : Nat) : cv l s l.length 0 j = cvs l s j l.length := by
  unfold cv
  rw [if_neg (by omega)]; omega
theorem tab_len (m : Nat) (f : Nat → Int) : (tab m f).length = m := by simp [tab]
theorem tab_at (m : Nat) (f : Nat → Int) (j : Nat) (h : j < m) : (tab m f)[j]?.getD 0 = f j := by simp [tab, h]
theorem tab_congr {m : Nat} {f g : Nat → Int} (h : ∀ j, j < m → f j = g j) : tab m f = tab m g := by
  unfold tab; exact List.map_congr_left fun j hj => h j (by simpa using hj)
theorem tab_set (m : Nat) (f g : Nat → Int) (t : Nat) (v : Int) (h : ∀ j, j < m → g j = f j + if j = t then v else 0) : (tab m f).set t (f t + v) = tab m g := by
  apply List.ext_getElem?
  intro j
  by_cases hj : j < m
  · by_cases e : j = t
    · subst e; simp [tab, hj, h j hj]
    · rw [List.getElem?_set_ne (by omega)]; simp [tab, hj, h j hj, e]
  · simp [tab, hj]
theorem tab_zero (m : Nat) : List.replicate m (0 : Int) = tab m (fun _ => 0) := by
  apply List.ext_getElem?
  intro j
  by_cases hj : j < m <;> simp [tab, hj]
theorem lsum_append (a b : List Int) : lsum (a ++ b) = lsum a + lsum b := by
  induction a with
  | nil => simp [lsum]
  | cons x a ih => simp only [List.cons_append, lsum, ih]; omega
theorem lsum_tab (m : Nat) (f : Nat → Int) : lsum (tab m f) = sumN m f := by
  induction m with
  | zero => rfl
  | succ m ih =>
    have : tab (m + 1) f = tab m f ++ [f m] := by simp [tab, List.range_succ]
    rw [this, lsum_append, ih]; simp [sumN, lsum]
theorem lsum_sumN (l : List Int) : lsum l = sumN l.length (fun i => l[i]?.getD 0) := by
  induction l with
  | nil => rfl
  | cons x l ih => rw [List.length_cons, sumN_front]; simp [lsum, ih]
theorem sum_cvs (l : List Int) (s m : Nat) : ∀ n, n + s ≤ m + 1 → sumN m (fun j => cvs l s j n) = s * sumN n (fun i => l[i]?.getD 0) := by
  intro n
  induction n with
  | zero => intro _; simp [cvs, sumN, sumN_zero]
  | succ n ih =>
    intro h
    have : (fun j => cvs l s j (n + 1)) = fun j => cvs l s j n + (if n ≤ j ∧ j < n + s then l[n]?.getD 0 else 0) := by funext j; simp [cvs, sumN]
    rw [this, sumN_add, ih (by omega), sumN_range _ _ _ _ (by omega)]
    simp only [sumN]
    rw [Int.mul_add]
/-- a list of counts: none below 0, and the same from behind. -/
def Even (l : List Int) : Prop := (∀ j, j < l.length → 0 ≤ l[j]?.getD 0) ∧ ∀ j, j < l.length → l[j]?.getD 0 = l[l.length - 1 - j]?.getD 0
theorem conv_len (l : List Int) (s : Nat) : (convL l s).length = l.length + s - 1 := tab_len _ _
theorem conv_sum (l : List Int) (s : Nat) (hs : 1 ≤ s) : lsum (convL l s) = s * lsum l := by
  unfold convL
  rw [lsum_tab, sum_cvs _ _ _ _ (by omega), lsum_sumN l]
theorem cvs_bounds {l : List Int} (he : Even l) (s i k j : Nat) (hi : i < l.length) : 0 ≤ cv l s i k j ∧ cv l s i k j ≤ lsum l := by
  have hpos : ∀ t, t < l.length → 0 ≤ (fun i => l[i]?.getD 0) t := fun t ht => he.1 t ht
  have h1 : cvs l s j i ≤ sumN i (fun i => l[i]?.getD 0) := sumN_le fun t ht => by
    have := he.1 t (by omega)
    split <;> omega
  have h0 : 0 ≤ cvs l s j i := sumN_nonneg fun t ht => by
    have := he.1 t (by omega)
    split <;> omega
  have h2 := he.1 i hi
  have h3 : sumN (i + 1) (fun i => l[i]?.getD 0) ≤ sumN l.length (fun i => l[i]?.getD 0) := sumN_mono (by omega) hpos
  rw [← lsum_sumN] at h3
  simp only [sumN] at h3
  unfold cv
  constructor <;> split <;> omega
theorem conv_even {l : List Int} (he : Even l) (s : Nat) (hs : 1 ≤ s) : Even (convL l s) := by
  refine ⟨fun j hj => ?_, fun j hj => ?_⟩
  · rw [conv_len] at hj
    unfold convL
    rw [tab_at _ _ _ hj]
    exact sumN_nonneg fun t ht => by have := he.1 t ht; split <;> omega
  · rw [conv_len] at hj ⊢
    unfold convL
    rw [tab_at _ _ _ hj, tab_at _ _ _ (by omega)]
    unfold cvs
    rw [sumN_rev]
    refine sumN_congr fun i hi => ?_
    have e := he.2 i hi
    by_cases h : l.length - 1 - i ≤ j ∧ j < l.length - 1 - i + s
    · rw [if_pos h, if_pos (by omega), e]
    · rw [if_neg h, if_neg (by omega)]
theorem even_one : Even [1] := by
  refine ⟨fun j hj => ?_, fun j hj => ?_⟩ <;> (simp at hj; subst hj; simp)
def prod : List Nat → Int
  | [] => 1
  | s :: ds => s * prod ds
theorem sums_even (ds : List Nat) (h : ∀ s ∈ ds, 1 ≤ s) : ∀ l, Even l → Even (sumsL ds l) := by
  induction ds with
  | nil => intro l hl; exact hl
  | cons s ds ih => intro l hl; exact ih (fun t ht => h t (List.mem_cons_of_mem _ ht)) _ (conv_even hl s (h s (List.mem_cons_self ..)))
theorem sums_sum (ds : List Nat) (h : ∀ s ∈ ds, 1 ≤ s) : ∀ l, lsum (sumsL ds l) = prod ds * lsum l := by
  induction ds with
  | nil => intro l; simp [sumsL, prod]
  | cons s ds ih =>
    intro l
    rw [sumsL, ih (fun t ht => h t (List.mem_cons_of_mem _ ht)), conv_sum _ _ (h s (List.mem_cons_self ..)), prod, ← Int.mul_assoc, Int.mul_comm (prod ds)]
theorem sumsL_snoc (ds : List Nat) (s : Nat) : ∀ l, sumsL (ds ++ [s]) l = convL (sumsL ds l) s := by
  induction ds with
  | nil => intro l; rfl
  | cons t ds ih => intro l; exact ih _
end Go.Proofs.Ytlpiejeaekfchaa
