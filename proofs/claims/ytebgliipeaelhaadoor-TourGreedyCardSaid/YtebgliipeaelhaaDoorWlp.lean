/- Plain laws on how many walks of so many leaps lead from a place to each place; conditions: none. -/
import Derived.Test.YtebgliipeaelhaaDoorNfd
namespace Go.Proofs.YtebgliipeaelhaaDoor

def addAt (l : List Nat) (q v : Nat) : List Nat := l.set q (st l q + v)
def rowK (l : List Nat) (v : Nat) (qs : List Nat) : Nat → List Nat
  | 0 => l
  | i + 1 => addAt (rowK l v qs i) (st qs i) v
def stepK (a b : Nat) (v : List Nat) : Nat → List Nat
  | 0 => List.replicate (a * b) 0
  | p + 1 => rowK (stepK a b v p) (st v p) (nb a b p) (nb a b p).length
def walkV (a b x : Nat) : Nat → List Nat
  | 0 => (List.replicate (a * b) 0).set x 1
  | t + 1 => stepK a b (walkV a b x t) (a * b)

theorem st_set (l : List Nat) (q x j : Nat) (hq : q < l.length) : st (l.set q x) j = if j = q then x else st l j := by
  unfold st
  by_cases h : j = q
  · subst h; rw [List.getElem?_set_self hq, if_pos rfl]; rfl
  · rw [List.getElem?_set_ne (by omega), if_neg h]
theorem rowK_len (l : List Nat) (v : Nat) (qs : List Nat) : ∀ i, (rowK l v qs i).length = l.length := by
  intro i
  induction i with
  | zero => rfl
  | succ i ih => rw [rowK, addAt, List.length_set, ih]
theorem stepK_len (a b : Nat) (v : List Nat) : ∀ p, (stepK a b v p).length = a * b := by
  intro p
  induction p with
  | zero => simp [stepK]
  | succ p ih => rw [stepK, rowK_len, ih]
theorem walkV_len (a b x : Nat) : ∀ t, (walkV a b x t).length = a * b := by
  intro t
  cases t with
  | zero => simp [walkV]
  | succ t => rw [walkV, stepK_len]
theorem sum_set (l : List Nat) (q x : Nat) : (l.set q x).sum ≤ l.sum + x ∧ (l.set q (st l q + x)).sum ≤ l.sum + x := by
  induction l generalizing q with
  | nil => simp [st]
  | cons y l ih =>
    cases q with
    | zero => simp [st]; omega
    | succ q =>
      have := ih q
      simp only [st, List.set_cons_succ, List.sum_cons, List.getElem?_cons_succ] at this ⊢
      omega
theorem rowK_sum (l : List Nat) (v : Nat) (qs : List Nat) : ∀ i, (rowK l v qs i).sum ≤ l.sum + i * v := by
  intro i
  induction i with
  | zero => simp [rowK]
  | succ i ih => rw [rowK, addAt, Nat.add_mul, Nat.one_mul]; have := (sum_set (rowK l v qs i) (st qs i) v).2; omega
theorem st_le_sum (l : List Nat) (q : Nat) : st l q ≤ l.sum := by
  induction l generalizing q with
  | nil => simp [st]
  | cons y l ih =>
    cases q with
    | zero => simp [st]
    | succ q => have := ih q; simp only [st, List.getElem?_cons_succ, List.sum_cons] at this ⊢; omega
theorem sum_take (l : List Nat) : ∀ p, (l.take (p + 1)).sum = (l.take p).sum + st l p := by
  intro p
  induction l generalizing p with
  | nil => simp [st]
  | cons y l ih =>
    cases p with
    | zero => simp [st]
    | succ p => have := ih p; simp only [st, List.take_succ_cons, List.sum_cons, List.getElem?_cons_succ] at this ⊢; omega
theorem sum_take_le (l : List Nat) (p : Nat) : (l.take p).sum ≤ l.sum := by
  have := congrArg List.sum (List.take_append_drop p l)
  rw [List.sum_append] at this
  omega
theorem nb_len (a b p : Nat) : (nb a b p).length ≤ 8 := nbN_len a b p 8
theorem rep_sum (n : Nat) : (List.replicate n 0).sum = 0 := by
  induction n with
  | zero => rfl
  | succ n ih => rw [List.replicate_succ, List.sum_cons, ih]
theorem stepK_sum (a b : Nat) (v : List Nat) : ∀ p, (stepK a b v p).sum ≤ 8 * (v.take p).sum := by
  intro p
  induction p with
  | zero => simp only [stepK]; rw [rep_sum]; omega
  | succ p ih =>
    rw [stepK, sum_take]
    have h1 := rowK_sum (stepK a b v p) (st v p) (nb a b p) (nb a b p).length
    have h2 := Nat.mul_le_mul_right (st v p) (nb_len a b p)
    omega
theorem walkV_sum (a b x : Nat) : ∀ t, (walkV a b x t).sum ≤ 8 ^ t := by
  intro t
  induction t with
  | zero => rw [walkV]; have := (sum_set (List.replicate (a * b) 0) x 1).1; rw [rep_sum] at this; exact this
  | succ t ih => rw [walkV, Nat.pow_succ]; have h1 := stepK_sum a b (walkV a b x t) (a * b); have h2 := sum_take_le (walkV a b x t) (a * b); omega
/-- nothing runs over: what is added within a step. -/
theorem step_small (a b x t p i : Nat) (ht : t ≤ 12) (hi : i < (nb a b p).length) (q : Nat) : st (rowK (stepK a b (walkV a b x t) p) (st (walkV a b x t) p) (nb a b p) i) q + st (walkV a b x t) p ≤ 1099511627776 := by
  have h1 := st_le_sum (rowK (stepK a b (walkV a b x t) p) (st (walkV a b x t) p) (nb a b p) i) q
  have h2 := rowK_sum (stepK a b (walkV a b x t) p) (st (walkV a b x t) p) (nb a b p) i
  have h3 := stepK_sum a b (walkV a b x t) p
  have h4 := sum_take (walkV a b x t) p
  have h5 := sum_take_le (walkV a b x t) (p + 1)
  have h6 := walkV_sum a b x t
  have h7 : 8 ^ t ≤ 8 ^ 12 := Nat.pow_le_pow_right (by omega) ht
  have h8 := nb_len a b p
  have h9 := Nat.mul_le_mul_right (st (walkV a b x t) p) (show i + 1 ≤ 8 by omega)
  rw [Nat.add_mul, Nat.one_mul] at h9
  have : (8 : Nat) ^ 12 = 68719476736 := by decide
  omega

/-! What a step adds up. -/
def sumN (f : Nat → Nat) : Nat → Nat
  | 0 => 0
  | n + 1 => sumN f n + f n
theorem rowK_st (l : List Nat) (v : Nat) (qs : List Nat) (hq : ∀ q ∈ qs, q < l.length) (y : Nat) : ∀ i, i ≤ qs.length → st (rowK l v qs i) y = st l y + v * (qs.take i).count y := by
  intro i
  induction i with
  | zero => intro _; simp [rowK]
  | succ i ih =>
    intro hi
    have hil : i < qs.length := by omega
    have hqi : st qs i = qs[i] := by unfold st; rw [List.getElem?_eq_getElem hil]; rfl
    rw [rowK, addAt, st_set _ _ _ _ (by rw [rowK_len, hqi]; exact hq _ (List.getElem_mem hil)), List.take_add_one, List.getElem?_eq_getElem hil, List.count_append]
    simp only [Option.toList_some, List.count_singleton]
    rw [hqi]
    by_cases h : y = qs[i]
    · rw [if_pos h, ← h, ih (by omega)]; simp; rw [Nat.mul_add, Nat.mul_one]; omega
    · rw [if_neg h, ih (by omega)]
      have e0 : (qs[i] == y) = false := by simpa using fun e => h e.symm
      rw [e0]; simp
theorem stepK_st (a b : Nat) (v : List Nat) (y : Nat) : ∀ p, st (stepK a b v p) y = sumN (fun p => st v p * (nb a b p).count y) p := by
  intro p
  induction p with
  | zero => simp only [stepK, sumN, st]; by_cases h : y < a * b <;> simp [h]
  | succ p ih =>
    rw [stepK, sumN, rowK_st _ _ _ (fun q hq => by rw [stepK_len]; exact nb_lt 8 hq) y _ (Nat.le_refl _), ih, List.take_length]
theorem ite_sw (y x : Nat) : (if y = x then 1 else 0) = (if x = y then 1 else 0) := by
  by_cases h : y = x
  · rw [if_pos h, if_pos h.symm]
  · rw [if_neg h, if_neg (fun e => h e.symm)]
def uW (a b x t y : Nat) : Nat := st (walkV a b x t) y
theorem uW_succ (a b x t y : Nat) : uW a b x (t + 1) y = sumN (fun p => uW a b x t p * (nb a b p).count y) (a * b) := stepK_st a b _ y _
theorem uW_zero (a b x y : Nat) (hx : x < a * b) : uW a b x 0 y = if y = x then 1 else 0 := by
  unfold uW walkV
  rw [st_set _ _ _ _ (by simpa using hx)]
  by_cases h : y = x
  · rw [if_pos h, if_pos h]
  · rw [if_neg h, if_neg h]; unfold st; by_cases h : y < a * b <;> simp [h]
theorem sumN_congr {f g : Nat → Nat} : ∀ n, (∀ i, i < n → f i = g i) → sumN f n = sumN g n := by
  intro n
  induction n with
  | zero => intro _; rfl
  | succ n ih => intro h; rw [sumN, sumN, ih (fun i hi => h i (by omega)), h n (by omega)]
theorem sumN_mul (f : Nat → Nat) (k : Nat) : ∀ n, sumN f n * k = sumN (fun i => f i * k) n := by
  intro n
  induction n with
  | zero => simp [sumN]
  | succ n ih => rw [sumN, sumN, Nat.add_mul, ih]
theorem sumN_mull (f : Nat → Nat) (k : Nat) (n : Nat) : k * sumN f n = sumN (fun i => k * f i) n := by
  rw [Nat.mul_comm, sumN_mul]; exact sumN_congr n fun i _ => Nat.mul_comm _ _
theorem sumN_add (f g : Nat → Nat) : ∀ n, sumN (fun i => f i + g i) n = sumN f n + sumN g n := by
  intro n
  induction n with
  | zero => simp [sumN]
  | succ n ih => rw [sumN, sumN, sumN, ih]; omega
theorem sumN_swap (f : Nat → Nat → Nat) (m : Nat) : ∀ n, sumN (fun i => sumN (f i) m) n = sumN (fun j => sumN (fun i => f i j) n) m := by
  intro n
  induction n with
  | zero =>
    simp only [sumN]
    induction m with
    | zero => rfl
    | succ m ih => rw [sumN, ← ih]
  | succ n ih => simp only [sumN]; rw [ih, sumN_add]
theorem sumN_one (f : Nat → Nat) (x : Nat) : ∀ n, sumN (fun p => (if p = x then 1 else 0) * f p) n = if x < n then f x else 0 := by
  intro n
  induction n with
  | zero => simp [sumN]
  | succ n ih =>
    rw [sumN, ih]
    by_cases h : n = x
    · subst h; simp
    · rw [if_neg h]
      by_cases h2 : x < n
      · rw [if_pos h2, if_pos (by omega)]; omega
      · rw [if_neg h2, if_neg (by omega)]; omega
theorem sumN_pos {f : Nat → Nat} : ∀ n, 0 < sumN f n → ∃ i, i < n ∧ 0 < f i := by
  intro n
  induction n with
  | zero => intro h; simp [sumN] at h
  | succ n ih =>
    intro h
    rw [sumN] at h
    by_cases h0 : 0 < f n
    · exact ⟨n, by omega, h0⟩
    · obtain ⟨i, h1, h2⟩ := ih (by omega)
      exact ⟨i, by omega, h2⟩
/-- the first leap apart. -/
theorem uW_left (a b x : Nat) (hx : x < a * b) : ∀ t y, uW a b x (t + 1) y = sumN (fun p => (nb a b x).count p * uW a b p t y) (a * b) := by
  intro t
  induction t with
  | zero =>
    intro y
    rw [uW_succ, sumN_congr (g := fun p => (if p = x then 1 else 0) * (nb a b p).count y) _ (fun p _ => by rw [uW_zero a b x p hx]), sumN_one, if_pos hx]
    by_cases hy : y < a * b
    · have := sumN_one (fun p => (nb a b x).count p) y (a * b)
      rw [if_pos hy] at this
      rw [← this]
      refine sumN_congr _ fun p hp => ?_
      rw [uW_zero a b p y hp, Nat.mul_comm]
      by_cases h : y = p
      · subst h; simp
      · rw [if_neg h, if_neg (fun e => h e.symm)]
    · rw [show (nb a b x).count y = 0 from List.count_eq_zero_of_not_mem (fun h => hy (nb_lt 8 h))]
      symm
      rw [sumN_congr (g := fun _ => 0) _ (fun p hp => by rw [uW_zero a b p y hp, if_neg (by omega), Nat.mul_zero])]
      generalize a * b = n
      clear hx hy
      induction n with
      | zero => rfl
      | succ n ih => rw [sumN, ih]
  | succ t ih =>
    intro y
    rw [uW_succ, sumN_congr (g := fun p => sumN (fun r => (nb a b x).count r * uW a b r t p * (nb a b p).count y) (a * b)) _ (fun p _ => by rw [ih p, sumN_mul]), sumN_swap]
    refine sumN_congr _ fun r hr => ?_
    rw [uW_succ, sumN_mull]
    exact sumN_congr _ fun p _ => Nat.mul_assoc _ _ _
theorem nb_facts : ∀ a, a < 9 → ∀ b, b < 9 → ∀ p, p < a * b → (nb a b p).Nodup ∧ ∀ q ∈ nb a b p, p ∈ nb a b q ∧ (p % a + p / a + (q % a + q / a)) % 2 = 1 := by decide +kernel
theorem count_sym {a b p q : Nat} (ha : a ≤ 8) (hb : b ≤ 8) (hp : p < a * b) (hq : q < a * b) : (nb a b p).count q = (nb a b q).count p := by
  have h1 := nb_facts a (by omega) b (by omega) p hp
  have h2 := nb_facts a (by omega) b (by omega) q hq
  rw [List.Nodup.count h1.1, List.Nodup.count h2.1]
  by_cases h : q ∈ nb a b p
  · rw [if_pos h, if_pos (h1.2 q h).1]
  · rw [if_neg h, if_neg (fun h' => h (h2.2 p h').1)]
theorem uW_sym {a b : Nat} (ha : a ≤ 8) (hb : b ≤ 8) : ∀ t x y, x < a * b → y < a * b → uW a b x t y = uW a b y t x := by
  intro t
  induction t with
  | zero => intro x y hx hy; rw [uW_zero a b x y hx, uW_zero a b y x hy]; exact ite_sw y x
  | succ t ih =>
    intro x y hx hy
    rw [uW_succ, uW_left a b y hy]
    exact sumN_congr _ fun p hp => by rw [ih x p hx hp, count_sym ha hb hp hy, Nat.mul_comm]
theorem uW_pos {a b x t y : Nat} (h : 0 < uW a b x (t + 1) y) : ∃ p, p < a * b ∧ 0 < uW a b x t p ∧ y ∈ nb a b p := by
  rw [uW_succ] at h
  obtain ⟨p, hp, h2⟩ := sumN_pos _ h
  have h3 : 0 < (nb a b p).count y := by rcases Nat.eq_zero_or_pos ((nb a b p).count y) with h | h; (rw [h] at h2; omega); exact h
  have h4 : 0 < uW a b x t p := by rcases Nat.eq_zero_or_pos (uW a b x t p) with h | h; (rw [h] at h2; omega); exact h
  exact ⟨p, hp, h4, List.count_pos_iff.1 h3⟩
def colr (a p : Nat) : Nat := p % a + p / a
theorem nb_col {a b p q : Nat} (ha : a ≤ 8) (hb : b ≤ 8) (hp : p < a * b) (hq : q ∈ nb a b p) : (colr a p + colr a q) % 2 = 1 := ((nb_facts a (by omega) b (by omega) p hp).2 q hq).2
theorem uW_col {a b x : Nat} (ha : a ≤ 8) (hb : b ≤ 8) (hx : x < a * b) : ∀ t y, y < a * b → 0 < uW a b x t y → (colr a x + colr a y) % 2 = t % 2 := by
  intro t
  induction t with
  | zero =>
    intro y hy h
    rw [uW_zero a b x y hx] at h
    by_cases e : y = x
    · subst e; omega
    · rw [if_neg e] at h; omega
  | succ t ih =>
    intro y hy h
    obtain ⟨p, hp, h1, h2⟩ := uW_pos h
    have := ih p hp h1
    have := nb_col ha hb hp h2
    omega
theorem three_pos : 0 < uW 8 8 0 3 17 := by decide +kernel
end Go.Proofs.YtebgliipeaelhaaDoor
