/- Plain laws of crib's show: no order of the four cards counts; 29 is the most; a crib brings no more; no program in sight. -/
import Derived.Test.YtkakggagaplaiaaCrP
namespace Go.Proofs.Ytkakggagaplaiaa

theorem pow_div_mod {n s i : Nat} (h : i < n) : (2 ^ n + s) / 2 ^ i % 2 = s / 2 ^ i % 2 := by
  obtain ⟨k, rfl⟩ : ∃ k, n = i + 1 + k := ⟨n - (i + 1), by omega⟩
  have h2 : 2 ^ (i + 1 + k) = 2 ^ i * (2 * 2 ^ k) := by rw [Nat.pow_add, Nat.pow_succ, Nat.mul_assoc]
  rw [h2, Nat.mul_add_div (Nat.pow_pos (by omega))]
  omega
theorem wS_low (l : List Nat) (n s : Nat) : ∀ j, j ≤ n → wS l (2 ^ n + s) j = wS l s j
  | 0, _ => rfl
  | j + 1, h => by rw [wS, wS, wS_low l n s j (by omega), pow_div_mod (by omega)]
/-- ways to take t points out of the first n cards. -/
def gq (l : List Nat) : Nat → Nat → Nat
  | 0, t => if t = 0 then 1 else 0
  | n + 1, t => gq l n t + if ptN (st l n) ≤ t then gq l n (t - ptN (st l n)) else 0
theorem cS_split (l : List Nat) (j t a : Nat) : ∀ b, cS l j t (a + b) = cS l j t a + (List.range b).foldl (fun s k => s + if wS l (a + k) j = t then 1 else 0) 0
  | 0 => by simp
  | b + 1 => by rw [← Nat.add_assoc, cS, cS_split l j t a b, List.range_succ, List.foldl_append]; simp [Nat.add_assoc]
theorem cS_as (l : List Nat) (j t : Nat) : ∀ b, cS l j t b = (List.range b).foldl (fun s k => s + if wS l k j = t then 1 else 0) 0
  | 0 => rfl
  | b + 1 => by rw [cS, cS_as l j t b, List.range_succ, List.foldl_append]; rfl
theorem fold_congr {f g : Nat → Nat} : ∀ (L : List Nat) (z : Nat), (∀ k ∈ L, f k = g k) → L.foldl (fun s k => s + f k) z = L.foldl (fun s k => s + g k) z
  | [], _, _ => rfl
  | x :: xs, z, h => by simp only [List.foldl_cons]; rw [h x (by simp)]; exact fold_congr xs _ fun k hk => h k (by simp [hk])
theorem fold_zero : ∀ (L : List Nat) (z : Nat), L.foldl (fun s _ => s + 0) z = z
  | [], _ => rfl
  | x :: xs, z => by simp only [List.foldl_cons, Nat.add_zero]; exact fold_zero xs z
theorem cS_gq (l : List Nat) : ∀ n t, cS l n t (2 ^ n) = gq l n t
  | 0, t => by
    rcases Nat.eq_zero_or_pos t with h | h
    · subst h; rfl
    · have h1 : ¬ (0 = t) := by omega
      have h2 : ¬ (t = 0) := by omega
      simp [cS, gq, wS, h1, h2]
  | n + 1, t => by
    rw [Nat.pow_succ, Nat.mul_two, cS_split, gq]
    have hlow : cS l (n + 1) t (2 ^ n) = cS l n t (2 ^ n) := by
      rw [cS_as, cS_as]
      refine fold_congr _ _ fun k hk => ?_
      have hk2 : k < 2 ^ n := by simpa using hk
      rw [wS, Nat.div_eq_of_lt hk2]; simp
    rw [hlow, cS_gq l n t]
    congr 1
    have hw : ∀ k, k < 2 ^ n → wS l (2 ^ n + k) (n + 1) = wS l k n + ptN (st l n) := fun k hk => by
      rw [wS, wS_low l n k n (Nat.le_refl _)]
      have : (2 ^ n + k) / 2 ^ n = 1 := by
        rw [Nat.add_div_left _ (Nat.pow_pos (by omega)), Nat.div_eq_of_lt hk]
      rw [this]; simp
    by_cases hp : ptN (st l n) ≤ t
    · rw [if_pos hp, ← cS_gq l n, cS_as]
      refine fold_congr _ _ fun k hk => ?_
      rw [hw k (by simpa using hk)]
      by_cases e : wS l k n = t - ptN (st l n)
      · rw [if_pos (by omega), if_pos e]
      · rw [if_neg (by omega), if_neg e]
    · rw [if_neg hp]
      have : (List.range (2 ^ n)).foldl (fun s k => s + if wS l (2 ^ n + k) (n + 1) = t then 1 else 0) 0 = (List.range (2 ^ n)).foldl (fun s _ => s + 0) 0 := by
        refine fold_congr _ _ fun k hk => ?_
        rw [hw k (by simpa using hk), if_neg (by omega)]
      rw [this, fold_zero]
/-- ways to take t out of points. -/
def gl : List Nat → Nat → Nat
  | [], t => if t = 0 then 1 else 0
  | x :: xs, t => gl xs t + if x ≤ t then gl xs (t - x) else 0
theorem gl_perm {a b : List Nat} (h : a.Perm b) : ∀ t, gl a t = gl b t := by
  induction h with
  | nil => intro t; rfl
  | cons x _ ih => intro t; simp only [gl, ih]
  | swap x y l =>
    intro t
    simp only [gl]
    have e4 : t - y - x = t - x - y := by omega
    by_cases h1 : x ≤ t <;> by_cases h2 : y ≤ t
    · by_cases h3 : x ≤ t - y
      · have h4 : y ≤ t - x := by omega
        simp only [h1, h2, h3, h4, if_true, e4]; omega
      · have h4 : ¬ y ≤ t - x := by omega
        simp only [h1, h2, h3, h4, if_true, if_false]; omega
    · have h4 : ¬ y ≤ t - x := by omega
      simp only [h1, h2, h4, if_true, if_false]; omega
    · have h3 : ¬ x ≤ t - y := by omega
      simp only [h1, h2, h3, if_true, if_false]; omega
    · simp only [h1, h2, if_false]
  | trans _ _ h1 h2 => intro t; rw [h1, h2]
theorem gq_gl (l : List Nat) : ∀ n t, n ≤ l.length → gq l n t = gl ((l.take n).reverse.map ptN) t
  | 0, t, _ => by simp [gq, gl]
  | n + 1, t, h => by
    rw [gq, take_snoc l n (by omega), List.reverse_append, List.map_append, gq_gl l n t (by omega), gq_gl l n _ (by omega)]
    rfl
/-- fifteens, by points. -/
theorem fif_eq {l : List Nat} (h : l.length = 5) : cS l 5 15 32 = gl (l.map ptN) 15 := by
  have h1 := cS_gq l 5 15
  rw [gq_gl l 5 15 (by omega), List.take_of_length_le (by omega)] at h1
  rw [show (2 : Nat) ^ 5 = 32 from rfl] at h1
  rw [h1]
  exact gl_perm ((List.reverse_perm l).map ptN) 15
/-- pairs of equal pips, as a power of two. -/
def pw (x y : Nat) : Int := if pipN x = pipN y then 2 else 1
theorem prodL_ep (l : List Nat) (i : Nat) : ∀ k, k ≤ l.length → prodL (fun y => pw y (st l i)) (l.take k) = 2 ^ eP l i k
  | 0, _ => rfl
  | k + 1, h => by
    rw [take_snoc l k (by omega), prodL_app, prodL_ep l i k (by omega), eP, Int.pow_add]
    congr 1
    simp only [prodL, Int.mul_one, pw]
    by_cases e : pipN (st l i) = pipN (st l k)
    · rw [if_pos e, if_pos e.symm]; rfl
    · rw [if_neg e, if_neg (fun e2 => e e2.symm)]; rfl
theorem pp_ps (l : List Nat) : ∀ i, i ≤ l.length → pp pw (l.take i) = 2 ^ pS l i
  | 0, _ => rfl
  | i + 1, h => by rw [take_snoc l i (by omega), pp_snoc, pp_ps l i (by omega), prodL_ep l i i (by omega), pS, Int.pow_add]
theorem two_inj {a b : Nat} (h : (2 : Int) ^ a = 2 ^ b) : a = b := by
  have h2 : (2 : Nat) ^ a = 2 ^ b := by exact_mod_cast h
  exact (Nat.pow_right_inj (by omega)).1 h2
theorem pS_perm {a b : List Nat} (h : a.Perm b) : pS a a.length = pS b b.length := by
  have h1 := pp_ps a a.length (Nat.le_refl _)
  have h2 := pp_ps b b.length (Nat.le_refl _)
  rw [List.take_length] at h1 h2
  refine two_inj ?_
  rw [← h1, ← h2]
  exact pp_perm (fun x y => by unfold pw; by_cases e : pipN x = pipN y; rw [if_pos e, if_pos e.symm]; rw [if_neg e, if_neg fun e2 => e e2.symm]) h
/-- what the pips alone bring. -/
def pipV (l : List Nat) : Nat := 2 * cS l 5 15 32 + 2 * pS l 5 + (rnS (mny l) 14).2
theorem mny_perm {a b : List Nat} (h : a.Perm b) : mny a = mny b := by
  funext q; unfold mny; exact h.countP_eq _
theorem pipV_perm {a b : List Nat} (h : a.Perm b) (hl : a.length = 5) : pipV a = pipV b := by
  have hl2 : b.length = 5 := by rw [← h.length_eq]; exact hl
  have h1 := pS_perm h
  rw [hl, hl2] at h1
  unfold pipV
  rw [fif_eq hl, fif_eq hl2, gl_perm (h.map ptN) 15, h1, mny_perm h]
theorem fl4_iff {h : List Nat} {s : Nat} (hl : h.length = 4) : fl4 (h ++ [s]) = true ↔ ∀ x ∈ h, ∀ y ∈ h, x % 4 = y % 4 := by
  obtain ⟨a, b, c, d, rfl⟩ : ∃ a b c d, h = [a, b, c, d] := by
    match h, hl with
    | [a, b, c, d], _ => exact ⟨a, b, c, d, rfl⟩
  simp [fl4, st]
  omega
theorem fl4_perm {h k : List Nat} {s : Nat} (hl : h.length = 4) (hp : h.Perm k) : fl4 (h ++ [s]) = fl4 (k ++ [s]) := by
  rw [Bool.eq_iff_iff, fl4_iff hl, fl4_iff (by rw [← hp.length_eq]; exact hl)]
  constructor
  · intro h1 x hx y hy; exact h1 x (hp.mem_iff.2 hx) y (hp.mem_iff.2 hy)
  · intro h1 x hx y hy; exact h1 x (hp.mem_iff.1 hx) y (hp.mem_iff.1 hy)
theorem flS_perm {h k : List Nat} {s : Nat} {cr : Bool} (hl : h.length = 4) (hp : h.Perm k) : flS (h ++ [s]) cr = flS (k ++ [s]) cr := by
  have hl2 : k.length = 4 := by rw [← hp.length_eq]; exact hl
  have h1 := fl4_perm (s := s) hl hp
  unfold flS
  rw [h1]
  by_cases hf : fl4 (k ++ [s]) = false
  · rw [if_pos hf, if_pos hf]
  · rw [if_neg hf, if_neg hf]
    have hf2 : fl4 (h ++ [s]) = true := by rw [h1]; simpa using hf
    have e0 : st (h ++ [s]) 0 % 4 = st (k ++ [s]) 0 % 4 := by
      have a1 : st (h ++ [s]) 0 ∈ h := by unfold st; rw [List.getElem?_append_left (by omega), List.getElem?_eq_getElem (by omega)]; exact List.getElem_mem _
      have a2 : st (k ++ [s]) 0 ∈ k := by unfold st; rw [List.getElem?_append_left (by omega), List.getElem?_eq_getElem (by omega)]; exact List.getElem_mem _
      exact (fl4_iff hl).1 hf2 _ a1 _ (hp.mem_iff.2 a2)
    have e4 : st (h ++ [s]) 4 = st (k ++ [s]) 4 := by unfold st; rw [List.getElem?_append_right (by omega), List.getElem?_append_right (by omega), hl, hl2]
    rw [e0, e4]
theorem jk_iff {h : List Nat} {s : Nat} (hl : h.length = 4) : (jkB (h ++ [s]) 0 || jkB (h ++ [s]) 1 || jkB (h ++ [s]) 2 || jkB (h ++ [s]) 3) = true ↔ ∃ x ∈ h, pipN x = 11 ∧ x % 4 = s % 4 := by
  obtain ⟨a, b, c, d, rfl⟩ : ∃ a b c d, h = [a, b, c, d] := by
    match h, hl with
    | [a, b, c, d], _ => exact ⟨a, b, c, d, rfl⟩
  simp [jkB, st]
  omega
theorem jkS_perm {h k : List Nat} {s : Nat} (hl : h.length = 4) (hp : h.Perm k) : jkS (h ++ [s]) = jkS (k ++ [s]) := by
  have hl2 : k.length = 4 := by rw [← hp.length_eq]; exact hl
  have : (jkB (h ++ [s]) 0 || jkB (h ++ [s]) 1 || jkB (h ++ [s]) 2 || jkB (h ++ [s]) 3) = (jkB (k ++ [s]) 0 || jkB (k ++ [s]) 1 || jkB (k ++ [s]) 2 || jkB (k ++ [s]) 3) := by
    rw [Bool.eq_iff_iff, jk_iff hl, jk_iff hl2]
    constructor
    · rintro ⟨x, hx, h1⟩; exact ⟨x, hp.mem_iff.1 hx, h1⟩
    · rintro ⟨x, hx, h1⟩; exact ⟨x, hp.mem_iff.2 hx, h1⟩
  unfold jkS
  rw [this]
theorem show_perm {h k : List Nat} {s : Nat} {cr : Bool} (hl : h.length = 4) (hp : h.Perm k) : show5 (h ++ [s]) cr = show5 (k ++ [s]) cr := by
  have h1 := pipV_perm (hp.append_right [s]) (by simp [hl])
  unfold pipV at h1
  unfold show5
  rw [h1, flS_perm hl hp, jkS_perm hl hp]
theorem show_crib (l : List Nat) : show5 l true ≤ show5 l false := by
  have : flS l true ≤ flS l false := by
    unfold flS
    split
    · exact Nat.le_refl _
    · split
      · exact Nat.le_refl _
      · simp
  unfold show5
  omega
end Go.Proofs.Ytkakggagaplaiaa
