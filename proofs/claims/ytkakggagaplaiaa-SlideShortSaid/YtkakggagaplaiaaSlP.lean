/- Plain laws of sliding boards: what parity counts, moves, exchanges; no program in sight, no conditions. -/
import Derived.Test.YtkakggagaplaiaaSgnW
namespace Go.Proofs.Ytkakggagaplaiaa

/-- 1 for even numbers, -1 for odd ones. -/
def ev (n : Nat) : Int := if n % 2 = 0 then 1 else -1
theorem ev_succ (n : Nat) : ev (n + 1) = - ev n := by
  unfold ev
  rcases Nat.mod_two_eq_zero_or_one n with h | h
  · rw [if_neg (by omega), if_pos h]
  · rw [if_pos (by omega), if_neg (by omega)]; rfl
theorem ev_add (n m : Nat) : ev (n + m) = ev n * ev m := by
  induction m with
  | zero => simp [ev]
  | succ m ih => rw [← Nat.add_assoc, ev_succ, ih, ev_succ, Int.mul_neg]
theorem ev_pm (n : Nat) : ev n = 1 ∨ ev n = -1 := by unfold ev; split <;> simp
theorem ev_sq (n : Nat) : ev n * ev n = 1 := by rcases ev_pm n with h | h <;> rw [h] <;> rfl
/-- of the first j things, those that are more than x (which is not 0). -/
def mor (l : List Nat) (x : Nat) : Nat → Nat
  | 0 => 0
  | j + 1 => mor l x j + if 0 < x ∧ x < st l j then 1 else 0
/-- pairs out of order among the first i, but for the gap. -/
def cnz (l : List Nat) : Nat → Nat
  | 0 => 0
  | i + 1 => cnz l i + mor l (st l i) i
theorem mor_le (l : List Nat) (x : Nat) : ∀ j, mor l x j ≤ j
  | 0 => Nat.le_refl _
  | j + 1 => by have := mor_le l x j; simp only [mor]; split <;> omega
theorem cnz_le (l : List Nat) : ∀ i, cnz l i ≤ i * i
  | 0 => Nat.le_refl _
  | i + 1 => by
    have h1 := cnz_le l i
    have h2 := mor_le l (st l i) i
    simp only [cnz]
    have : (i + 1) * (i + 1) = i * i + i + i + 1 := by rw [Nat.add_mul, Nat.mul_add]; omega
    omega
def zz (y x : Nat) : Int := if 0 < x ∧ x < y then -1 else 1
def z0 (_ x : Nat) : Int := if x = 0 then -1 else 1
theorem prodL_app (f : Nat → Int) (a b : List Nat) : prodL f (a ++ b) = prodL f a * prodL f b := by
  induction a with
  | nil => simp [prodL]
  | cons x xs ih => simp [prodL, ih, Int.mul_assoc]
theorem pp_snoc (f : Nat → Nat → Int) (l : List Nat) (x : Nat) : pp f (l ++ [x]) = pp f l * prodL (fun y => f y x) l := by
  induction l with
  | nil => simp [pp, prodL]
  | cons y ys ih =>
    simp only [List.cons_append, pp, ih, prodL_app, prodL]
    simp only [Int.mul_one, Int.mul_assoc, Int.mul_left_comm]
theorem take_snoc (l : List Nat) (i : Nat) (h : i < l.length) : l.take (i + 1) = l.take i ++ [st l i] := by
  rw [List.take_add_one, List.getElem?_eq_getElem h]; unfold st; simp [h]
theorem mor_ev (l : List Nat) (x : Nat) : ∀ j, j ≤ l.length → prodL (fun y => zz y x) (l.take j) = ev (mor l x j)
  | 0, _ => rfl
  | j + 1, h => by
    rw [take_snoc l j (by omega), prodL_app, mor_ev l x j (by omega), mor, ev_add]
    congr 1
    simp only [prodL, Int.mul_one, zz]
    split <;> rfl
theorem cnz_ev (l : List Nat) : ∀ i, i ≤ l.length → pp zz (l.take i) = ev (cnz l i)
  | 0, _ => rfl
  | i + 1, h => by rw [take_snoc l i (by omega), pp_snoc, cnz_ev l i (by omega), mor_ev l _ i (by omega), cnz, ev_add]
theorem sg_zz {y x : Nat} (h : y ≠ x) : sg y x = zz y x * z0 y x := by
  unfold sg zz z0
  by_cases h0 : x = 0
  · subst h0; rw [if_neg (by omega), if_neg (by omega), if_pos rfl]; rfl
  · rw [if_neg h0]
    by_cases h1 : y < x
    · rw [if_pos h1, if_neg (by omega)]; rfl
    · rw [if_neg h1, if_pos (by omega)]; rfl
theorem z0_no {l : List Nat} (y : Nat) (h : 0 ∉ l) : prodL (z0 y) l = 1 := by
  induction l with
  | nil => rfl
  | cons x xs ih =>
    simp only [List.mem_cons, not_or] at h
    simp only [prodL, z0]
    rw [if_neg (by omega), Int.one_mul]
    exact ih h.2
theorem z0_one {l : List Nat} (y : Nat) (hn : l.Nodup) (h : 0 ∈ l) : prodL (z0 y) l = -1 := by
  induction l with
  | nil => simp at h
  | cons x xs ih =>
    rw [List.nodup_cons] at hn
    simp only [prodL, z0]
    by_cases hx : x = 0
    · subst hx
      rw [if_pos rfl, z0_no y hn.1]; rfl
    · rw [if_neg hx, Int.one_mul]
      exact ih hn.2 (by rcases List.mem_cons.1 h with e | e; exact absurd e.symm hx; exact e)
theorem z0_none {l : List Nat} (h : 0 ∉ l) : pp z0 l = 1 := by
  induction l with
  | nil => rfl
  | cons x xs ih =>
    simp only [List.mem_cons, not_or] at h
    simp only [pp]
    rw [z0_no x h.2, ih h.2]; rfl
theorem z0_gap {l : List Nat} (hn : l.Nodup) (h : 0 ∈ l) : pp z0 l = ev (ixN l 0) := by
  induction l with
  | nil => simp at h
  | cons x xs ih =>
    rw [List.nodup_cons] at hn
    simp only [pp]
    by_cases hx : x = 0
    · subst hx
      rw [z0_no _ hn.1, z0_none hn.1]; simp [ixN, ev]
    · have h2 : 0 ∈ xs := by rcases List.mem_cons.1 h with e | e; exact absurd e.symm hx; exact e
      rw [z0_one x hn.2 h2, ih hn.2 h2]
      have : ixN (x :: xs) 0 = ixN xs 0 + 1 := by
        unfold ixN
        rw [List.idxOf_cons]
        have : (x == 0) = false := by simpa using hx
        rw [this]; rfl
      rw [this, ev_succ]; simp
/-- what parity counts, beside the sign and the gap. -/
theorem cnz_sgn {n : Nat} {l : List Nat} (h : IsOrd n l) (hn : 0 < n) : ev (cnz l n) = sgn l * ev (ixN l 0) := by
  have h1 := cnz_ev l n (by rw [h.len]; exact Nat.le_refl _)
  rw [List.take_of_length_le (by rw [h.len]; exact Nat.le_refl _)] at h1
  have h2 : sgn l = pp zz l * pp z0 l := by
    unfold sgn
    rw [← pp_mul]
    exact pp_congr h.nodup fun x _ y _ hne => sg_zz hne
  rw [h2, z0_gap h.nodup (h.mem hn), ← h1, Int.mul_assoc, ev_sq, Int.mul_one]
/-- parity's number. -/
def rowT (a b g : Nat) : Nat := if a % 2 = 0 then b - 1 - g / a else 0
def parN (a b : Nat) (l : List Nat) : Nat := cnz l (a * b) + rowT a b (ixN l 0)
def canS (a b : Nat) (l : List Nat) : Bool := decide (parN a b l % 2 = 0)
/-- can it be brought home, as a sign. -/
def qS (a b : Nat) (l : List Nat) : Int := sgn l * (ev (ixN l 0) * ev (rowT a b (ixN l 0)))
theorem can_q {a b : Nat} {l : List Nat} (h : IsOrd (a * b) l) (hn : 0 < a * b) : canS a b l = decide (qS a b l = 1) := by
  have h1 : ev (parN a b l) = qS a b l := by unfold parN qS; rw [ev_add, cnz_sgn h hn, Int.mul_assoc]
  rw [← h1]
  unfold canS ev
  split
  · rename_i h2; simp [h2]
  · rename_i h2; simp [h2]
theorem q_pm (a b : Nat) (l : List Nat) : qS a b l = 1 ∨ qS a b l = -1 := by
  unfold qS
  rcases sgn_pm l with h | h <;> rcases ev_pm (ixN l 0) with h2 | h2 <;> rcases ev_pm (rowT a b (ixN l 0)) with h3 | h3 <;> rw [h, h2, h3] <;> simp
/-- two things change places. -/
def exc (l : List Nat) (i k : Nat) : List Nat := (l.set i (st l k)).set k (st l i)
theorem exc_ord {n : Nat} {l : List Nat} (h : IsOrd n l) {i k : Nat} (hi : i < n) (hk : k < n) (hne : i ≠ k) : IsOrd n (exc l i k) := by
  unfold exc; rw [set_xch h hi hk hne]; exact h.xchg (h.st_lt hi) (h.st_lt hk)
theorem exc_sgn {n : Nat} {l : List Nat} (hn : n ≤ 9) (h : IsOrd n l) {i k : Nat} (hi : i < n) (hk : k < n) (hne : i ≠ k) : sgn (exc l i k) = - sgn l := by
  unfold exc; rw [set_xch h hi hk hne]; exact sgn_xch hn h (h.st_lt hi) (h.st_lt hk) fun e => hne (h.inj hi hk e)
theorem exc_st {l : List Nat} {i k j : Nat} (hi : i < l.length) (hk : k < l.length) : st (exc l i k) j = if j = k then st l i else if j = i then st l k else st l j := by
  unfold exc; rw [st_setN _ _ _ _ (by simpa using hk), st_setN _ _ _ _ hi]
theorem ix_at {n : Nat} {l : List Nat} (h : IsOrd n l) {g : Nat} (hg : g < n) (he : st l g = 0) : ixN l 0 = g := by
  rw [← he]; exact ixN_st h.nodup (by rw [h.len]; exact hg)
theorem st_ix {n : Nat} {l : List Nat} (h : IsOrd n l) (hn : 0 < n) : ixN l 0 < n ∧ st l (ixN l 0) = 0 := by
  have hm := h.mem hn
  have h1 : ixN l 0 < l.length := List.idxOf_lt_length_of_mem hm
  refine ⟨by rw [← h.len]; exact h1, ?_⟩
  unfold st
  rw [List.getElem?_eq_getElem h1]
  exact List.getElem_idxOf h1
/-- two stones that change places. -/
theorem q_stones {a b : Nat} {l : List Nat} (hn : a * b ≤ 9) (h : IsOrd (a * b) l) {i k : Nat} (hi : i < a * b) (hk : k < a * b) (hne : i ≠ k) (h1 : st l i ≠ 0) (h2 : st l k ≠ 0) : qS a b (exc l i k) = - qS a b l := by
  have hl := h.len
  obtain ⟨hg, hg0⟩ := st_ix h (by omega)
  have hix : ixN (exc l i k) 0 = ixN l 0 := ix_at (exc_ord h hi hk hne) hg (by
    rw [exc_st (by omega) (by omega), if_neg (fun e => h2 (by rw [← e]; exact hg0)), if_neg (fun e => h1 (by rw [← e]; exact hg0))]; exact hg0)
  unfold qS
  rw [hix, exc_sgn hn h hi hk hne, Int.neg_mul]
/-- from where a stone comes into the gap. -/
def frm (a b g d : Nat) : Option Nat :=
  if d = 0 then (if g / a + 1 < b then some (g + a) else none)
  else if d = 1 then (if 1 ≤ g % a then some (g - 1) else none)
  else if d = 2 then (if 1 ≤ g / a then some (g - a) else none)
  else (if g % a + 1 < a then some (g + 1) else none)
def frmOk : Bool := [2, 3].all fun a => [2, 3].all fun b => (List.range (a * b)).all fun g => (List.range 4).all fun d =>
  match frm a b g d with
  | none => true
  | some q => decide (q < a * b) && decide (q ≠ g) && decide (ev q * ev (rowT a b q) = - (ev g * ev (rowT a b g)))
theorem frmOk_true : frmOk = true := by decide +kernel
theorem frm_at {a b g d q : Nat} (ha : 2 ≤ a) (ha3 : a ≤ 3) (hb : 2 ≤ b) (hb3 : b ≤ 3) (hg : g < a * b) (hd : d < 4) (h : frm a b g d = some q) : q < a * b ∧ q ≠ g ∧ ev q * ev (rowT a b q) = - (ev g * ev (rowT a b g)) := by
  have h0 := frmOk_true
  unfold frmOk at h0
  rw [List.all_eq_true] at h0
  have h1 := h0 a (by simp; omega)
  rw [List.all_eq_true] at h1
  have h2 := h1 b (by simp; omega)
  rw [List.all_eq_true] at h2
  have h3 := h2 g (by simpa using hg)
  rw [List.all_eq_true] at h3
  have h4 := h3 d (by simpa using hd)
  rw [h] at h4
  simp only [Bool.and_eq_true, decide_eq_true_eq] at h4
  exact ⟨h4.1.1, h4.1.2, h4.2⟩
/-- a move. -/
theorem q_move {a b g d q : Nat} {l : List Nat} (ha : 2 ≤ a) (ha3 : a ≤ 3) (hb : 2 ≤ b) (hb3 : b ≤ 3) (hl : IsOrd (a * b) l) (hg : ixN l 0 = g) (hd : d < 4) (h : frm a b g d = some q) :
    IsOrd (a * b) (exc l g q) ∧ qS a b (exc l g q) = qS a b l := by
  have hn : a * b ≤ 9 := by have := Nat.mul_le_mul ha3 hb3; omega
  have hn0 : 0 < a * b := Nat.mul_pos (by omega) (by omega)
  obtain ⟨hgl, hg0⟩ := st_ix hl hn0
  rw [hg] at hgl hg0
  obtain ⟨h1, h2, h3⟩ := frm_at ha ha3 hb hb3 hgl hd h
  have ho := exc_ord hl hgl h1 (fun e => h2 e.symm)
  refine ⟨ho, ?_⟩
  have hix : ixN (exc l g q) 0 = q := ix_at ho h1 (by rw [exc_st (by rw [hl.len]; exact hgl) (by rw [hl.len]; exact h1), if_pos rfl]; exact hg0)
  unfold qS
  rw [hix, hg, exc_sgn hn hl hgl h1 (fun e => h2 e.symm), h3, Int.neg_mul_neg]
end Go.Proofs.Ytkakggagaplaiaa
