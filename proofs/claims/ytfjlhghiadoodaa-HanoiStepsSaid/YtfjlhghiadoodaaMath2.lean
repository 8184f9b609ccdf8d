/- Plain laws of the states of a way: the k-th is k moves from the first, the next one is one move away; no conditions. -/
import Derived.Test.YtfjlhghiadoodaaGat
namespace Go.Proofs.Ytfjlhghiadoodaa

def bit (k m : Nat) : Nat := k / 2 ^ m % 2
/-- the state behind k moves of the way from a to b. -/
def NS : Nat → Nat → Nat → Nat → List Nat
  | 0, _, _, _ => []
  | m + 1, a, b, k => if bit k m = 0 then NS m a (3 - a - b) k ++ [a] else NS m (3 - a - b) b k ++ [b]
theorem NS_len : ∀ m a b k, (NS m a b k).length = m := by
  intro m
  induction m with
  | zero => intro a b k; rfl
  | succ m ih => intro a b k; rw [NS]; split <;> simp [ih]
theorem st_app (l : List Nat) (x i : Nat) (h : i < l.length) : st (l ++ [x]) i = st l i := by
  unfold st; rw [List.getElem?_append_left h]
theorem st_last (l : List Nat) (x m : Nat) (h : l.length = m) : st (l ++ [x]) m = x := by
  subst h; simp [st]
theorem NS_lt : ∀ m a b k, a < 3 → b < 3 → a ≠ b → ∀ i, st (NS m a b k) i < 3 := by
  intro m
  induction m with
  | zero => intro a b k _ _ _ i; simp [NS, st]
  | succ m ih =>
    intro a b k ha hb hab i
    rw [NS]
    have key : ∀ (l : List Nat) x, l.length = m → x < 3 → (∀ i, st l i < 3) → st (l ++ [x]) i < 3 := fun l x hl hx h => by
      by_cases h1 : i < m
      · rw [st_app l x i (by omega)]; exact h i
      · by_cases h2 : i = m
        · subst h2; rw [st_last l x i hl]; exact hx
        · have : st (l ++ [x]) i = 0 := by unfold st; rw [List.getElem?_eq_none (by simp; omega)]; rfl
          omega
    split
    · exact key _ _ (NS_len _ _ _ _) ha (ih a (3 - a - b) k ha (by omega) (by omega))
    · exact key _ _ (NS_len _ _ _ _) hb (ih (3 - a - b) b k (by omega) hb (by omega))
theorem bit_cases (k m : Nat) : (bit k m = 0 ∧ k % 2 ^ (m + 1) = k % 2 ^ m) ∨ (bit k m = 1 ∧ k % 2 ^ (m + 1) = 2 ^ m + k % 2 ^ m) := by
  unfold bit
  have h : k % 2 ^ (m + 1) = k % 2 ^ m + 2 ^ m * (k / 2 ^ m % 2) := by rw [Nat.pow_succ, Nat.mod_mul]
  rcases Nat.mod_two_eq_zero_or_one (k / 2 ^ m) with e | e
  · left; rw [e] at h; exact ⟨e, by omega⟩
  · right; rw [e] at h; exact ⟨e, by omega⟩
theorem G_NS : ∀ m a b k, a < 3 → b < 3 → a ≠ b → G (st (NS m a b k)) m a = k % 2 ^ m := by
  intro m
  induction m with
  | zero => intro a b k _ _ _; simp [G, Nat.mod_one]
  | succ m ih =>
    intro a b k ha hb hab
    rw [G, NS]
    rcases bit_cases k m with ⟨e, h⟩ | ⟨e, h⟩
    · rw [if_pos e, st_last _ _ _ (NS_len _ _ _ _), if_pos rfl, h, ← ih a (3 - a - b) k ha (by omega) (by omega)]
      exact G_congr m (fun i hi => st_app _ _ _ (by rw [NS_len]; exact hi)) a
    · rw [if_neg (show ¬ bit k m = 0 by omega), st_last _ _ _ (NS_len _ _ _ _), if_neg (fun x => hab x.symm), h, show 3 - b - a = 3 - a - b from by omega, ← ih (3 - a - b) b k (by omega) hb (by omega)]
      rw [G_congr m (fun i hi => st_app _ _ _ (by rw [NS_len]; exact hi))]
theorem NS_zero : ∀ m a b k, k % 2 ^ m = 0 → ∀ i, i < m → st (NS m a b k) i = a := by
  intro m
  induction m with
  | zero => intro a b k _ i hi; omega
  | succ m ih =>
    intro a b k hk i hi
    have := two_pos m
    rw [NS]
    rcases bit_cases k m with ⟨e, h⟩ | ⟨e, h⟩
    · rw [if_pos e]
      by_cases h1 : i < m
      · rw [st_app _ _ _ (by rw [NS_len]; exact h1)]; exact ih a (3 - a - b) k (by omega) i h1
      · have : i = m := by omega
        subst this; exact st_last _ _ _ (NS_len _ _ _ _)
    · omega
theorem NS_ones : ∀ m a b k, k % 2 ^ m + 1 = 2 ^ m → ∀ i, i < m → st (NS m a b k) i = b := by
  intro m
  induction m with
  | zero => intro a b k _ i hi; omega
  | succ m ih =>
    intro a b k hk i hi
    have hlt := Nat.mod_lt k (two_pos m)
    rw [Nat.pow_succ] at hk
    rw [NS]
    rcases bit_cases k m with ⟨e, h⟩ | ⟨e, h⟩
    · rw [Nat.pow_succ] at h; omega
    · rw [Nat.pow_succ] at h
      rw [if_neg (by omega)]
      by_cases h1 : i < m
      · rw [st_app _ _ _ (by rw [NS_len]; exact h1)]; exact ih (3 - a - b) b k (by omega) i h1
      · have : i = m := by omega
        subst this; exact st_last _ _ _ (NS_len _ _ _ _)
theorem next_bits (k m : Nat) : (k % 2 ^ m + 1 < 2 ^ m ∧ bit (k + 1) m = bit k m ∧ (k + 1) % 2 ^ m = k % 2 ^ m + 1) ∨ (k % 2 ^ m + 1 = 2 ^ m ∧ bit (k + 1) m = (bit k m + 1) % 2 ∧ (k + 1) % 2 ^ m = 0) := by
  have hp := two_pos m
  have hd := Nat.div_add_mod k (2 ^ m)
  have hlt := Nat.mod_lt k hp
  unfold bit
  generalize k / 2 ^ m = q at *
  generalize k % 2 ^ m = r at *
  generalize 2 ^ m = P at *
  subst hd
  by_cases h : r + 1 < P
  · left
    refine ⟨h, ?_, ?_⟩
    · rw [Nat.add_assoc, Nat.mul_add_div hp, Nat.div_eq_of_lt h]; simp
    · rw [Nat.add_assoc, Nat.mul_add_mod, Nat.mod_eq_of_lt h]
  · right
    have e : r + 1 = P := by omega
    refine ⟨e, ?_, ?_⟩
    · rw [Nat.add_assoc, Nat.mul_add_div hp, e, Nat.div_self hp]; omega
    · rw [Nat.add_assoc, Nat.mul_add_mod, e, Nat.mod_self]
theorem F_next : ∀ m a b k, a < 3 → b < 3 → a ≠ b → k % 2 ^ m + 1 < 2 ^ m → F (st (NS m a b k)) (st (NS m a b (k + 1))) m = 1 := by
  intro m
  induction m with
  | zero => intro a b k _ _ _ h; simp [Nat.mod_one] at h
  | succ m ih =>
    intro a b k ha hb hab hk
    have l1 : ∀ (l : List Nat) x, l.length = m → ∀ i, i < m → st (l ++ [x]) i = st l i := fun l x hl i hi => st_app l x i (by omega)
    rw [F]
    rcases next_bits k m with ⟨h1, h2, h3⟩ | ⟨h1, h2, h3⟩
    · rw [NS, NS, h2]
      rcases bit_cases k m with ⟨e, _⟩ | ⟨e, _⟩
      · rw [if_pos e, if_pos e, st_last _ _ _ (NS_len _ _ _ _), st_last _ _ _ (NS_len _ _ _ _), if_pos rfl]
        exact (F_congr m (l1 _ _ (NS_len _ _ _ _)) (l1 _ _ (NS_len _ _ _ _))).trans (ih a (3 - a - b) k ha (by omega) (by omega) h1)
      · rw [if_neg (show ¬ bit k m = 0 by omega), if_neg (show ¬ bit k m = 0 by omega), st_last _ _ _ (NS_len _ _ _ _), st_last _ _ _ (NS_len _ _ _ _), if_pos rfl]
        exact (F_congr m (l1 _ _ (NS_len _ _ _ _)) (l1 _ _ (NS_len _ _ _ _))).trans (ih (3 - a - b) b k (by omega) hb (by omega) h1)
    · rcases bit_cases k m with ⟨e, h⟩ | ⟨e, h⟩
      · rw [NS, NS, h2, e, if_pos rfl, if_neg (show ¬ (0 + 1) % 2 = 0 by omega), st_last _ _ _ (NS_len _ _ _ _), st_last _ _ _ (NS_len _ _ _ _), if_neg hab]
        unfold D once
        rw [st_last _ _ _ (NS_len _ _ _ _), st_last _ _ _ (NS_len _ _ _ _)]
        rw [G_all m (fun i hi => by rw [l1 _ _ (NS_len _ _ _ _) i hi]; exact NS_ones m a (3 - a - b) k h1 i hi), G_all m (fun i hi => by rw [l1 _ _ (NS_len _ _ _ _) i hi]; exact NS_zero m (3 - a - b) b (k + 1) h3 i hi)]
        unfold twice
        omega
      · rw [Nat.pow_succ] at hk h; omega
theorem bits_and1 (x : Nat) (h : x < 4611686018427387904) : bits .and .i64 (x : Int) 1 = (x % 2 : Nat) := by
  unfold bits
  simp only [IntKind.bits]
  have e1 : (BitVec.ofInt 64 (x : Int)) = BitVec.ofNat 64 x := by simp
  have e2 : (BitVec.ofInt 64 1) = BitVec.ofNat 64 1 := by rfl
  rw [e1, e2]
  have : ((BitVec.ofNat 64 x) &&& (BitVec.ofNat 64 1)).toNat = x % 2 := by
    rw [BitVec.toNat_and, BitVec.toNat_ofNat, BitVec.toNat_ofNat, Nat.mod_eq_of_lt (by omega), Nat.mod_eq_of_lt (by omega), Nat.and_one_is_mod]
  show IntKind.i64.wrap ((((BitVec.ofNat 64 x) &&& (BitVec.ofNat 64 1)).toNat : Nat) : Int) = _
  rw [this]
  exact IntWalk.i64_in _ (by omega)
theorem bits_or2 (q i : Nat) (hi : i < 40) (h : 2 ^ (i + 1) * q < 4611686018427387904) : bits .or .i64 ((2 ^ (i + 1) * q : Nat) : Int) ((2 ^ i : Nat) : Int) = (2 ^ (i + 1) * q + 2 ^ i : Nat) := by
  have hlt : 2 ^ i < 2 ^ (i + 1) := by rw [Nat.pow_succ]; have := two_pos i; omega
  have h40 : 2 ^ i ≤ 2 ^ 39 := Nat.pow_le_pow_right (by omega) (by omega)
  unfold bits
  simp only [IntKind.bits]
  have e1 : ∀ x : Nat, (BitVec.ofInt 64 (x : Int)) = BitVec.ofNat 64 x := fun x => by simp
  rw [e1, e1]
  have : ((BitVec.ofNat 64 (2 ^ (i + 1) * q)) ||| (BitVec.ofNat 64 (2 ^ i))).toNat = 2 ^ (i + 1) * q + 2 ^ i := by
    rw [BitVec.toNat_or, BitVec.toNat_ofNat, BitVec.toNat_ofNat, Nat.mod_eq_of_lt (by omega), Nat.mod_eq_of_lt (by omega), Nat.two_pow_add_eq_or_of_lt hlt]
  show IntKind.i64.wrap ((((BitVec.ofNat 64 (2 ^ (i + 1) * q)) ||| (BitVec.ofNat 64 (2 ^ i))).toNat : Nat) : Int) = _
  rw [this]
  exact IntWalk.i64_in _ (by omega)
end Go.Proofs.Ytfjlhghiadoodaa
