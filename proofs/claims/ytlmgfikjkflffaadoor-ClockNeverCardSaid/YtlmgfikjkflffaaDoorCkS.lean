/- The plain law of the written time: how a time is shown, that its text is cut at its signs into numerals, and that what is read of it is shown the same; no program in sight. -/
import Derived.Lib.SplitLaws
import Derived.Lib.Atoi
import Derived.Lib.ItoaNum
import Derived.WalkKit
namespace Go.Proofs.YtlmgfikjkflffaaDoor

def BS (l : List UInt8) : ByteArray := ⟨l.toArray⟩
def num (n : Nat) : List UInt8 := if n < 10 then [UInt8.ofNat (48 + n)] else [UInt8.ofNat (48 + n / 10), UInt8.ofNat (48 + n % 10)]
def two (n : Nat) : List UInt8 := [UInt8.ofNat (48 + n / 10), UInt8.ofNat (48 + n % 10)]

theorem dec_num {n : Nat} (h : n < 100) : Lib.decDigits n = num n := by
  unfold num
  by_cases h1 : n < 10
  · rw [if_pos h1, Lib.decDigits, dif_pos h1]
  · rw [if_neg h1, Lib.decDigits, dif_neg h1, Lib.decDigits, dif_pos (by omega)]; rfl
theorem itoa_two {n : Nat} (h : n < 100) : Lib.itoa (100 + (n : Int)) = 49 :: two n := by
  have e : (100 + (n : Int)).toNat = 100 + n := by omega
  unfold Lib.itoa two
  rw [if_neg (by omega), e, Lib.decDigits, dif_neg (by omega), Lib.decDigits, dif_neg (by omega), Lib.decDigits, dif_pos (by omega)]
  rw [show (100 + n) / 10 / 10 = 1 by omega, show (100 + n) / 10 % 10 = n / 10 by omega, show (100 + n) % 10 = n % 10 by omega]
  rfl

theorem num_facts : ∀ n : Fin 100, Lib.atoi (num n.val) = some ((n.val : Nat) : Int) ∧ (58 : UInt8) ∉ num n.val ∧ (46 : UInt8) ∉ num n.val ∧ (num n.val).length ≤ 2 := by decide +kernel
theorem two_facts : ∀ n : Fin 100, Lib.atoi (two n.val) = some ((n.val : Nat) : Int) ∧ (58 : UInt8) ∉ two n.val ∧ (two n.val).length ≤ 2 := by decide +kernel

/-- a time as it is shown. -/
def showS (n : Nat) : List UInt8 :=
  if 3600 ≤ n / 1000 then num (n / 1000 / 3600) ++ 58 :: (two (n / 1000 / 60 % 60) ++ 58 :: two (n / 1000 % 60))
  else if 60 ≤ n / 1000 then num (n / 1000 / 60) ++ 58 :: two (n / 1000 % 60)
  else num (n / 1000) ++ 46 :: num (n / 100 % 10)
/-- what is read of it. -/
def readN (n : Nat) : Nat := if 60 ≤ n / 1000 then n / 1000 * 1000 else n / 100 * 100
theorem readN_le (n : Nat) : readN n ≤ n := by unfold readN; split <;> omega
theorem show_read (n : Nat) : showS (readN n) = showS n := by
  unfold readN
  by_cases h : 60 ≤ n / 1000
  · rw [if_pos h]
    have e : n / 1000 * 1000 / 1000 = n / 1000 := by omega
    unfold showS
    rw [e]
    by_cases h1 : 3600 ≤ n / 1000
    · rw [if_pos h1, if_pos h1]
    · rw [if_neg h1, if_neg h1, if_pos h, if_pos h]
  · rw [if_neg h]
    have e : n / 100 * 100 / 1000 = n / 1000 := by omega
    have e2 : n / 100 * 100 / 100 % 10 = n / 100 % 10 := by omega
    unfold showS
    rw [e, e2]

theorem index_at (c : UInt8) (b : List UInt8) : ∀ a : List UInt8, c ∉ a → Lib.index (a ++ c :: b) [c] = (a.length : Nat)
  | [], _ => by rw [List.nil_append, Lib.index]; simp [List.isPrefixOf]
  | x :: a, h => by
    have hx : c ≠ x := fun e => h (by simp [e])
    have ih := index_at c b a (fun e => h (List.mem_cons_of_mem _ e))
    have hp : ([c] : List UInt8).isPrefixOf (x :: (a ++ c :: b)) = false := by simp [List.isPrefixOf, hx]
    rw [List.cons_append, Lib.index, hp, ih]
    have : (((a.length : Nat) : Int) == -1) = false := by rw [beq_eq_false_iff_ne]; omega
    simp [this]
theorem index_no (c : UInt8) : ∀ a : List UInt8, c ∉ a → Lib.index a [c] = -1
  | [], _ => by simp [Lib.index]
  | x :: a, h => by
    have hx : c ≠ x := fun e => h (by simp [e])
    have ih := index_no c a (fun e => h (List.mem_cons_of_mem _ e))
    have hp : ([c] : List UInt8).isPrefixOf (x :: a) = false := by simp [List.isPrefixOf, hx]
    rw [Lib.index, hp, ih]
    rfl

theorem bs_ext {a b : ByteArray} (h : a.data.toList = b.data.toList) : a = b := by
  obtain ⟨⟨x⟩⟩ := a
  obtain ⟨⟨y⟩⟩ := b
  simp at h
  rw [h]
theorem bs_data (l : List UInt8) : (BS l).data.toList = l := rfl
theorem bs_size (l : List UInt8) : (BS l).size = l.length := by simp [BS, ByteArray.size]
theorem bs_extract (l : List UInt8) (i j : Nat) : (BS l).extract i j = BS ((l.drop i).take (j - i)) := by
  apply bs_ext
  rw [Lib.extract_data, bs_data, bs_data]

theorem split_last (c : UInt8) (a : List UInt8) (h : c ∉ a) : Lib.splitB (BS [c]) 0 (Lib.countB (BS a) (BS [c])) (BS a) = [BS a] ∧ Lib.countB (BS a) (BS [c]) = 0 := by
  have hi : Lib.indexB (BS a) (BS [c]) = -1 := index_no c a h
  exact ⟨Lib.splitB_miss _ _ _ _ hi, Lib.countB_miss _ _ hi⟩
theorem split_cons (c : UInt8) (a b : List UInt8) (h : c ∉ a) : Lib.splitB (BS [c]) 0 (Lib.countB (BS (a ++ c :: b)) (BS [c])) (BS (a ++ c :: b)) = BS a :: Lib.splitB (BS [c]) 0 (Lib.countB (BS b) (BS [c])) (BS b) ∧ Lib.countB (BS (a ++ c :: b)) (BS [c]) = Lib.countB (BS b) (BS [c]) + 1 := by
  have hi : Lib.indexB (BS (a ++ c :: b)) (BS [c]) = (a.length : Nat) := index_at c b a h
  have e1 : (BS (a ++ c :: b)).extract 0 (a.length + 0) = BS a := by
    rw [bs_extract, List.drop_zero, Nat.add_zero, Nat.sub_zero, List.take_left']
    rfl
  have e2 : (BS (a ++ c :: b)).extract (a.length + (BS [c]).size) (BS (a ++ c :: b)).size = BS b := by
    rw [bs_extract, bs_size, bs_size]
    congr 1
    rw [List.take_of_length_le (by simp; omega), ← List.drop_drop, List.drop_left']
    · rfl
    · rfl
  have hc := Lib.countB_hit (BS (a ++ c :: b)) (BS [c]) a.length (Nat.le_refl 1) hi
  rw [e2] at hc
  refine ⟨?_, by omega⟩
  rw [show Lib.countB (BS (a ++ c :: b)) (BS [c]) = Lib.countB (BS b) (BS [c]) + 1 by omega, Lib.splitB_hit _ _ _ _ _ hi, e1, e2]

/-- the pieces of a shown time. -/
theorem split_two (c : UInt8) (a b : List UInt8) (ha : c ∉ a) (hb : c ∉ b) : Lib.splitB (BS [c]) 0 (Lib.countB (BS (a ++ c :: b)) (BS [c])) (BS (a ++ c :: b)) = [BS a, BS b] ∧ Lib.countB (BS (a ++ c :: b)) (BS [c]) = 1 := by
  have h1 := split_cons c a b ha
  have h2 := split_last c b hb
  exact ⟨by rw [h1.1, h2.1], by rw [h1.2, h2.2]⟩
theorem split_three (c : UInt8) (a b d : List UInt8) (ha : c ∉ a) (hb : c ∉ b) (hd : c ∉ d) : Lib.splitB (BS [c]) 0 (Lib.countB (BS (a ++ c :: (b ++ c :: d))) (BS [c])) (BS (a ++ c :: (b ++ c :: d))) = [BS a, BS b, BS d] ∧ Lib.countB (BS (a ++ c :: (b ++ c :: d))) (BS [c]) = 2 := by
  have h1 := split_cons c a (b ++ c :: d) ha
  have h2 := split_two c b d hb hd
  exact ⟨by rw [h1.1, h2.1], by rw [h1.2, h2.2]⟩
end Go.Proofs.YtlmgfikjkflffaaDoor
