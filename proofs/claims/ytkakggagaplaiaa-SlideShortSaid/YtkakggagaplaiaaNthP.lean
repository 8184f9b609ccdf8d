/- Plain laws of numbered orders: the k-th order, the number of an order; no program in sight, no conditions. -/
import Derived.Test.YtkakggagaplaiaaPP
namespace Go.Proofs.Ytkakggagaplaiaa

def fac : Nat → Nat
  | 0 => 1
  | n + 1 => fac n * (n + 1)
theorem fac_pos : ∀ n, 0 < fac n
  | 0 => by simp [fac]
  | n + 1 => Nat.mul_pos (fac_pos n) (Nat.succ_pos n)
theorem fac_bd {n : Nat} (h : n ≤ 12) : fac n ≤ 479001600 := by
  have : ∀ n, n ≤ 12 → fac n ≤ 479001600 := by decide
  exact this n h
/-- the k-th order of what is left (m things). -/
def nthL : Nat → List Nat → Nat → List Nat
  | 0, _, _ => []
  | m + 1, left, k => st left (k / fac m) :: nthL m (left.eraseIdx (k / fac m)) (k % fac m)
def ixN (l : List Nat) (x : Nat) : Nat := l.idxOf x
/-- the number of an order, some of it reckoned already. -/
def numL : List Nat → Nat → List Nat → Nat
  | _, k, [] => k
  | left, k, x :: xs => numL (left.eraseIdx (ixN left x)) (k * left.length + ixN left x) xs
theorem nth_lt {m k : Nat} (h : k < fac (m + 1)) : k / fac m < m + 1 := by
  rw [Nat.div_lt_iff_lt_mul (fac_pos m), Nat.mul_comm]; exact h
theorem cons_erase : ∀ (l : List Nat) (i : Nat) (h : i < l.length), (l[i] :: l.eraseIdx i).Perm l
  | [], i, h => by simp at h
  | x :: xs, 0, _ => by simp
  | x :: xs, i + 1, h => by
    simp only [List.getElem_cons_succ, List.eraseIdx_cons_succ]
    exact (List.Perm.swap _ _ _).trans ((cons_erase xs i (by simpa using h)).cons x)
theorem st_mem {l : List Nat} {i : Nat} (h : i < l.length) : st l i ∈ l := by unfold st; simp [h]
theorem nthL_len : ∀ m left k, (nthL m left k).length = m
  | 0, _, _ => rfl
  | m + 1, left, k => by simp [nthL, nthL_len m]
theorem nthL_perm : ∀ m (left : List Nat) k, left.length = m → k < fac m → (nthL m left k).Perm left
  | 0, left, k, hl, _ => by rw [List.eq_nil_of_length_eq_zero hl]; exact List.Perm.refl _
  | m + 1, left, k, hl, hk => by
    have hi := nth_lt hk
    have hil : k / fac m < left.length := by omega
    have ih := nthL_perm m (left.eraseIdx (k / fac m)) (k % fac m) (by rw [List.length_eraseIdx, if_pos hil]; omega) (Nat.mod_lt _ (fac_pos m))
    refine (ih.cons _).trans ?_
    have : st left (k / fac m) = left[k / fac m] := by unfold st; simp [hil]
    rw [this]
    exact cons_erase _ _ hil
theorem ixN_st {l : List Nat} (hn : l.Nodup) {i : Nat} (h : i < l.length) : ixN l (st l i) = i := by
  have : st l i = l[i] := by unfold st; simp [h]
  rw [this]
  exact hn.idxOf_getElem i h
theorem num_nth : ∀ m (left : List Nat) k acc, left.Nodup → left.length = m → k < fac m → numL left acc (nthL m left k) = acc * fac m + k
  | 0, left, k, acc, _, hl, hk => by
    have : k = 0 := by simp [fac] at hk; exact hk
    subst this
    simp [nthL, numL, fac]
  | m + 1, left, k, acc, hn, hl, hk => by
    have hi := nth_lt hk
    have hil : k / fac m < left.length := by omega
    simp only [nthL, numL]
    rw [ixN_st hn hil, num_nth m _ _ _ (hn.eraseIdx _) (by rw [List.length_eraseIdx, if_pos hil]; omega) (Nat.mod_lt _ (fac_pos m)), hl]
    have h1 := Nat.div_add_mod k (fac m)
    have h2 : (acc * (m + 1) + k / fac m) * fac m = acc * (fac m * (m + 1)) + fac m * (k / fac m) := by
      rw [Nat.add_mul, Nat.mul_assoc, Nat.mul_comm (m + 1), Nat.mul_comm (k / fac m)]
    rw [h2, fac]
    omega
/-- the k-th order of n things. -/
def nth (n k : Nat) : List Nat := nthL n (List.range n) k
theorem nth_ord {n k : Nat} (h : k < fac n) : IsOrd n (nth n k) := nthL_perm n _ k (by simp) h
theorem num_of_nth {n k : Nat} (h : k < fac n) : numL (List.range n) 0 (nth n k) = k := by
  unfold nth; rw [num_nth n _ k 0 List.nodup_range (by simp) h]; simp
end Go.Proofs.Ytkakggagaplaiaa
