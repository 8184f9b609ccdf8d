/- The walk of gameroomkeep.BridgeTurns; conditions: the numbers fit their kind. NOT DONE. -/
import Derived.Test.YtkakggagaplaiaaBrV
import Derived.Test.YtkakggagaplaiaaHnd
namespace Go.Proofs.Ytkakggagaplaiaa
open Go.RowKit

/-- the i-th hand, cut out of the drawn cards. -/
def hv (b o n co i : Nat) : Value := .slice (some ⟨b, o + i * n, none⟩) n (co - i * n)
def hvs (b o n co : Nat) : Nat → List Value
  | 0 => []
  | j + 1 => hvs b o n co j ++ [hv b o n co j]
theorem hvs_len (b o n co : Nat) : ∀ j, (hvs b o n co j).length = j
  | 0 => rfl
  | j + 1 => by rw [hvs, List.length_append, hvs_len b o n co j]; rfl
/-- the i-th hand's cards. -/
def hL (O : List Nat) (n i : Nat) : List Nat := (O.drop (i * n)).take n
theorem hL_cat {O : List Nat} {n : Nat} (h : O.length = 4 * n) : cat (hL O n) 4 = O := by
  have key : ∀ j, j ≤ 4 → cat (hL O n) j = O.take (j * n) := by
    intro j
    induction j with
    | zero => intro _; simp [cat]
    | succ j ih =>
      intro hj
      rw [cat, ih (by omega), hL, Nat.add_mul, Nat.one_mul, List.take_add]
  rw [key 4 (Nat.le_refl _), List.take_of_length_le (by omega)]
/-- the drawn hands moved on. -/
def mL (O : List Nat) (n i : Nat) : List Nat := hL O n ((i + 3) % 4)
theorem mL_perm {O : List Nat} {n : Nat} (h : O.length = 4 * n) : (cat (mL O n) 4).Perm O := by
  have e := hL_cat h
  have e1 : cat (mL O n) 4 = hL O n 3 ++ (hL O n 0 ++ hL O n 1 ++ hL O n 2) := by simp [cat, mL, List.append_assoc]
  have e2 : O = (hL O n 0 ++ hL O n 1 ++ hL O n 2) ++ hL O n 3 := by
    conv => lhs; rw [← e]
    simp [cat]
  rw [e1]
  conv => rhs; rw [e2]
  exact List.perm_append_comm
/-- the law of it. -/
theorem turns_law {O : List Nat} {n s ld : Nat} (h1 : 1 ≤ n) (h : O.length = 4 * n) (hn : O.Nodup) (h52 : ∀ x ∈ O, x < 52) (hld : ld < 4) :
    gS s (4 * n) (dealS (mL O n 0) (mL O n 1) (mL O n 2) (mL O n 3)) ((ld + 1) % 4) [] = n - gS s (4 * n) (dealS (hL O n 0) (hL O n 1) (hL O n 2) (hL O n 3)) ld [] ∧
    0 ≤ gS s (4 * n) (dealS (hL O n 0) (hL O n 1) (hL O n 2) (hL O n 3)) ld [] ∧ gS s (4 * n) (dealS (hL O n 0) (hL O n 1) (hL O n 2) (hL O n 3)) ld [] ≤ n := by
  have hc := hL_cat h
  obtain ⟨hdj, n0, n1, n2, n3⟩ := dj_of (L := hL O n) (by rw [hc]; exact hn)
  have hl : ∀ i, i < 4 → (hL O n i).length = n := fun i hi => by
    unfold hL
    rw [List.length_take, List.length_drop, h]
    have : i * n ≤ 3 * n := Nat.mul_le_mul_right _ (by omega)
    omega
  have hb : ∀ i, ∀ x ∈ hL O n i, x < 52 := fun i x hx => h52 x (List.mem_of_mem_drop (List.mem_of_mem_take hx))
  obtain ⟨hRd, _, _⟩ := deal_facts hdj (hl 0 (by omega)) (hl 1 (by omega)) (hl 2 (by omega)) (hl 3 (by omega)) n0 n1 n2 n3 (hb 0) (hb 1) (hb 2) (hb 3) (ld := ld)
  have e : dealS (mL O n 0) (mL O n 1) (mL O n 2) (mL O n 3) = rot (dealS (hL O n 0) (hL O n 1) (hL O n 2) (hL O n 3)) := deal_rot hdj
  rw [e]
  exact gS_rot s (4 * n) _ ld [] n hld h1 (by simp) hRd
end Go.Proofs.Ytkakggagaplaiaa
