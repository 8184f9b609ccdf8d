/- Plain laws on the counts of tours of small boards: mirrored boards have as many; conditions: none. -/
import Derived.Test.YtebgliipeaelhaaDoorCnp
namespace Go.Proofs.YtebgliipeaelhaaDoor

theorem two34 : (cntS 3 4 0 11 0 1).1 = 2 := by decide +kernel
/-- the place mirrored. -/
def mirP (a x : Nat) : Nat := x / a * a + a - 1 - x % a
def mirOk (a b : Nat) : Bool := (List.range (a * b)).all fun x => decide (cntS a b x (a * b - 1) x (2 ^ x) = cntS a b (mirP a x) (a * b - 1) (mirP a x) (2 ^ mirP a x))
theorem mir_chk : ((List.range 8).all fun a => (List.range 8).all fun b => decide (12 < (a + 1) * (b + 1)) || mirOk (a + 1) (b + 1)) = true := by decide +kernel
theorem mir_all {a b x : Nat} (ha1 : 1 ≤ a) (ha : a ≤ 8) (hb1 : 1 ≤ b) (hb : b ≤ 8) (h12 : a * b ≤ 12) (hx : x < a * b) : cntS a b x (a * b - 1) x (2 ^ x) = cntS a b (mirP a x) (a * b - 1) (mirP a x) (2 ^ mirP a x) := by
  have h := List.all_eq_true.1 (List.all_eq_true.1 mir_chk (a - 1) (List.mem_range.2 (by omega))) (b - 1) (List.mem_range.2 (by omega))
  rw [show a - 1 + 1 = a by omega, show b - 1 + 1 = b by omega, decide_eq_false (by omega), Bool.false_or] at h
  exact of_decide_eq_true (List.all_eq_true.1 h x (List.mem_range.2 hx))
theorem mir_lt {a b x : Nat} (ha : 1 ≤ a) (hx : x < a * b) : mirP a x < a * b := by
  unfold mirP
  have h1 := Nat.mod_lt x ha
  have h2 : x / a < b := by rw [Nat.div_lt_iff_lt_mul ha, Nat.mul_comm]; exact hx
  have h3 := Nat.mul_le_mul_right a (show x / a + 1 ≤ b by omega)
  rw [Nat.add_mul, Nat.one_mul, Nat.mul_comm b a] at h3
  omega
end Go.Proofs.YtebgliipeaelhaaDoor
