/- Plain laws of the jumps that a board has room for: they are in range, of three colours, and mirrored boards have mirrored ones; no program in sight. -/
import Derived.Test.YtapoimadiiheaaaPgM
import Derived.Test.YtapoimadiiheaaaPgC
namespace Go.Proofs.Ytapoimadiiheaaa

def okJ (s : List Nat) (j : Jm) : Prop := st s j.1 ≠ 2 ∧ st s j.2.1 ≠ 2 ∧ st s j.2.2 ≠ 2
/-- a jump that a board of w by h places has room for. -/
def inJ (w h : Nat) (s : List Nat) (j : Jm) : Prop := okJ s j ∧ ∃ x y, x < w ∧ y < h ∧
  ((x + 2 < w ∧ j = (y * w + x, y * w + (x + 1), y * w + (x + 2))) ∨ (2 ≤ x ∧ j = (y * w + x, y * w + (x - 1), y * w + (x - 2))) ∨ (y + 2 < h ∧ j = (y * w + x, (y + 1) * w + x, (y + 2) * w + x)) ∨ (2 ≤ y ∧ j = (y * w + x, (y - 1) * w + x, (y - 2) * w + x)))
theorem xy_div {w x y : Nat} (hx : x < w) : (y * w + x) / w = y ∧ (y * w + x) % w = x := by
  rw [Nat.mul_comm, Nat.mul_add_div (by omega), Nat.div_eq_of_lt hx, Nat.mul_add_mod, Nat.mod_eq_of_lt hx]
  exact ⟨rfl, rfl⟩
theorem xy_lt {w h x y : Nat} (hx : x < w) (hy : y < h) : y * w + x < w * h := by
  have h3 : (y + 1) * w ≤ h * w := Nat.mul_le_mul_right w hy
  rw [Nat.add_mul, Nat.one_mul, Nat.mul_comm h w] at h3
  omega
theorem xy_ne {w x y x' y' : Nat} (hx : x < w) (hx' : x' < w) (h : x ≠ x' ∨ y ≠ y') : y * w + x ≠ y' * w + x' := fun e => by
  have h1 := xy_div (y := y) hx
  have h2 := xy_div (y := y') hx'
  rw [e] at h1
  rcases h with h | h
  · exact h (h1.2.symm.trans h2.2)
  · exact h (h1.1.symm.trans h2.1)
theorem xy_col1 {w x y : Nat} (hx : x < w) : col1 w (y * w + x) = (x + y) % 3 := by unfold col1; rw [(xy_div hx).1, (xy_div hx).2]
theorem xy_col2 {w x y : Nat} (hx : x < w) : col2 w (y * w + x) = (x + 30 - y) % 3 := by unfold col2; rw [(xy_div hx).1, (xy_div hx).2]
theorem xy_mu {w x y : Nat} (hx : x < w) : mu w (y * w + x) = y * w + (w - 1 - x) := by unfold mu; rw [(xy_div hx).1, (xy_div hx).2]
theorem inJ_wf {w h : Nat} {s : List Nat} {j : Jm} (hs : s.length = w * h) (hj : inJ w h s j) : wfJ s.length j := by
  obtain ⟨_, x, y, hx, hy, h⟩ := hj
  rw [hs]
  rcases h with ⟨h1, rfl⟩ | ⟨h1, rfl⟩ | ⟨h1, rfl⟩ | ⟨h1, rfl⟩
  · have h1' : x + 1 < w := by omega
    exact ⟨xy_lt hx hy, xy_lt h1' hy, xy_lt h1 hy, xy_ne hx h1' (.inl (by omega)), xy_ne hx h1 (.inl (by omega)), xy_ne h1' h1 (.inl (by omega))⟩
  · exact ⟨xy_lt hx hy, xy_lt (by omega) hy, xy_lt (by omega) hy, xy_ne hx (by omega) (.inl (by omega)), xy_ne hx (by omega) (.inl (by omega)), xy_ne (by omega) (by omega) (.inl (by omega))⟩
  · exact ⟨xy_lt hx hy, xy_lt hx (by omega), xy_lt hx (by omega), xy_ne hx hx (.inr (by omega)), xy_ne hx hx (.inr (by omega)), xy_ne hx hx (.inr (by omega))⟩
  · exact ⟨xy_lt hx hy, xy_lt hx (by omega), xy_lt hx (by omega), xy_ne hx hx (.inr (by omega)), xy_ne hx hx (.inr (by omega)), xy_ne hx hx (.inr (by omega))⟩
theorem inJ_tri {w h : Nat} {s : List Nat} {j : Jm} (hh : h ≤ 30) (hj : inJ w h s j) : tri (col1 w) j ∧ tri (col2 w) j := by
  obtain ⟨_, x, y, hx, hy, h⟩ := hj
  unfold tri
  rcases h with ⟨h1, rfl⟩ | ⟨h1, rfl⟩ | ⟨h1, rfl⟩ | ⟨h1, rfl⟩
  · simp only [xy_col1 hx, xy_col1 (show x + 1 < w by omega), xy_col1 h1, xy_col2 hx, xy_col2 (show x + 1 < w by omega), xy_col2 h1]
    omega
  · simp only [xy_col1 hx, xy_col1 (show x - 1 < w by omega), xy_col1 (show x - 2 < w by omega), xy_col2 hx, xy_col2 (show x - 1 < w by omega), xy_col2 (show x - 2 < w by omega)]
    omega
  · simp only [xy_col1 hx, xy_col2 hx]
    omega
  · simp only [xy_col1 hx, xy_col2 hx]
    omega
/-- mirrored boards have room for mirrored jumps. -/
theorem inJ_mir {w h : Nat} {s : List Nat} {j : Jm} (hs : s.length = w * h) (hj : inJ w h s j) : inJ w h (mirL w s) (muJ w j) := by
  have hwf := inJ_wf hs hj
  obtain ⟨hok, x, y, hx, hy, h⟩ := hj
  have hw : 0 < w := by omega
  refine ⟨?_, w - 1 - x, y, by omega, hy, ?_⟩
  · unfold okJ muJ
    obtain ⟨a, b, c, _⟩ := hwf
    rw [mir_at (by rw [hs] at *; exact mu_lt a), mir_at (by rw [hs] at *; exact mu_lt b), mir_at (by rw [hs] at *; exact mu_lt c), mu_mu hw, mu_mu hw, mu_mu hw]
    exact hok
  · unfold muJ
    rcases h with ⟨h1, rfl⟩ | ⟨h1, rfl⟩ | ⟨h1, rfl⟩ | ⟨h1, rfl⟩
    · right; left
      refine ⟨by omega, ?_⟩
      simp only [xy_mu hx, xy_mu (show x + 1 < w by omega), xy_mu h1]
      rw [show w - 1 - x - 1 = w - 1 - (x + 1) by omega, show w - 1 - x - 2 = w - 1 - (x + 2) by omega]
    · left
      refine ⟨by omega, ?_⟩
      simp only [xy_mu hx, xy_mu (show x - 1 < w by omega), xy_mu (show x - 2 < w by omega)]
      rw [show w - 1 - x + 1 = w - 1 - (x - 1) by omega, show w - 1 - x + 2 = w - 1 - (x - 2) by omega]
    · right; right; left
      exact ⟨h1, by simp only [xy_mu hx]⟩
    · right; right; right
      exact ⟨h1, by simp only [xy_mu hx]⟩
end Go.Proofs.Ytapoimadiiheaaa
