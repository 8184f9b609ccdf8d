/- Plain laws of a row of jumps that is played; no program in sight. -/
import Derived.Test.YtapoimadiiheaaaPgJ
namespace Go.Proofs.Ytapoimadiiheaaa

def doAll (s : List Nat) (row : List Jm) : List Nat := row.foldl doJ s
theorem doAll_snoc (s : List Nat) (row : List Jm) (j : Jm) : doAll s (row ++ [j]) = doJ (doAll s row) j := by simp [doAll]
theorem pth_all {J : List Jm} {s t : List Nat} {row : List Jm} (h : Pth J s row t) : t = doAll s row ∧ ∀ i j, row[i]? = some j → j ∈ J ∧ canJ (doAll s (row.take i)) j = true := by
  induction h with
  | nil => exact ⟨rfl, fun i j h => by simp at h⟩
  | @snoc row t j h1 h2 h3 ih =>
    obtain ⟨e, ih⟩ := ih
    refine ⟨by rw [doAll_snoc, e], fun i j' hi => ?_⟩
    by_cases hlt : i < row.length
    · rw [List.getElem?_append_left hlt] at hi
      rw [List.take_append_of_le_length (by omega)]
      exact ih i j' hi
    · have hl : i < (row ++ [j]).length := (List.getElem?_eq_some_iff.1 hi).1
      have hie : i = row.length := by simp at hl; omega
      subst hie
      simp at hi
      subst hi
      rw [List.take_append_of_le_length (Nat.le_refl _), List.take_length, ← e]
      exact ⟨h2, h3⟩
theorem doAll_take {s : List Nat} {row : List Jm} {i : Nat} {j : Jm} (h : row[i]? = some j) : doAll s (row.take (i + 1)) = doJ (doAll s (row.take i)) j := by
  have e : row.take (i + 1) = row.take i ++ [j] := by rw [List.take_add_one, h]; rfl
  rw [e, doAll_snoc]
theorem doAll_len (s : List Nat) (row : List Jm) : (doAll s row).length = s.length := by
  unfold doAll
  induction row generalizing s with
  | nil => rfl
  | cons j l ih => rw [List.foldl_cons, ih, doJ_len]
/-- the place between two places. -/
def mid (w f t : Nat) : Nat := (f / w + t / w) / 2 * w + (f % w + t % w) / 2
theorem inJ_mid {w h : Nat} {s : List Nat} {j : Jm} (hj : inJ w h s j) : j.2.1 = mid w j.1 j.2.2 := by
  obtain ⟨_, x, y, hx, hy, h⟩ := hj
  unfold mid
  rcases h with ⟨h1, rfl⟩ | ⟨h1, rfl⟩ | ⟨h1, rfl⟩ | ⟨h1, rfl⟩
  · simp only [(xy_div (y := y) hx).1, (xy_div (y := y) hx).2, (xy_div (y := y) h1).1, (xy_div (y := y) h1).2]
    rw [show (y + y) / 2 = y by omega, show (x + (x + 2)) / 2 = x + 1 by omega]
  · have h2 : x - 2 < w := by omega
    simp only [(xy_div (y := y) hx).1, (xy_div (y := y) hx).2, (xy_div (y := y) h2).1, (xy_div (y := y) h2).2]
    rw [show (y + y) / 2 = y by omega, show (x + (x - 2)) / 2 = x - 1 by omega]
  · simp only [(xy_div (y := y) hx).1, (xy_div (y := y) hx).2, (xy_div (y := y + 2) hx).1, (xy_div (y := y + 2) hx).2]
    rw [show (y + (y + 2)) / 2 = y + 1 by omega, show (x + x) / 2 = x by omega]
  · simp only [(xy_div (y := y) hx).1, (xy_div (y := y) hx).2, (xy_div (y := y - 2) hx).1, (xy_div (y := y - 2) hx).2]
    rw [show (y + (y - 2)) / 2 = y - 1 by omega, show (x + x) / 2 = x by omega]
/-- a jump is told by its ends. -/
theorem inJ_one {w h : Nat} {s : List Nat} {j k : Jm} (hj : inJ w h s j) (hk : inJ w h s k) (h1 : j.1 = k.1) (h2 : j.2.2 = k.2.2) : j = k := by
  have a := inJ_mid hj
  have b := inJ_mid hk
  obtain ⟨j1, j2, j3⟩ := j
  obtain ⟨k1, k2, k3⟩ := k
  simp only at *
  subst h1 h2
  rw [a, b]
end Go.Proofs.Ytapoimadiiheaaa
