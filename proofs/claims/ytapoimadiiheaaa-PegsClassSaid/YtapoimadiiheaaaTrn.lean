/- What (pegs.jump).turn does; conditions: a board of the call's own, three places that hold 0 or 1. -/
import Derived.Test.YtapoimadiiheaaaMan
namespace Go.Proofs.Ytapoimadiiheaaa
open Go.RowKit

def flp (s : List Nat) (i : Nat) : List Nat := s.set i (1 - st s i)
def trnS (s : List Nat) (j : Jm) : List Nat := flp (flp (flp s j.1) j.2.1) j.2.2
theorem flp_len (s : List Nat) (i : Nat) : (flp s i).length = s.length := by simp [flp]
theorem flp_at {s : List Nat} {i k : Nat} (hi : i < s.length) : st (flp s i) k = if k = i then 1 - st s i else st s k := st_set _ _ _ _ hi
theorem trn_do {s : List Nat} {j : Jm} (hw : wfJ s.length j) (hc : canJ s j = true) : trnS s j = doJ s j := by
  obtain ⟨h1, h2, h3, h4, h5, h6⟩ := hw
  obtain ⟨c1, c2, c3⟩ := can_iff.1 hc
  unfold trnS doJ
  have e1 : flp s j.1 = s.set j.1 0 := by unfold flp; rw [c1]
  have e2 : flp (s.set j.1 0) j.2.1 = (s.set j.1 0).set j.2.1 0 := by unfold flp; rw [st_set _ _ _ _ h1, if_neg (Ne.symm h4), c2]
  have e3 : flp ((s.set j.1 0).set j.2.1 0) j.2.2 = ((s.set j.1 0).set j.2.1 0).set j.2.2 1 := by
    unfold flp; rw [st_set _ _ _ _ (by simpa using h2), if_neg (Ne.symm h6), st_set _ _ _ _ h1, if_neg (Ne.symm h5), c3]
  rw [e1, e2, e3]
/-- what was turned is turned back. -/
theorem trn_back {s : List Nat} {j : Jm} (hw : wfJ s.length j) (hc : canJ s j = true) : trnS (doJ s j) j = s := by
  obtain ⟨h1, h2, h3, h4, h5, h6⟩ := hw
  obtain ⟨c1, c2, c3⟩ := can_iff.1 hc
  have hl := doJ_len s j
  refine st_ext (by simp [trnS, flp_len, doJ_len]) fun k _ => ?_
  have d : ∀ k, st (doJ s j) k = if k = j.2.2 then 1 else if k = j.2.1 then 0 else if k = j.1 then 0 else st s k := fun k => by
    unfold doJ
    rw [st_set _ _ _ _ (by simpa using h3), st_set _ _ _ _ (by simpa using h2), st_set _ _ _ _ h1]
  unfold trnS
  rw [flp_at (by rw [flp_len, flp_len, hl]; exact h3), flp_at (by rw [flp_len, hl]; exact h2), flp_at (k := k) (by rw [flp_len, hl]; exact h2), flp_at (by rw [hl]; exact h1), flp_at (k := k) (by rw [hl]; exact h1), flp_at (k := j.2.2) (by rw [hl]; exact h1)]
  simp only [d]
  by_cases e1 : k = j.2.2
  · subst e1; simp [Ne.symm h5, Ne.symm h6, c3]
  · by_cases e2 : k = j.2.1
    · subst e2; simp [h6, Ne.symm h4, c2]
    · by_cases e3 : k = j.1
      · subst e3; simp [h4, h5, c1]
      · simp [e1, e2, e3]
end Go.Proofs.Ytapoimadiiheaaa
