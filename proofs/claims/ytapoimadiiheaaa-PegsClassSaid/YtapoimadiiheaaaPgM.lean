/- Plain laws of pegs: mirrored boards have as few left; no program in sight. -/
import Derived.Test.YtapoimadiiheaaaPgF
namespace Go.Proofs.Ytapoimadiiheaaa

theorem st_ext {s t : List Nat} (hl : s.length = t.length) (h : ∀ k, k < s.length → st s k = st t k) : s = t := by
  refine List.ext_getElem hl fun k h1 h2 => ?_
  have := h k h1
  unfold st at this
  rw [List.getElem?_eq_getElem h1, List.getElem?_eq_getElem h2] at this
  simpa using this
def mu (w i : Nat) : Nat := i / w * w + (w - 1 - i % w)
def mirL (w : Nat) (s : List Nat) : List Nat := (List.range s.length).map fun i => st s (mu w i)
theorem posw {w h k : Nat} (hk : k < w * h) : 0 < w := Nat.pos_of_ne_zero (by intro e; subst e; simp at hk)
theorem mu_parts {w i : Nat} (hw : 0 < w) : mu w i / w = i / w ∧ mu w i % w = w - 1 - i % w := by
  have e : mu w i = w * (i / w) + (w - 1 - i % w) := by unfold mu; rw [Nat.mul_comm]
  have hlt : w - 1 - i % w < w := by generalize i % w = r; omega
  rw [e, Nat.mul_add_div hw, Nat.div_eq_of_lt hlt, Nat.mul_add_mod, Nat.mod_eq_of_lt hlt]
  exact ⟨rfl, rfl⟩
theorem mu_mu {w i : Nat} (hw : 0 < w) : mu w (mu w i) = i := by
  obtain ⟨h1, h2⟩ := mu_parts (i := i) hw
  have hm := Nat.mod_lt i hw
  show mu w i / w * w + (w - 1 - mu w i % w) = i
  rw [h1, h2]
  have := Nat.div_add_mod i w
  rw [Nat.mul_comm] at this
  generalize i % w = r at *
  generalize i / w * w = q at *
  omega
theorem mu_lt {w h i : Nat} (hi : i < w * h) : mu w i < w * h := by
  have hw : 0 < w := Nat.pos_of_ne_zero (by intro e; subst e; simp at hi)
  have hm := Nat.mod_lt i hw
  have hq : i / w < h := by rw [Nat.div_lt_iff_lt_mul hw, Nat.mul_comm]; exact hi
  have h3 : (i / w + 1) * w ≤ h * w := Nat.mul_le_mul_right w hq
  rw [Nat.add_mul, Nat.one_mul, Nat.mul_comm h w] at h3
  unfold mu
  omega
theorem mir_len (w : Nat) (s : List Nat) : (mirL w s).length = s.length := by simp [mirL]
theorem mir_at {w : Nat} {s : List Nat} {k : Nat} (hk : k < s.length) : st (mirL w s) k = st s (mu w k) := by
  unfold mirL
  show (List.map _ _)[k]?.getD 0 = _
  rw [List.getElem?_map, List.getElem?_eq_getElem (by simpa using hk)]
  simp
theorem mir_mir {w h : Nat} {s : List Nat} (hs : s.length = w * h) : mirL w (mirL w s) = s := by
  refine st_ext (by rw [mir_len, mir_len]) fun k hk => ?_
  rw [mir_len, mir_len] at hk
  have hw : 0 < w := posw (by rw [← hs]; exact hk)
  rw [mir_at (by rw [mir_len]; exact hk), mir_at (by rw [hs] at hk ⊢; exact mu_lt hk), mu_mu hw]
theorem mir_perm {w h : Nat} {s : List Nat} (hs : s.length = w * h) : (mirL w s).Perm s := by
  have e : s = (List.range s.length).map (st s) := by
    refine st_ext (by simp) fun k hk => ?_
    show _ = (List.map _ _)[k]?.getD 0
    rw [List.getElem?_map, List.getElem?_eq_getElem (by simpa using hk)]
    simp
  have hp : ((List.range s.length).map (mu w)).Perm (List.range s.length) := by
    rcases Nat.eq_zero_or_pos w with h0 | hw
    · rw [h0] at hs; simp at hs; rw [hs]; exact List.Perm.refl _
    · refine (List.perm_ext_iff_of_nodup ?_ List.nodup_range).2 fun x => ?_
      · exact List.pairwise_map.2 (List.Pairwise.imp (fun {x y} hxy e => hxy (by rw [← mu_mu (i := x) hw, ← mu_mu (i := y) hw, e])) List.nodup_range)
      · rw [List.mem_map, List.mem_range]
        constructor
        · rintro ⟨y, hy, rfl⟩; rw [List.mem_range] at hy; rw [hs] at hy ⊢; exact mu_lt hy
        · intro hx; exact ⟨mu w x, List.mem_range.2 (by rw [hs] at hx ⊢; exact mu_lt hx), mu_mu hw⟩
  have h2 := hp.map (st s)
  rw [List.map_map] at h2
  have e2 : mirL w s = (List.range s.length).map (st s ∘ mu w) := rfl
  rw [e2]
  exact h2.trans (by rw [← e])
theorem mir_cnt {w h : Nat} {s : List Nat} (hs : s.length = w * h) : cnt1 (mirL w s) = cnt1 s := (mir_perm hs).countP_eq _
def muJ (w : Nat) (j : Jm) : Jm := (mu w j.1, mu w j.2.1, mu w j.2.2)
theorem mir_can {w h : Nat} {s : List Nat} {j : Jm} (hs : s.length = w * h) (hj : wfJ s.length j) : canJ (mirL w s) (muJ w j) = canJ s j := by
  have hw : 0 < w := posw (by rw [← hs]; exact hj.1)
  unfold canJ muJ
  rw [mir_at (by have := hj.1; rw [hs] at *; exact mu_lt this), mir_at (by have := hj.2.1; rw [hs] at *; exact mu_lt this), mir_at (by have := hj.2.2.1; rw [hs] at *; exact mu_lt this), mu_mu hw, mu_mu hw, mu_mu hw]
theorem mir_set {w h : Nat} {s : List Nat} {i v : Nat} (hs : s.length = w * h) (hi : i < s.length) : mirL w (s.set i v) = (mirL w s).set (mu w i) v := by
  have hw : 0 < w := posw (by rw [← hs]; exact hi)
  have hmi : mu w i < (mirL w s).length := by rw [mir_len]; rw [hs] at hi ⊢; exact mu_lt hi
  refine st_ext (by simp [mirL]) fun k hk => ?_
  rw [mir_len, List.length_set] at hk
  rw [mir_at (by simpa using hk), st_set _ _ _ _ hi, st_set _ _ _ _ hmi, mir_at hk]
  by_cases e : mu w k = i
  · rw [if_pos e, if_pos (by rw [← e, mu_mu hw])]
  · rw [if_neg e, if_neg (fun e2 => e (by rw [e2, mu_mu hw]))]
theorem mir_do {w h : Nat} {s : List Nat} {j : Jm} (hs : s.length = w * h) (hj : wfJ s.length j) : mirL w (doJ s j) = doJ (mirL w s) (muJ w j) := by
  unfold doJ muJ
  rw [mir_set (h := h) (by simp [hs]) (by simpa using hj.2.2.1), mir_set (h := h) (by simp [hs]) (by simpa using hj.2.1), mir_set hs hj.1]
theorem mir_rch {w h : Nat} {J J' : List Jm} {s t : List Nat} (hs : s.length = w * h) (hJ : ∀ j ∈ J, wfJ s.length j ∧ muJ w j ∈ J') (hr : Rch J s t) : Rch J' (mirL w s) (mirL w t) := by
  induction hr with
  | refl => exact .refl
  | @step t j h1 h2 h3 ih =>
    obtain ⟨k1, k2⟩ := hJ _ h2
    have hl := h1.len
    rw [← hl] at k1 hs
    rw [mir_do hs k1]
    exact ih.step k2 (by rw [mir_can hs k1]; exact h3)
/-- mirrored boards have as few left. -/
theorem mir_most {w h : Nat} {J J' : List Jm} {s : List Nat} (hs : s.length = w * h) (hJ : ∀ j ∈ J, wfJ s.length j ∧ muJ w j ∈ J') (hJ' : ∀ j ∈ J', wfJ s.length j ∧ muJ w j ∈ J) : mostS J' (mirL w s) = mostS J s := by
  have hm := mir_len w s
  obtain ⟨⟨t, a1, a2⟩, a3⟩ := most_law (J := J) (s := s) (fun j hj => (hJ j hj).1)
  obtain ⟨⟨t', b1, b2⟩, b3⟩ := most_law (J := J') (s := mirL w s) (fun j hj => by rw [hm]; exact (hJ' j hj).1)
  have c := mir_cnt hs
  have e1 := b3 _ (mir_rch hs hJ a1)
  rw [mir_cnt (s := t) (h := h) (by rw [a1.len]; exact hs)] at e1
  have r2 := mir_rch (J' := J) (h := h) (by rw [hm]; exact hs) (fun j hj => by rw [hm]; exact hJ' j hj) b1
  rw [mir_mir hs] at r2
  have e2 := a3 _ r2
  rw [mir_cnt (s := t') (h := h) (by rw [b1.len, hm]; exact hs)] at e2
  omega
end Go.Proofs.Ytapoimadiiheaaa
