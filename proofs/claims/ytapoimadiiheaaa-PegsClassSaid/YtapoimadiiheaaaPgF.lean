/- Plain laws of pegs: as few as can be left, and a row of jumps that leaves one; no program in sight. -/
import Derived.Test.YtapoimadiiheaaaPgS
namespace Go.Proofs.Ytapoimadiiheaaa

theorem Rch.len {J : List Jm} {s t : List Nat} (h : Rch J s t) : t.length = s.length := by
  induction h with
  | refl => rfl
  | step _ _ _ ih => rw [doJ_len]; exact ih
theorem Rch.cnt {J : List Jm} {s t : List Nat} (hJ : ∀ j ∈ J, wfJ s.length j) (h : Rch J s t) : cnt1 t ≤ cnt1 s := by
  induction h with
  | refl => exact Nat.le_refl _
  | step h1 h2 h3 ih =>
    have := doJ_cnt (by rw [h1.len]; exact hJ _ h2) h3
    omega
/-- all that jumps lead to lies in a set that is closed. -/
theorem Cl.all {J : List Jm} {s : List Nat} {T : List (List Nat)} (hJ : ∀ j ∈ J, wfJ s.length j) (hs : s ∈ T) (hc : Cl J T (cnt1 s)) : ∀ t, Rch J s t → t ∈ T := by
  intro t h
  induction h with
  | refl => exact hs
  | step h1 h2 h3 ih => exact hc _ ih (h1.cnt hJ) _ h2 h3
def fewD (_ : List Nat) (row : List Jm) (acc : Nat) : Nat × Bool := (max acc row.length, false)
def mostS (J : List Jm) (s : List Nat) : Nat := (runS fewD J (cnt1 s + 1) s [] ([], 0)).1.2
theorem runL_false {α : Type} {R : List Nat → List Jm → List (List Nat) × α → (List (List Nat) × α) × Bool} (h : ∀ s row z, (R s row z).2 = false) (s : List Nat) (row : List Jm) : ∀ l z, (runL R s row l z).2 = false := by
  intro l
  induction l with
  | nil => intro z; rfl
  | cons j l ih => intro z; rw [runL]; split; rw [if_neg (by rw [h]; simp)]; exact ih _; exact ih _
theorem few_false (J : List Jm) : ∀ f s row z, (runS fewD J f s row z).2 = false := by
  intro f
  induction f with
  | zero => intro s row z; rfl
  | succ f ih =>
    intro s row z
    rw [runS, if_neg (by simp [fewD])]
    split
    · rfl
    · exact runL_false ih _ _ _ _
/-- the greatest number of jumps. -/
theorem most_law {J : List Jm} {s : List Nat} (hJ : ∀ j ∈ J, wfJ s.length j) : (∃ t, Rch J s t ∧ mostS J s + cnt1 t = cnt1 s) ∧ ∀ t, Rch J s t → cnt1 s ≤ mostS J s + cnt1 t := by
  have h := runS_F (J := J) (n := s.length) (N := cnt1 s) hJ (s0 := s) fewD (fun acc => ∃ t, Rch J s t ∧ acc + cnt1 t = cnt1 s) (fun t acc => cnt1 s ≤ acc + cnt1 t) (fun t row acc hR hrow hq _ => by
    refine ⟨?_, ?_, fun x hx => ?_⟩
    · show ∃ t, Rch J s t ∧ max acc row.length + cnt1 t = cnt1 s
      rcases Nat.le_total acc row.length with h | h
      · rw [Nat.max_eq_right h]; exact ⟨t, hR, hrow⟩
      · rw [Nat.max_eq_left h]; exact hq
    · show cnt1 s ≤ max acc row.length + cnt1 t
      have := Nat.le_max_right acc row.length
      omega
    · show cnt1 s ≤ max acc row.length + cnt1 x
      have := Nat.le_max_left acc row.length
      omega) (cnt1 s + 1) s [] ([], 0) (by omega) rfl (by simp) .refl ⟨s, .refl, by simp⟩ (fun t ht => by simp at ht) (fun t ht => by simp at ht) (few_false _ _ _ _ _)
  obtain ⟨L, hs, hc⟩ := h
  exact ⟨L.q, fun t ht => L.v t (hc.all hJ hs t ht)⟩
/-- a row of jumps that can be made, and the board behind it. -/
inductive Pth (J : List Jm) (s : List Nat) : List Jm → List Nat → Prop where
  | nil : Pth J s [] s
  | snoc {row : List Jm} {t : List Nat} {j : Jm} : Pth J s row t → j ∈ J → canJ t j = true → Pth J s (row ++ [j]) (doJ t j)
theorem Pth.rch {J : List Jm} {s t : List Nat} {row : List Jm} (h : Pth J s row t) : Rch J s t := by
  induction h with
  | nil => exact .refl
  | snoc _ h2 h3 ih => exact ih.step h2 h3
theorem runS_B {α : Type} {J : List Jm} {s0 : List Nat} (D : List Nat → List Jm → α → α × Bool) (Q : α → Prop) (hD : ∀ s row acc, Q acc → (D s row acc).2 = false → Q (D s row acc).1) : ∀ f s row (z : List (List Nat) × α), Pth J s0 row s → Q z.2 →
    ((runS D J f s row z).2 = false → Q (runS D J f s row z).1.2) ∧ ((runS D J f s row z).2 = true → ∃ s' row' acc, Pth J s0 row' s' ∧ Q acc ∧ (D s' row' acc).2 = true ∧ (runS D J f s row z).1.2 = (D s' row' acc).1) := by
  intro f
  induction f with
  | zero => intro s row z _ hq; exact ⟨fun _ => hq, fun h => by simp [runS] at h⟩
  | succ f ih =>
    intro s row z hp hq
    rw [runS]
    by_cases hb : (D s row z.2).2 = true
    · rw [if_pos hb]; exact ⟨fun h => by simp at h, fun _ => ⟨s, row, z.2, hp, hq, hb, rfl⟩⟩
    · rw [if_neg hb]
      have hq2 := hD s row z.2 hq (by simpa using hb)
      by_cases hm : s ∈ z.1
      · rw [if_pos hm]; exact ⟨fun _ => hq2, fun h => by simp at h⟩
      · rw [if_neg hm]
        have key : ∀ l (y : List (List Nat) × α), (∀ j ∈ l, j ∈ J) → Q y.2 → ((runL (runS D J f) s row l y).2 = false → Q (runL (runS D J f) s row l y).1.2) ∧ ((runL (runS D J f) s row l y).2 = true → ∃ s' row' acc, Pth J s0 row' s' ∧ Q acc ∧ (D s' row' acc).2 = true ∧ (runL (runS D J f) s row l y).1.2 = (D s' row' acc).1) := by
          intro l
          induction l with
          | nil => intro y _ h; exact ⟨fun _ => h, fun h => by simp [runL] at h⟩
          | cons j l ihl =>
            intro y hl h
            rw [runL]
            by_cases hc : canJ s j = true
            · rw [if_pos hc]
              obtain ⟨h1, h2⟩ := ih _ _ y (hp.snoc (hl j (by simp)) hc) h
              by_cases hr : (runS D J f (doJ s j) (row ++ [j]) y).2 = true
              · rw [if_pos hr]; exact ⟨fun h => by simp at h, fun _ => h2 hr⟩
              · rw [if_neg hr]; exact ihl _ (fun x hx => hl x (by simp [hx])) (h1 (by simpa using hr))
            · rw [if_neg hc]; exact ihl _ (fun x hx => hl x (by simp [hx])) h
        exact key J _ (fun j hj => hj) hq2
theorem st_doJ_to {t : List Nat} {j : Jm} (h : wfJ t.length j) : st (doJ t j) j.2.2 = 1 := by
  unfold doJ
  rw [st_set _ _ _ _ (by simpa using h.2.2.1), if_pos rfl]
theorem cnt_pos {t : List Nat} {i : Nat} (hi : i < t.length) (h : st t i = 1) : 0 < cnt1 t := by
  have := cnt_off hi h
  omega
def solD (N : Nat) (_ : List Nat) (row : List Jm) (acc : List Jm) : List Jm × Bool := if row.length + 1 = N then (acc ++ row, true) else (acc, false)
theorem Pth.cnt {J : List Jm} {s t : List Nat} {row : List Jm} (hJ : ∀ j ∈ J, wfJ s.length j) (h : Pth J s row t) : row.length + cnt1 t = cnt1 s := by
  induction h with
  | nil => simp
  | snoc h1 h2 h3 ih =>
    have := doJ_cnt (by rw [h1.rch.len]; exact hJ _ h2) h3
    simp; omega
def solS (J : List Jm) (s : List Nat) : (List (List Nat) × List Jm) × Bool := runS (solD (cnt1 s)) J (cnt1 s + 1) s [] ([], [])
/-- nothing is found just if no board with one peg can be reached. -/
theorem sol_none {J : List Jm} {s : List Nat} (hJ : ∀ j ∈ J, wfJ s.length j) (h : (solS J s).2 = false) : ∀ t, Rch J s t → cnt1 t ≠ 1 := by
  have h2 := runS_F (J := J) (n := s.length) (N := cnt1 s) hJ (s0 := s) (solD (cnt1 s)) (fun _ => True) (fun t _ => cnt1 t ≠ 1) (fun t row acc hR hrow _ hb => by
    unfold solD at hb
    by_cases e : row.length + 1 = cnt1 s
    · rw [if_pos e] at hb; simp at hb
    · exact ⟨trivial, by omega, fun x hx => hx⟩) (cnt1 s + 1) s [] ([], []) (by omega) rfl (by simp) .refl trivial (fun t ht => by simp at ht) (fun t ht => by simp at ht) h
  obtain ⟨L, hs, hc⟩ := h2
  exact fun t ht => L.v t (hc.all hJ hs t ht)
/-- what is found leads to a board with one peg. -/
theorem sol_some {J : List Jm} {s : List Nat} (hJ : ∀ j ∈ J, wfJ s.length j) (h : (solS J s).2 = true) : ∃ t, Pth J s (solS J s).1.2 t ∧ cnt1 t = 1 := by
  obtain ⟨s', row', acc, hp, hq, hb, he⟩ := (runS_B (J := J) (s0 := s) (solD (cnt1 s)) (fun acc => acc = []) (fun t row acc hq hb => by
    unfold solD at *
    by_cases e : row.length + 1 = cnt1 s
    · rw [if_pos e] at hb; simp at hb
    · rw [if_neg e]; exact hq) (cnt1 s + 1) s [] ([], []) .nil rfl).2 h
  subst hq
  have hc := hp.cnt hJ
  unfold solD at hb he
  by_cases e : row'.length + 1 = cnt1 s
  · rw [if_pos e] at he
    refine ⟨s', ?_, by omega⟩
    have e2 : (solS J s).1.2 = row' := by unfold solS; rw [show solD (cnt1 s) = fun (_ : List Nat) (row : List Jm) (acc : List Jm) => if row.length + 1 = cnt1 s then (acc ++ row, true) else (acc, false) from rfl]; simpa using he
    rw [e2]; exact hp
  · rw [if_neg e] at hb; simp at hb
/-- solved, just if one peg is the fewest. -/
theorem sol_iff {J : List Jm} {s : List Nat} (hJ : ∀ j ∈ J, wfJ s.length j) : (solS J s).2 = true ↔ mostS J s + 1 = cnt1 s := by
  obtain ⟨⟨t, h1, h2⟩, h3⟩ := most_law hJ
  constructor
  · intro h
    obtain ⟨x, hx, hx1⟩ := sol_some hJ h
    have := h3 x hx.rch
    have h5 : cnt1 t ≠ 0 ∨ cnt1 t = 0 := by omega
    rcases Nat.eq_zero_or_pos (cnt1 t) with h0 | h0
    · exfalso
      -- a board with no peg comes from none
      have : ∀ t, Rch J s t → 0 < cnt1 s → 0 < cnt1 t := by
        intro t ht hp
        induction ht with
        | refl => exact hp
        | step k1 k2 k3 ih =>
          obtain ⟨w1, w2, w3, w4, w5, w6⟩ := hJ _ k2
          have hl := k1.len
          have : st (doJ _ _) _ = 1 := st_doJ_to (by rw [hl]; exact ⟨w1, w2, w3, w4, w5, w6⟩)
          exact cnt_pos (by rw [doJ_len, hl]; exact w3) this
      have hs0 : 0 < cnt1 s := by have := hx.rch.cnt hJ; omega
      have := this t h1 hs0
      omega
    · omega
  · intro h
    cases hb : (solS J s).2
    · have := sol_none hJ hb t h1
      omega
    · rfl
end Go.Proofs.Ytapoimadiiheaaa
