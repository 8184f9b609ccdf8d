import Derived.Test.YtcibkchfdiijfaaHxB
/- Hex: one colour joins its sides just if the rest does not join the others; plain; no conditions. -/
namespace Go.Proofs.Ytcibkchfdiijfaa

theorem Nx.mk {n x y x' y' : Nat} (hx : x < n) (hy : y < n) (hx' : x' < n) (hy' : y' < n)
    (h : (y' = y ∧ (x' + 1 = x ∨ x' = x + 1)) ∨ (y' + 1 = y ∧ (x' = x ∨ x' = x + 1)) ∨ (y' = y + 1 ∧ (x' = x ∨ x' + 1 = x))) : Nx n (y * n + x) (y' * n + x') := by
  refine ⟨at_lt hx hy, at_lt hx' hy', ?_⟩
  rw [(at_div hx).1, (at_div hx).2, (at_div hx').1, (at_div hx').2]
  exact h
def atC (n : Nat) (u : Cel) : Nat := u.2.1 * n + u.1
theorem walk1 {n : Nat} {A : Nat → Prop} (hn : 1 ≤ n) {v z : Cel} (h : Cn (Tri n A) v z) : v.2.1 = 0 →
    (∃ b, Pt A n (atC n v) b ∧ b / n = n - 1) ∨ (z.2.1 + 1 < n ∧ z.1 < n ∧ Pt A n (atC n v) (atC n z)) := by
  have fin : ∀ u : Cel, u.1 < n → u.2.1 < n → Pt A n (atC n v) (atC n u) → (∃ b, Pt A n (atC n v) b ∧ b / n = n - 1) ∨ (u.2.1 + 1 < n ∧ u.1 < n ∧ Pt A n (atC n v) (atC n u)) := by
    intro u h1 h2 h3
    by_cases h4 : u.2.1 + 1 < n
    · exact .inr ⟨h4, h1, h3⟩
    · exact .inl ⟨_, h3, by unfold atC; rw [(at_div h1).1]; omega⟩
  induction h with
  | refl h =>
    intro h0
    rcases h with h | ⟨h1, h2, h3⟩
    · omega
    · exact fin _ h1 h2 (.refl h3 (at_lt h1 h2))
  | step h1 h2 h3 ih =>
    rename_i u z
    intro h0
    rcases ih h0 with h | ⟨g1, g2, g3⟩
    · exact .inl h
    · obtain ⟨x, y, k⟩ := u
      obtain ⟨x', y', k'⟩ := z
      have hnr := Nb.near h2
      have hy' : y' < n := by simp only at g1 g2; omega
      rcases h3 with h3 | ⟨e1, e2, e3⟩
      · simp only at h3; omega
      · refine fin _ e1 e2 ?_
        rcases hnr with ⟨rfl, rfl⟩ | hnr
        · exact g3
        · exact g3.step (Nx.mk g2 (by simp only at g1 ⊢; omega) e1 e2 hnr) e3
theorem not_tri {n : Nat} {A : Nat → Prop} {u : Cel} (h : ¬ Tri n A u) : u.2.1 < n ∧ (u.1 < n → ¬ A (atC n u)) := by
  refine ⟨by
    by_cases h1 : u.2.1 < n
    · exact h1
    · exact absurd (.inl (by omega)) h, fun h1 h2 => ?_⟩
  by_cases h3 : u.2.1 < n
  · exact h (.inr ⟨h1, h3, h2⟩)
  · exact h (.inl (by omega))
theorem walk2 {n : Nat} {A : Nat → Prop} (hn : 1 ≤ n) {v z : Cel} (h : Cn (fun u => ¬ Tri n A u) v z) : v.1 = 0 →
    (∃ b, Pt (fun a => ¬ A a) n (atC n v) b ∧ b % n = n - 1) ∨ (z.1 + 1 < n ∧ z.2.1 < n ∧ Pt (fun a => ¬ A a) n (atC n v) (atC n z)) := by
  have fin : ∀ u : Cel, u.1 < n → u.2.1 < n → Pt (fun a => ¬ A a) n (atC n v) (atC n u) → (∃ b, Pt (fun a => ¬ A a) n (atC n v) b ∧ b % n = n - 1) ∨ (u.1 + 1 < n ∧ u.2.1 < n ∧ Pt (fun a => ¬ A a) n (atC n v) (atC n u)) := by
    intro u h1 h2 h3
    by_cases h4 : u.1 + 1 < n
    · exact .inr ⟨h4, h2, h3⟩
    · exact .inl ⟨_, h3, by unfold atC; rw [(at_div h1).2]; omega⟩
  induction h with
  | refl h =>
    intro h0
    obtain ⟨h1, h2⟩ := not_tri h
    have h3 := h2 (by omega)
    exact fin _ (by omega) h1 (.refl h3 (at_lt (by omega) h1))
  | step h1 h2 h3 ih =>
    rename_i u z
    intro h0
    rcases ih h0 with h | ⟨g1, g2, g3⟩
    · exact .inl h
    · obtain ⟨x, y, k⟩ := u
      obtain ⟨x', y', k'⟩ := z
      have hnr := Nb.near h2
      have hx' : x' < n := by simp only at g1 g2; omega
      obtain ⟨e2, e3⟩ := not_tri h3
      refine fin _ hx' e2 ?_
      rcases hnr with ⟨rfl, rfl⟩ | hnr
      · exact g3
      · exact g3.step (Nx.mk (by simp only at g1 ⊢; omega) g2 hx' e2 hnr) (e3 hx')
theorem pt_cn {P : Nat → Prop} {Q : Cel → Prop} {n : Nat} (hpq : ∀ a, a < n * n → P a → Q (toC n a)) {a b : Nat} (h : Pt P n a b) : Cn Q (toC n a) (toC n b) := by
  induction h with
  | refl h1 h2 => exact .refl (hpq _ h2 h1)
  | step h1 h2 h3 ih => exact ih.step h2.nb (hpq _ h2.2.1 h3)
theorem tri_of {n : Nat} {A : Nat → Prop} {a : Nat} (ha : a < n * n) : Tri n A (toC n a) ↔ A a := by
  obtain ⟨h1, h2⟩ := mod_le ha
  simp only [Tri, toC, at_self]
  constructor
  · rintro (h | ⟨_, _, h⟩)
    · omega
    · exact h
  · exact fun h => .inr ⟨by omega, by omega, h⟩
theorem row_cn {n : Nat} {A : Nat → Prop} : ∀ x, x + 2 ≤ n → Cn (Tri n A) (0, n, n - 2) (x, n, n - 2 - x)
  | 0, _ => .refl (.inl (Nat.le_refl _))
  | x + 1, h => (row_cn x (by omega)).step ⟨(x, n, n - 2 - (x + 1)), 2, 0, by omega, by omega, Prod.ext rfl (Prod.ext rfl (by simp only [ad]; omega)), rfl⟩ (.inl (Nat.le_refl _))
theorem col_no {n : Nat} {A : Nat → Prop} {y k : Nat} (h : y + 2 ≤ n) : ¬ Tri n A (n, y, k) := by
  rintro (h1 | ⟨h1, _, _⟩)
  · simp only at h1; omega
  · simp only at h1; omega
theorem col_cn {n : Nat} {A : Nat → Prop} : ∀ y, y + 2 ≤ n → Cn (fun u => ¬ Tri n A u) (n, 0, n - 2) (n, y, n - 2 - y)
  | 0, h => .refl (col_no h)
  | y + 1, h => (col_cn y (by omega)).step ⟨(n, y, n - 2 - (y + 1)), 2, 1, by omega, by omega, Prod.ext rfl (Prod.ext rfl (by simp only [ad]; omega)), rfl⟩ (col_no h)
theorem j1_yw {n : Nat} {A : Nat → Prop} (hn : 1 ≤ n) (h : J1 A n) : Yw (Tri n A) (2 * n - 2) := by
  obtain ⟨a, b, hp, ha, hb⟩ := h
  have hc := pt_cn (Q := Tri n A) (fun a ha h => (tri_of ha).mpr h) hp
  rcases (show n = 1 ∨ 2 ≤ n by omega) with rfl | h2
  · have ha' : a % 1 = 0 := Nat.mod_one a
    have e : toC 1 a = (0, 0, 0) := by simp [toC, ha, ha']
    rw [e] at hc
    exact ⟨(0, 0, 0), (0, 0, 0), (0, 0, 0), rfl, .refl hc.left, .refl hc.left, rfl, rfl, rfl⟩
  · obtain ⟨m1, m2⟩ := mod_le hp.right.2
    have hlast : Cn (Tri n A) (toC n b) (0, n, n - 2) := by
      have hr := hc.right
      by_cases hx : b % n + 1 = n
      · refine ((Cn.refl hr).step (v := toC n b) (w := (n - 2, n, 0)) ⟨(n - 2, n - 1, 0), 0, 1, by omega, by omega, Prod.ext (by simp only [ad, toC]; omega) (Prod.ext (by simp only [ad, toC]; omega) (by simp only [ad, toC]; omega)), Prod.ext rfl (Prod.ext (by simp only [ad]; omega) rfl)⟩ (.inl (Nat.le_refl _))).trans ?_
        have := row_cn (A := A) (n - 2) (show n - 2 + 2 ≤ n by omega)
        rw [Nat.sub_self] at this
        exact this.symm
      · refine ((Cn.refl hr).step (v := toC n b) (w := (b % n, n, n - 2 - b % n)) ⟨(b % n, n - 1, n - 2 - b % n), 2, 1, by omega, by omega, Prod.ext (by simp only [ad, toC]) (Prod.ext (by simp only [ad, toC]; omega) (by simp only [ad, toC]; omega)), Prod.ext rfl (Prod.ext (by simp only [ad]; omega) rfl)⟩ (.inl (Nat.le_refl _))).trans ?_
        exact (row_cn (A := A) (b % n) (by omega)).symm
    have hw := row_cn (A := A) (n - 2) (show n - 2 + 2 ≤ n by omega)
    refine ⟨(0, n, n - 2), toC n a, (n - 2, n, n - 2 - (n - 2)), ?_, (hc.trans hlast).symm, hw, rfl, ha, Nat.sub_self _⟩
    simp only [sumC]; omega
theorem j2_yw {n : Nat} {A : Nat → Prop} (hn : 1 ≤ n) (h : J2 (fun a => ¬ A a) n) : Yw (fun u => ¬ Tri n A u) (2 * n - 2) := by
  obtain ⟨a, b, hp, ha, hb⟩ := h
  have hc := pt_cn (Q := fun u => ¬ Tri n A u) (fun a ha h h' => h ((tri_of ha).mp h')) hp
  have hs := toC_sum hp.left.2
  rcases (show n = 1 ∨ 2 ≤ n by omega) with rfl | h2
  · have ha' : a / 1 = 0 := by have := hp.left.2; omega
    have e : toC 1 a = (0, 0, 0) := by simp [toC, ha]; omega
    rw [e] at hc
    exact ⟨(0, 0, 0), (0, 0, 0), (0, 0, 0), rfl, .refl hc.left, .refl hc.left, rfl, rfl, rfl⟩
  · obtain ⟨m1, m2⟩ := mod_le hp.right.2
    have hlast : Cn (fun u => ¬ Tri n A u) (toC n b) (n, 0, n - 2) := by
      have hr := hc.right
      by_cases hx : b / n + 1 = n
      · refine ((Cn.refl hr).step (v := toC n b) (w := (n, n - 2, 0)) ⟨(n - 1, n - 2, 0), 1, 0, by omega, by omega, Prod.ext (by simp only [ad, toC]; omega) (Prod.ext (by simp only [ad, toC]; omega) (by simp only [ad, toC]; omega)), Prod.ext (by simp only [ad]; omega) rfl⟩ (col_no (by omega))).trans ?_
        have := col_cn (A := A) (n - 2) (show n - 2 + 2 ≤ n by omega)
        rw [Nat.sub_self] at this
        exact this.symm
      · refine ((Cn.refl hr).step (v := toC n b) (w := (n, b / n, n - 2 - b / n)) ⟨(n - 1, b / n, n - 2 - b / n), 2, 0, by omega, by omega, Prod.ext (by simp only [ad, toC]; omega) (Prod.ext (by simp only [ad, toC]) (by simp only [ad, toC]; omega)), Prod.ext (by simp only [ad]; omega) rfl⟩ (col_no (by omega))).trans ?_
        exact (col_cn (A := A) (b / n) (by omega)).symm
    have hw := col_cn (A := A) (n - 2) (show n - 2 + 2 ≤ n by omega)
    exact ⟨toC n a, (n, 0, n - 2), (n, n - 2, n - 2 - (n - 2)), hs, hc.trans hlast, (hc.trans hlast).trans hw, ha, rfl, Nat.sub_self _⟩
theorem yw_j1 {n : Nat} {A : Nat → Prop} (hn : 1 ≤ n) (h : Yw (Tri n A) (2 * n - 2)) : J1 A n := by
  obtain ⟨u, v, w, hs, h1, h2, _, s1, s2⟩ := h
  have hvw := h1.symm.trans h2
  have hsw := h2.sum
  have hv := hvw.left
  have hv1 : v.1 < n := by
    rcases hv with hv | ⟨h, _, _⟩
    · omega
    · exact h
  have hat : atC n v / n = 0 := by unfold atC; rw [(at_div hv1).1, s1]
  rcases walk1 hn hvw s1 with ⟨b, g1, g2⟩ | ⟨g1, g2, g3⟩
  · exact ⟨_, b, g1, hat, g2⟩
  · exfalso
    unfold sumC at hs hsw; omega
theorem yw_j2 {n : Nat} {A : Nat → Prop} (hn : 1 ≤ n) (h : Yw (fun u => ¬ Tri n A u) (2 * n - 2)) : J2 (fun a => ¬ A a) n := by
  obtain ⟨u, v, w, hs, h1, h2, s0, s1, s2⟩ := h
  have hsw := h2.sum
  have hat : atC n u % n = 0 := by unfold atC; rw [(at_div (by omega)).2, s0]
  rcases walk2 hn h2 s0 with ⟨b, g1, g2⟩ | ⟨g1, g2, g3⟩
  · exact ⟨_, b, g1, hat, g2⟩
  · exfalso
    unfold sumC at hs hsw; omega
/-- Hex: the one joins rows just if the rest does not join columns. -/
theorem hex_one {n : Nat} (hn : 1 ≤ n) (A : Nat → Prop) : J1 A n ↔ ¬ J2 (fun a => ¬ A a) n := by
  have h := y_one (2 * n - 2) (Tri n A)
  exact ⟨fun h1 h2 => h.mp (j1_yw hn h1) (j2_yw hn h2), fun h1 => yw_j1 hn (h.mpr fun h2 => h1 (yw_j2 hn h2))⟩
end Go.Proofs.Ytcibkchfdiijfaa
