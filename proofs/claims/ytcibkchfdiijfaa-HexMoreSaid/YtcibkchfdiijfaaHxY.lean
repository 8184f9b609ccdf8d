/- The game of Y: on a triangle of two colours just one joins all three sides; plain; no conditions. -/
namespace Go.Proofs.Ytcibkchfdiijfaa

/-- a place of a triangle: how far from each side. -/
abbrev Cel := Nat × Nat × Nat
def ad : Nat → Cel → Cel
  | 0, (i, j, k) => (i + 1, j, k)
  | 1, (i, j, k) => (i, j + 1, k)
  | _, (i, j, k) => (i, j, k + 1)
def sumC (u : Cel) : Nat := u.1 + u.2.1 + u.2.2
theorem ad_sum {a : Nat} (u : Cel) : sumC (ad a u) = sumC u + 1 := by
  obtain ⟨i, j, k⟩ := u
  match a with
  | 0 => simp [ad, sumC]; omega
  | 1 => simp [ad, sumC]; omega
  | _ + 2 => simp [ad, sumC]; omega
/-- two places of one small triangle. -/
def Nb (u v : Cel) : Prop := ∃ T : Cel, ∃ a b : Nat, a < 3 ∧ b < 3 ∧ u = ad a T ∧ v = ad b T
theorem Nb.symm {u v : Cel} (h : Nb u v) : Nb v u := by
  obtain ⟨T, a, b, h1, h2, h3, h4⟩ := h
  exact ⟨T, b, a, h2, h1, h4, h3⟩
inductive Cn (P : Cel → Prop) : Cel → Cel → Prop
  | refl {u : Cel} : P u → Cn P u u
  | step {u v w : Cel} : Cn P u v → Nb v w → P w → Cn P u w
theorem Cn.right {P : Cel → Prop} {u v : Cel} (h : Cn P u v) : P v := by
  cases h with
  | refl h => exact h
  | step _ _ h => exact h
theorem Cn.left {P : Cel → Prop} {u v : Cel} (h : Cn P u v) : P u := by
  induction h with
  | refl h => exact h
  | step _ _ _ ih => exact ih
theorem Cn.trans {P : Cel → Prop} {u v w : Cel} (h : Cn P u v) (k : Cn P v w) : Cn P u w := by
  induction k with
  | refl _ => exact h
  | step _ h2 h3 ih => exact ih.step h2 h3
theorem Cn.symm {P : Cel → Prop} {u v : Cel} (h : Cn P u v) : Cn P v u := by
  induction h with
  | refl h => exact .refl h
  | step h1 h2 h3 ih => exact ((Cn.refl h3).step h2.symm h1.right).trans ih
theorem Cn.mono {P Q : Cel → Prop} (hpq : ∀ u, P u → Q u) {u v : Cel} (h : Cn P u v) : Cn Q u v := by
  induction h with
  | refl h => exact .refl (hpq _ h)
  | step _ h2 h3 ih => exact ih.step h2 (hpq _ h3)
theorem Cn.sum {P : Cel → Prop} {u v : Cel} (h : Cn P u v) : sumC v = sumC u := by
  induction h with
  | refl _ => rfl
  | step _ h2 _ ih =>
    obtain ⟨T, a, b, _, _, rfl, rfl⟩ := h2
    rw [ad_sum] at ih ⊢; exact ih
/-- at least two of the three. -/
def Mj (P : Cel → Prop) (T : Cel) : Prop := ∃ a b : Nat, a < 3 ∧ b < 3 ∧ a ≠ b ∧ P (ad a T) ∧ P (ad b T)
theorem Mj.other {P : Cel → Prop} {T : Cel} (h : Mj P T) {a d : Nat} (ha : a < 3) (hd : d < 3) (hne : a ≠ d) (hn : ¬ P (ad a T)) : P (ad d T) := by
  obtain ⟨x, y, hx, hy, hxy, h1, h2⟩ := h
  have hxa : x ≠ a := fun e => hn (e ▸ h1)
  have hya : y ≠ a := fun e => hn (e ▸ h2)
  rcases (show d = x ∨ d = y by omega) with rfl | rfl
  · exact h1
  · exact h2
theorem Mj.some {P : Cel → Prop} {T : Cel} (h : Mj P T) : ∃ a, a < 3 ∧ P (ad a T) := by
  obtain ⟨x, y, hx, hy, hxy, h1, h2⟩ := h
  exact ⟨x, hx, h1⟩
theorem ad_comm (a b : Nat) (T : Cel) : ad a (ad b T) = ad b (ad a T) := by
  obtain ⟨i, j, k⟩ := T
  match a, b with
  | 0, 0 => rfl
  | 0, 1 => rfl
  | 0, _ + 2 => rfl
  | 1, 0 => rfl
  | 1, 1 => rfl
  | 1, _ + 2 => rfl
  | _ + 2, 0 => rfl
  | _ + 2, 1 => rfl
  | _ + 2, _ + 2 => rfl
theorem lift {P : Cel → Prop} {S T : Cel} (h : Cn (Mj P) S T) : ∀ a b, a < 3 → b < 3 → P (ad a S) → P (ad b T) → Cn P (ad a S) (ad b T) := by
  induction h with
  | refl _ => exact fun a b ha hb h1 h2 => (Cn.refl h1).step ⟨_, a, b, ha, hb, rfl, rfl⟩ h2
  | step h1 h2 h3 ih =>
    rename_i T' T
    intro a b ha hb p1 p2
    obtain ⟨R, x, y, hx, hy, rfl, rfl⟩ := h2
    have hm := h1.right
    have key : ∃ p q, p < 3 ∧ q < 3 ∧ P (ad p (ad x R)) ∧ P (ad q (ad y R)) ∧ Cn P (ad p (ad x R)) (ad q (ad y R)) := by
      by_cases hxy : x = y
      · subst hxy
        obtain ⟨p, hp, h5⟩ := hm.some
        exact ⟨p, p, hp, hp, h5, h5, .refl h5⟩
      · by_cases hs : P (ad y (ad x R))
        · have hs' : P (ad x (ad y R)) := by rw [ad_comm]; exact hs
          refine ⟨y, x, hy, hx, hs, hs', ?_⟩
          rw [ad_comm x y R]; exact .refl hs
        · have hs' : ¬ P (ad x (ad y R)) := by rw [ad_comm]; exact hs
          obtain ⟨d, hd, hd1, hd2⟩ : ∃ d, d < 3 ∧ d ≠ x ∧ d ≠ y := by
            rcases (show x = 0 ∨ x = 1 ∨ x = 2 by omega) with rfl | rfl | rfl <;> rcases (show y = 0 ∨ y = 1 ∨ y = 2 by omega) with rfl | rfl | rfl
            · omega
            · exact ⟨2, by omega, by omega, by omega⟩
            · exact ⟨1, by omega, by omega, by omega⟩
            · exact ⟨2, by omega, by omega, by omega⟩
            · omega
            · exact ⟨0, by omega, by omega, by omega⟩
            · exact ⟨1, by omega, by omega, by omega⟩
            · exact ⟨0, by omega, by omega, by omega⟩
            · omega
          have e1 := hm.other hy hd (Ne.symm hd2) hs
          have e2 := h3.other hx hd (Ne.symm hd1) hs'
          refine ⟨d, d, hd, hd, e1, e2, (Cn.refl e1).step ⟨ad d R, x, y, hx, hy, ad_comm _ _ _, ad_comm _ _ _⟩ e2⟩
    obtain ⟨p, q, hp, hq, e1, e2, e3⟩ := key
    exact ((ih a p ha hp p1 e1).trans e3).step ⟨_, q, b, hq, hb, rfl, rfl⟩ p2
theorem tri_two {v R T : Cel} {a a' : Nat} (ha : a < 3) (ha' : a' < 3) (h1 : v = ad a R) (h2 : v = ad a' T) : R = T ∨ ∃ Q, T = ad a Q ∧ R = ad a' Q := by
  obtain ⟨i, j, k⟩ := R
  obtain ⟨i', j', k'⟩ := T
  rw [h1] at h2
  rcases (show a = 0 ∨ a = 1 ∨ a = 2 by omega) with rfl | rfl | rfl <;> rcases (show a' = 0 ∨ a' = 1 ∨ a' = 2 by omega) with rfl | rfl | rfl <;> simp only [ad, Prod.mk.injEq] at h2 <;> obtain ⟨e1, e2, e3⟩ := h2
  · left; simp only [Prod.mk.injEq]; omega
  · right; exact ⟨(i, j', k), Prod.ext (by simp only [ad] <;> omega) (Prod.ext (by simp only [ad] <;> omega) (by simp only [ad] <;> omega)), Prod.ext (by simp only [ad] <;> omega) (Prod.ext (by simp only [ad] <;> omega) (by simp only [ad] <;> omega))⟩
  · right; exact ⟨(i, j, k'), Prod.ext (by simp only [ad] <;> omega) (Prod.ext (by simp only [ad] <;> omega) (by simp only [ad] <;> omega)), Prod.ext (by simp only [ad] <;> omega) (Prod.ext (by simp only [ad] <;> omega) (by simp only [ad] <;> omega))⟩
  · right; exact ⟨(i', j, k), Prod.ext (by simp only [ad] <;> omega) (Prod.ext (by simp only [ad] <;> omega) (by simp only [ad] <;> omega)), Prod.ext (by simp only [ad] <;> omega) (Prod.ext (by simp only [ad] <;> omega) (by simp only [ad] <;> omega))⟩
  · left; simp only [Prod.mk.injEq]; omega
  · right; exact ⟨(i, j, k'), Prod.ext (by simp only [ad] <;> omega) (Prod.ext (by simp only [ad] <;> omega) (by simp only [ad] <;> omega)), Prod.ext (by simp only [ad] <;> omega) (Prod.ext (by simp only [ad] <;> omega) (by simp only [ad] <;> omega))⟩
  · right; exact ⟨(i', j, k), Prod.ext (by simp only [ad] <;> omega) (Prod.ext (by simp only [ad] <;> omega) (by simp only [ad] <;> omega)), Prod.ext (by simp only [ad] <;> omega) (Prod.ext (by simp only [ad] <;> omega) (by simp only [ad] <;> omega))⟩
  · right; exact ⟨(i, j', k), Prod.ext (by simp only [ad] <;> omega) (Prod.ext (by simp only [ad] <;> omega) (by simp only [ad] <;> omega)), Prod.ext (by simp only [ad] <;> omega) (Prod.ext (by simp only [ad] <;> omega) (by simp only [ad] <;> omega))⟩
  · left; simp only [Prod.mk.injEq]; omega
theorem down {P : Cel → Prop} {u v : Cel} (h : Cn P u v) : ∀ S a, a < 3 → u = ad a S → Mj P S → ∃ T b, b < 3 ∧ v = ad b T ∧ Cn (Mj P) S T := by
  induction h with
  | refl _ => exact fun S a ha hu hS => ⟨S, a, ha, hu, .refl hS⟩
  | step h1 h2 h3 ih =>
    intro S a ha hu hS
    obtain ⟨T, b, hb, hv, hc⟩ := ih S a ha hu hS
    obtain ⟨R, x, y, hx, hy, e1, e2⟩ := h2
    by_cases hxy : x = y
    · subst hxy
      exact ⟨T, b, hb, by rw [e2, ← e1]; exact hv, hc⟩
    · have hR : Mj P R := ⟨x, y, hx, hy, hxy, by rw [← e1]; exact h1.right, by rw [← e2]; exact h3⟩
      rcases tri_two hx hb e1 hv with rfl | ⟨Q, q1, q2⟩
      · exact ⟨R, y, hy, e2, hc⟩
      · exact ⟨R, y, hy, e2, hc.step ⟨Q, x, b, hx, hb, q1, q2⟩ hR⟩
theorem first {P : Cel → Prop} {u v : Cel} (h : Cn P u v) : u = v ∨ ∃ S a, a < 3 ∧ u = ad a S ∧ Mj P S := by
  induction h with
  | refl _ => exact .inl rfl
  | step h1 h2 h3 ih =>
    rcases ih with rfl | h
    · obtain ⟨R, x, y, hx, hy, e1, e2⟩ := h2
      by_cases hxy : x = y
      · subst hxy; exact .inl (by rw [e1, e2])
      · exact .inr ⟨R, x, hx, e1, x, y, hx, hy, hxy, by rw [← e1]; exact h1.right, by rw [← e2]; exact h3⟩
    · exact .inr h
/-- the places of P join all three sides. -/
def Yw (P : Cel → Prop) (m : Nat) : Prop := ∃ u v w : Cel, sumC u = m ∧ Cn P u v ∧ Cn P u w ∧ u.1 = 0 ∧ v.2.1 = 0 ∧ w.2.2 = 0
theorem side0 {a : Nat} {T : Cel} (ha : a < 3) (h : (ad a T).1 = 0) : T.1 = 0 := by
  obtain ⟨i, j, k⟩ := T
  rcases (show a = 0 ∨ a = 1 ∨ a = 2 by omega) with rfl | rfl | rfl <;> simp [ad] at h ⊢ <;> omega
theorem side1 {a : Nat} {T : Cel} (ha : a < 3) (h : (ad a T).2.1 = 0) : T.2.1 = 0 := by
  obtain ⟨i, j, k⟩ := T
  rcases (show a = 0 ∨ a = 1 ∨ a = 2 by omega) with rfl | rfl | rfl <;> simp [ad] at h ⊢ <;> omega
theorem side2 {a : Nat} {T : Cel} (ha : a < 3) (h : (ad a T).2.2 = 0) : T.2.2 = 0 := by
  obtain ⟨i, j, k⟩ := T
  rcases (show a = 0 ∨ a = 1 ∨ a = 2 by omega) with rfl | rfl | rfl <;> simp [ad] at h ⊢ <;> omega
theorem Mj.two {P : Cel → Prop} {T : Cel} (h : Mj P T) (a b : Nat) (ha : a < 3) (hb : b < 3) (hab : a ≠ b) : P (ad a T) ∨ P (ad b T) := by
  by_cases h1 : P (ad a T)
  · exact .inl h1
  · exact .inr (h.other ha hb hab h1)
theorem Yw.up {P : Cel → Prop} {m : Nat} (h : Yw (Mj P) m) : Yw P (m + 1) := by
  obtain ⟨u, v, w, hs, h1, h2, s0, s1, s2⟩ := h
  obtain ⟨a, ha, pa, sa⟩ : ∃ a, a < 3 ∧ P (ad a u) ∧ (ad a u).1 = 0 := by
    obtain ⟨i, j, k⟩ := u
    rcases h1.left.two 1 2 (by omega) (by omega) (by omega) with h | h
    · exact ⟨1, by omega, h, s0⟩
    · exact ⟨2, by omega, h, s0⟩
  obtain ⟨b, hb, pb, sb⟩ : ∃ b, b < 3 ∧ P (ad b v) ∧ (ad b v).2.1 = 0 := by
    obtain ⟨i, j, k⟩ := v
    rcases h1.right.two 0 2 (by omega) (by omega) (by omega) with h | h
    · exact ⟨0, by omega, h, s1⟩
    · exact ⟨2, by omega, h, s1⟩
  obtain ⟨c, hc, pc, sc⟩ : ∃ c, c < 3 ∧ P (ad c w) ∧ (ad c w).2.2 = 0 := by
    obtain ⟨i, j, k⟩ := w
    rcases h2.right.two 0 1 (by omega) (by omega) (by omega) with h | h
    · exact ⟨0, by omega, h, s2⟩
    · exact ⟨1, by omega, h, s2⟩
  exact ⟨_, _, _, by rw [ad_sum, hs], lift h1 a b ha hb pa pb, lift h2 a c ha hc pa pc, sa, sb, sc⟩
theorem Yw.dn {P : Cel → Prop} {m : Nat} (h : Yw P (m + 1)) : Yw (Mj P) m := by
  obtain ⟨u, v, w, hs, h1, h2, s0, s1, s2⟩ := h
  have hst : ∃ S a, a < 3 ∧ u = ad a S ∧ Mj P S := by
    rcases first h1 with rfl | h
    · rcases first h2 with rfl | h
      · unfold sumC at hs; omega
      · exact h
    · exact h
  obtain ⟨S, a, ha, rfl, hS⟩ := hst
  obtain ⟨T, b, hb, rfl, hT⟩ := down h1 S a ha rfl hS
  obtain ⟨V, c, hc, rfl, hV⟩ := down h2 S a ha rfl hS
  refine ⟨S, T, V, ?_, hT, hV, side0 ha s0, side1 hb s1, side2 hc s2⟩
  rw [ad_sum] at hs; omega
theorem Mj.not {P : Cel → Prop} {T : Cel} : ¬ Mj P T ↔ Mj (fun u => ¬ P u) T := by
  constructor
  · intro h
    by_cases h0 : P (ad 0 T) <;> by_cases h1 : P (ad 1 T) <;> by_cases h2 : P (ad 2 T)
    · exact absurd ⟨0, 1, by omega, by omega, by omega, h0, h1⟩ h
    · exact absurd ⟨0, 1, by omega, by omega, by omega, h0, h1⟩ h
    · exact absurd ⟨0, 2, by omega, by omega, by omega, h0, h2⟩ h
    · exact ⟨1, 2, by omega, by omega, by omega, h1, h2⟩
    · exact absurd ⟨1, 2, by omega, by omega, by omega, h1, h2⟩ h
    · exact ⟨0, 2, by omega, by omega, by omega, h0, h2⟩
    · exact ⟨0, 1, by omega, by omega, by omega, h0, h1⟩
    · exact ⟨0, 1, by omega, by omega, by omega, h0, h1⟩
  · rintro ⟨a, b, ha, hb, hab, h1, h2⟩ hm
    exact h1 (hm.other hb ha (Ne.symm hab) h2)
theorem Yw.congr {P Q : Cel → Prop} (h : ∀ u, P u ↔ Q u) {m : Nat} : Yw P m ↔ Yw Q m := by
  have : P = Q := funext fun u => propext (h u)
  rw [this]
/-- just one colour joins all three sides. -/
theorem y_one : ∀ (m : Nat) (P : Cel → Prop), Yw P m ↔ ¬ Yw (fun u => ¬ P u) m
  | 0, P => by
    have hz : ∀ u : Cel, sumC u = 0 → u = (0, 0, 0) := fun ⟨i, j, k⟩ h => by
      simp only [sumC] at h
      simp only [Prod.mk.injEq]; omega
    have key : ∀ Q : Cel → Prop, Yw Q 0 ↔ Q (0, 0, 0) := fun Q => by
      constructor
      · rintro ⟨u, v, w, hs, h1, _, _⟩
        rw [← hz u hs]; exact h1.left
      · exact fun h => ⟨(0, 0, 0), (0, 0, 0), (0, 0, 0), rfl, .refl h, .refl h, rfl, rfl, rfl⟩
    rw [key, key]
    exact (Classical.not_not).symm
  | m + 1, P => by
    have e1 : Yw P (m + 1) ↔ Yw (Mj P) m := ⟨Yw.dn, Yw.up⟩
    have e2 : Yw (fun u => ¬ P u) (m + 1) ↔ Yw (Mj fun u => ¬ P u) m := ⟨Yw.dn, Yw.up⟩
    rw [e1, e2, y_one m (Mj P)]
    exact not_congr (Yw.congr fun u => Mj.not)
end Go.Proofs.Ytcibkchfdiijfaa
