/- Drops that fall, minimax and alpha-beta, in plain words; no conditions. -/
import Derived.Test.YtfoojdkbonmmgaaFPl
import Derived.Test.YtfoojdkbonmmgaaMir
namespace Go.Proofs.Ytfoojdkbonmmgaa

/-- where a sign falls. -/
def fal (cs : List Nat) (W col : Nat) : Nat → Option Nat
  | 0 => none
  | y + 1 => if st cs (y * W + col) = 0 then some (y * W + col) else fal cs W col y
def fI : Option Nat → Int
  | none => -1
  | some p => (p : Int)
theorem fal_some {cs : List Nat} {W col p : Nat} : ∀ {H : Nat}, fal cs W col H = some p → ∃ y, y < H ∧ p = y * W + col ∧ st cs p = 0 ∧ ∀ y', y < y' → y' < H → st cs (y' * W + col) ≠ 0
  | 0, h => by cases h
  | H + 1, h => by
    unfold fal at h
    by_cases h0 : st cs (H * W + col) = 0
    · rw [if_pos h0] at h
      injection h with h
      subst h
      exact ⟨H, by omega, rfl, h0, fun y' h1 h2 => absurd h1 (by omega)⟩
    · rw [if_neg h0] at h
      obtain ⟨y, h1, h2, h3, h4⟩ := fal_some h
      refine ⟨y, by omega, h2, h3, fun y' h5 h6 => ?_⟩
      rcases Nat.lt_or_ge y' H with h7 | h7
      · exact h4 y' h5 h7
      · obtain rfl : y' = H := by omega
        exact h0
theorem fal_none {cs : List Nat} {W col : Nat} : ∀ {H : Nat}, fal cs W col H = none → ∀ y, y < H → st cs (y * W + col) ≠ 0
  | 0, _, y, hy => absurd hy (Nat.not_lt_zero _)
  | H + 1, h, y, hy => by
    unfold fal at h
    by_cases h0 : st cs (H * W + col) = 0
    · rw [if_pos h0] at h; cases h
    · rw [if_neg h0] at h
      rcases Nat.lt_or_ge y H with h7 | h7
      · exact fal_none h y h7
      · obtain rfl : y = H := by omega
        exact h0
theorem fal_is {cs : List Nat} {W col y : Nat} : ∀ {H : Nat}, y < H → st cs (y * W + col) = 0 → (∀ y', y < y' → y' < H → st cs (y' * W + col) ≠ 0) → fal cs W col H = some (y * W + col)
  | 0, h, _, _ => absurd h (Nat.not_lt_zero _)
  | H + 1, h, h0, h1 => by
    unfold fal
    rcases Nat.lt_or_ge y H with h7 | h7
    · rw [if_neg (h1 H h7 (by omega))]
      exact fal_is h7 h0 fun y' h2 h3 => h1 y' h2 (by omega)
    · obtain rfl : y = H := by omega
      rw [if_pos h0]

/-! ### the best of many -/
def mxO (val : Nat → Option Int) : Nat → Option Int
  | 0 => none
  | c + 1 => match mxO val c, val c with
    | none, v => v
    | some m, none => some m
    | some m, some v => some (max m v)
theorem mxO_none {val : Nat → Option Int} : ∀ {n : Nat}, mxO val n = none ↔ ∀ c, c < n → val c = none
  | 0 => ⟨fun _ c hc => absurd hc (Nat.not_lt_zero _), fun _ => rfl⟩
  | n + 1 => by
    have ih := mxO_none (val := val) (n := n)
    unfold mxO
    cases h1 : mxO val n with
    | none =>
      simp only
      constructor
      · intro h c hc
        rcases Nat.lt_or_ge c n with h2 | h2
        · exact ih.1 h1 c h2
        · obtain rfl : c = n := by omega
          exact h
      · exact fun h => h n (by omega)
    | some m =>
      have : ¬ ∀ c, c < n → val c = none := fun h => by rw [ih.2 h] at h1; cases h1
      cases h2 : val n with
      | none => simp only; exact ⟨fun h => (by cases h), fun h => absurd (fun c hc => h c (by omega)) this⟩
      | some v => simp only; exact ⟨fun h => (by cases h), fun h => absurd (fun c hc => h c (by omega)) this⟩
theorem mxO_some {val : Nat → Option Int} {m : Int} : ∀ {n : Nat}, mxO val n = some m ↔ (∃ c, c < n ∧ val c = some m) ∧ ∀ c v, c < n → val c = some v → v ≤ m
  | 0 => ⟨fun h => (by cases h), fun ⟨⟨c, hc, _⟩, _⟩ => absurd hc (Nat.not_lt_zero _)⟩
  | n + 1 => by
    unfold mxO
    cases h1 : mxO val n with
    | none =>
      have hn := mxO_none.1 h1
      simp only
      constructor
      · intro h
        refine ⟨⟨n, by omega, h⟩, fun c v hc hv => ?_⟩
        rcases Nat.lt_or_ge c n with h2 | h2
        · rw [hn c h2] at hv; cases hv
        · obtain rfl : c = n := by omega
          rw [h] at hv; injection hv with hv; omega
      · rintro ⟨⟨c, hc, hv⟩, _⟩
        rcases Nat.lt_or_ge c n with h2 | h2
        · rw [hn c h2] at hv; cases hv
        · obtain rfl : c = n := by omega
          exact hv
    | some m1 =>
      obtain ⟨⟨c1, hc1, hv1⟩, hm1⟩ := (mxO_some (m := m1)).1 h1
      cases h2 : val n with
      | none =>
        simp only
        constructor
        · intro h; injection h with h; subst h
          refine ⟨⟨c1, by omega, hv1⟩, fun c v hc hv => ?_⟩
          rcases Nat.lt_or_ge c n with h3 | h3
          · exact hm1 c v h3 hv
          · obtain rfl : c = n := by omega
            rw [h2] at hv; cases hv
        · rintro ⟨⟨c, hc, hv⟩, hm⟩
          rcases Nat.lt_or_ge c n with h3 | h3
          · have a1 := hm1 c m h3 hv
            have a2 := hm c1 m1 (by omega) hv1
            have : m1 = m := by omega
            rw [this]
          · obtain rfl : c = n := by omega
            rw [h2] at hv; cases hv
      | some v1 =>
        simp only
        constructor
        · intro h; injection h with h; subst h
          refine ⟨?_, fun c v hc hv => ?_⟩
          · rcases Int.lt_or_le m1 v1 with h3 | h3
            · exact ⟨n, by omega, by rw [h2, show max m1 v1 = v1 by omega]⟩
            · exact ⟨c1, by omega, by rw [hv1, show max m1 v1 = m1 by omega]⟩
          · rcases Nat.lt_or_ge c n with h3 | h3
            · have := hm1 c v h3 hv; omega
            · obtain rfl : c = n := by omega
              rw [h2] at hv; injection hv with hv; omega
        · rintro ⟨⟨c, hc, hv⟩, hm⟩
          have a1 := hm c1 m1 (by omega) hv1
          have a2 := hm n v1 (by omega) h2
          rcases Nat.lt_or_ge c n with h3 | h3
          · have := hm1 c m h3 hv
            have : max m1 v1 = m := by omega
            rw [this]
          · obtain rfl : c = n := by omega
            rw [h2] at hv; injection hv with hv
            have : max m1 v1 = m := by omega
            rw [this]
theorem mxO_rev {val val' : Nat → Option Int} {n : Nat} (h : ∀ c, c < n → val' c = val (n - 1 - c)) : mxO val' n = mxO val n := by
  cases h1 : mxO val n with
  | none =>
    rw [mxO_none] at h1 ⊢
    exact fun c hc => by rw [h c hc]; exact h1 _ (by omega)
  | some m =>
    rw [mxO_some] at h1 ⊢
    obtain ⟨⟨c, hc, hv⟩, hm⟩ := h1
    refine ⟨⟨n - 1 - c, by omega, ?_⟩, fun c v hc hv => ?_⟩
    · rw [h _ (by omega), show n - 1 - (n - 1 - c) = c by omega]; exact hv
    · rw [h c hc] at hv; exact hm _ v (by omega) hv
theorem mxO_congr {val val' : Nat → Option Int} {n : Nat} (h : ∀ c, c < n → val' c = val c) : mxO val' n = mxO val n := by
  induction n with
  | zero => rfl
  | succ n ih => unfold mxO; rw [ih fun c hc => h c (by omega), h n (by omega)]
/-- the value of a column. -/
def valF (wb : List Nat → Nat → Bool) (rec : List Nat → Nat → Int) (W H ply : Nat) (cs : List Nat) (who c : Nat) : Option Int := match fal cs W c H with
  | none => none
  | some a => some (if wb (cs.set a who) a then 99 - (ply : Int) else -(rec (cs.set a who) (3 - who)))
def mm (wb : List Nat → Nat → Bool) (W H : Nat) : Nat → Nat → List Nat → Nat → Int
  | 0, _, _, _ => 0
  | f + 1, ply, cs, who => (mxO (valF wb (mm wb W H f (ply + 1)) W H ply cs who) W).getD 0
theorem mm_bound (wb : List Nat → Nat → Bool) (W H : Nat) : ∀ (f ply : Nat) (cs : List Nat) (who : Nat), f + ply ≤ 50 → -(99 - (ply : Int)) ≤ mm wb W H f ply cs who ∧ mm wb W H f ply cs who ≤ 99 - (ply : Int)
  | 0, ply, cs, who, h => by unfold mm; omega
  | f + 1, ply, cs, who, h => by
    unfold mm
    cases h1 : mxO (valF wb (mm wb W H f (ply + 1)) W H ply cs who) W with
    | none => simp only [Option.getD_none]; omega
    | some m =>
      simp only [Option.getD_some]
      obtain ⟨⟨c, hc, hv⟩, _⟩ := mxO_some.1 h1
      unfold valF at hv
      cases h2 : fal cs W c H with
      | none => rw [h2] at hv; cases hv
      | some a =>
        rw [h2] at hv
        simp only at hv
        injection hv with hv
        have := mm_bound wb W H f (ply + 1) (cs.set a who) (3 - who) (by omega)
        split at hv <;> omega
/-- what a search within bounds may answer. -/
def AB (v low high r : Int) : Prop := (high ≤ r → r ≤ v) ∧ (r ≤ low → v ≤ r) ∧ (low < r → r < high → r = v)
theorem AB.same (v low high : Int) : AB v low high v := ⟨fun _ => Int.le_refl _, fun _ => Int.le_refl _, fun _ _ => rfl⟩
/-- how the loop over columns stands. -/
def AbI (M : Option Int) (low high best : Int) (wh : Int) : Prop := match M with
  | none => best = -1000 ∧ wh = -1
  | some m => -100 ≤ best ∧ best ≤ 100 ∧ 0 ≤ wh ∧ AB m low high best
def mxS : Option Int → Int → Option Int
  | none, v => some v
  | some m, v => some (max m v)
theorem AbI.next {M : Option Int} {low high best wh v n : Int} {c : Nat} (h : AbI M low high best wh) (hb : best < high) (hl : -1000 ≤ low) (hn : -100 ≤ n ∧ n ≤ 100) (hv : AB (-v) (-high) (-(max low best)) (-n) ∨ n = v) :
    AbI (mxS M v) low high (if best < n then n else best) (if best < n then (c : Int) else wh) := by
  cases M with
  | none =>
    obtain ⟨rfl, rfl⟩ := h
    rw [if_pos (by omega), if_pos (by omega)]
    refine ⟨hn.1, hn.2, by omega, ?_⟩
    rcases hv with ⟨h1, h2, h3⟩ | rfl
    · refine ⟨fun h => ?_, fun h => ?_, fun h h' => ?_⟩
      · have := h2 (by omega); omega
      · have := h1 (by omega); omega
      · have := h3 (by omega) (by omega); omega
    · exact AB.same _ _ _
  | some m =>
    obtain ⟨h1, h2, h3, h4, h5, h6⟩ := h
    unfold mxS
    by_cases hc : best < n
    · rw [if_pos hc, if_pos hc]
      refine ⟨hn.1, hn.2, by omega, ?_⟩
      rcases hv with ⟨k1, k2, k3⟩ | rfl
      · refine ⟨fun h => ?_, fun h => ?_, fun h h' => ?_⟩
        · have := k2 (by omega); omega
        · have a1 := k1 (by omega); have a2 := h5 (by omega); omega
        · have a1 := k3 (by omega) (by omega)
          rcases Int.lt_or_le low best with h7 | h7
          · have := h6 h7 hb; omega
          · have := h5 h7; omega
      · refine ⟨fun h => by omega, fun h => ?_, fun h h' => ?_⟩
        · have a2 := h5 (by omega); omega
        · rcases Int.lt_or_le low best with h7 | h7
          · have := h6 h7 hb; omega
          · have := h5 h7; omega
    · rw [if_neg hc, if_neg hc]
      refine ⟨h1, h2, h3, ?_⟩
      have hvn : v ≤ n := by
        rcases hv with ⟨k1, k2, k3⟩ | rfl
        · have := k1 (by omega); omega
        · omega
      refine ⟨fun h => absurd h (by omega), fun h => ?_, fun h h' => ?_⟩
      · have := h5 h; omega
      · have := h6 h h'; omega
theorem mxO_mono {val : Nat → Option Int} {m : Int} {c n : Nat} (h : mxO val c = some m) (hc : c ≤ n) : ∃ m', mxO val n = some m' ∧ m ≤ m' := by
  obtain ⟨⟨c1, hc1, hv1⟩, _⟩ := mxO_some.1 h
  cases h1 : mxO val n with
  | none => have := mxO_none.1 h1 c1 (by omega); rw [hv1] at this; cases this
  | some m' => exact ⟨m', rfl, (mxO_some.1 h1).2 c1 m (by omega) hv1⟩
end Go.Proofs.Ytfoojdkbonmmgaa
