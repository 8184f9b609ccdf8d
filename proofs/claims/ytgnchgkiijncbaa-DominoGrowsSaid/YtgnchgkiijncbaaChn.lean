/- Plain laws on Hierholzer's walk: a row of pieces that fit is walked whole; no program's step in sight, no conditions but those typed. -/
import Derived.Test.YtgnchgkiijncbaaRowW
namespace Go.Proofs.Ytgnchgkiijncbaa

def touch (ps : List Piece) (i v : Nat) : Prop := (pc ps i).1 = v ∨ (pc ps i).2 = v
theorem us_set (u : List Bool) (i k : Nat) (hi : i < u.length) : us (u.set i true) k = (decide (k = i) || us u k) := by
  unfold us
  by_cases e : k = i
  · subst e; rw [List.getElem?_set_self hi]; simp
  · rw [List.getElem?_set_ne (fun h => e h.symm)]; simp [e]
theorem faced_end {p : Piece} {a v : Nat} (h : p.1 = a ∨ p.2 = a) (hv : p.1 = v ∨ p.2 = v) : v = a ∨ v = (faced p a).2 := by
  unfold faced
  by_cases e : p.1 = a
  · rw [if_pos e]; rcases hv with h | h
    · left; omega
    · right; exact h.symm
  · rw [if_neg e]; rcases hv with h | h
    · right; exact h.symm
    · left; omega

/-- what a walk from a number did: all pieces at it are used, and all that touch what was used. -/
structure Did (ps : List Piece) (s t : WSt) (a : Nat) : Prop where
  len : t.1.length = s.1.length
  mono : ∀ i, us s.1 i = true → us t.1 i = true
  at_ : ∀ i, i < ps.length → touch ps i a → us t.1 i = true
  new : ∀ i, i < ps.length → us s.1 i = false → us t.1 i = true → ∀ v, touch ps i v → ∀ j, j < ps.length → touch ps j v → us t.1 j = true
  many : t.2.length + unused t.1 = s.2.length + unused s.1
  less : unused t.1 ≤ unused s.1
structure Part (ps : List Piece) (s t : WSt) (a n : Nat) : Prop where
  len : t.1.length = s.1.length
  mono : ∀ i, us s.1 i = true → us t.1 i = true
  at_ : ∀ i, i < n → touch ps i a → us t.1 i = true
  new : ∀ i, i < ps.length → us s.1 i = false → us t.1 i = true → ∀ v, touch ps i v → v = a ∨ ∀ j, j < ps.length → touch ps j v → us t.1 j = true
  many : t.2.length + unused t.1 = s.2.length + unused s.1
  less : unused t.1 ≤ unused s.1

theorem walkN_part {ps : List Piece} {rec : Nat → WSt → WSt} {a : Nat} {s : WSt} (hl : s.1.length = ps.length) (m : Nat) (hu : unused s.1 ≤ m)
    (IH : ∀ b s', s'.1.length = ps.length → unused s'.1 < m → Did ps s' (rec b s') b) : ∀ n, n ≤ ps.length → Part ps s (walkN ps rec a s n) a n := by
  intro n
  induction n with
  | zero => exact fun _ => ⟨rfl, fun _ h => h, fun i h => absurd h (by omega), fun i _ h1 h2 => by simp [walkN, h1] at h2, rfl, Nat.le_refl _⟩
  | succ n ih =>
    intro hn
    have P := ih (by omega)
    rw [walkN_succ]
    generalize walkN ps rec a s n = t at *
    unfold stepR
    by_cases hf : fits ps a t n = true
    · rw [if_pos hf]
      simp only [fits, Bool.and_eq_true, Bool.not_eq_true', Bool.or_eq_true, beq_iff_eq] at hf
      obtain ⟨hun, hta⟩ := hf
      have hnl : n < t.1.length := by rw [P.len, hl]; omega
      have hset := unused_set hnl hun
      have D := IH (faced (pc ps n) a).2 (t.1.set n true, t.2) (by simp only [List.length_set]; rw [P.len, hl]) (by have := P.less; simp only; omega)
      have hm0 : ∀ i, us t.1 i = true → us (t.1.set n true) i = true := fun i h => by rw [us_set _ _ _ hnl, h]; simp
      have hm1 : us (t.1.set n true) n = true := by rw [us_set _ _ _ hnl]; simp
      show Part ps s ((rec (faced (pc ps n) a).2 (t.1.set n true, t.2)).1, (rec (faced (pc ps n) a).2 (t.1.set n true, t.2)).2 ++ [faced (pc ps n) a]) a (n + 1)
      generalize rec (faced (pc ps n) a).2 (t.1.set n true, t.2) = r at *
      have hm2 : ∀ i, us t.1 i = true → us r.1 i = true := fun i h => D.mono i (hm0 i h)
      refine ⟨?_, fun i h => hm2 i (P.mono i h), fun i hi ht => ?_, fun i hi h1 h2 v hv => ?_, ?_, ?_⟩
      · have := D.len; simp only [List.length_set] at this ⊢; rw [this, P.len]
      · by_cases e : i = n
        · rw [e]; exact D.mono n hm1
        · exact hm2 i (P.at_ i (by omega) ht)
      · by_cases hti : us t.1 i = true
        · rcases P.new i hi h1 hti v hv with h | h
          · exact .inl h
          · exact .inr fun j hj htj => hm2 j (h j hj htj)
        · by_cases e : i = n
          · subst e
            rcases faced_end hta hv with h | h
            · exact .inl h
            · exact .inr fun j hj htj => D.at_ j hj (h ▸ htj)
          · exact .inr (D.new i hi (by simp only; rw [us_set _ _ _ hnl]; simp [e]; simpa using hti) h2 v hv)
      · have := D.many; have := P.many; simp only [List.length_append, List.length_singleton] at *; omega
      · have := D.less; have := P.less; simp only at *; omega
    · rw [if_neg hf]
      refine ⟨P.len, P.mono, fun i hi ht => ?_, P.new, P.many, P.less⟩
      by_cases e : i = n
      · subst e
        simp only [fits, Bool.and_eq_true, Bool.not_eq_true', Bool.or_eq_true, beq_iff_eq, not_and] at hf
        cases h : us t.1 i with
        | true => rfl
        | false => exact absurd ht (hf h)
      · exact P.at_ i (by omega) ht
theorem walkN_did {ps : List Piece} {rec : Nat → WSt → WSt} {a : Nat} {s : WSt} (hl : s.1.length = ps.length) (m : Nat) (hu : unused s.1 ≤ m)
    (IH : ∀ b s', s'.1.length = ps.length → unused s'.1 < m → Did ps s' (rec b s') b) : Did ps s (walkN ps rec a s ps.length) a := by
  have P := walkN_part (a := a) hl m hu IH ps.length (Nat.le_refl _)
  exact ⟨P.len, P.mono, P.at_, fun i hi h1 h2 v hv => (P.new i hi h1 h2 v hv).elim (fun e => by rw [e]; exact P.at_) id, P.many, P.less⟩
theorem walkS_did (ps : List Piece) : ∀ (f a : Nat) (s : WSt), s.1.length = ps.length → unused s.1 ≤ f → Did ps s (walkS ps f a s) a := by
  intro f
  induction f with
  | zero => exact fun a s hl hu => walkN_did hl 0 hu fun b s' _ h => absurd h (by omega)
  | succ f ih => exact fun a s hl hu => walkN_did hl (f + 1) hu fun b s' h1 h2 => ih b s' h1 (by omega)

/-- pieces that fit, one to the next. -/
def Chain (ps : List Piece) : Prop := ∀ i, i + 1 < ps.length → (pc ps i).2 = (pc ps (i + 1)).1
theorem chain_all {ps : List Piece} (hc : Chain ps) {s t : WSt} {a k : Nat} (D : Did ps s t a) (hs : ∀ i, us s.1 i = false) (hk : k < ps.length) (ht : touch ps k a) : ∀ i, i < ps.length → us t.1 i = true := by
  have h0 := D.at_ k hk ht
  have up : ∀ d, k + d < ps.length → us t.1 (k + d) = true := by
    intro d
    induction d with
    | zero => exact fun _ => h0
    | succ d ih => exact fun h => D.new (k + d) (by omega) (hs _) (ih (by omega)) (pc ps (k + d)).2 (.inr rfl) (k + (d + 1)) h (.inl (hc (k + d) (by omega)).symm)
  have down : ∀ d, d ≤ k → us t.1 (k - d) = true := by
    intro d
    induction d with
    | zero => exact fun _ => h0
    | succ d ih =>
      intro h
      have e := hc (k - (d + 1)) (by omega)
      rw [show k - (d + 1) + 1 = k - d by omega] at e
      exact D.new (k - d) (by omega) (hs _) (ih (by omega)) (pc ps (k - d)).1 (.inl rfl) (k - (d + 1)) (by omega) (.inr e)
  intro i hi
  by_cases h : k ≤ i
  · have := up (i - k) (by omega); rwa [show k + (i - k) = i by omega] at this
  · have := down (k - i) (by omega); rwa [show k - (k - i) = i by omega] at this
theorem bump_at (e : List Nat) (a v : Nat) (ha : a < e.length) : (bump e a)[v]?.getD 0 = e[v]?.getD 0 + if v = a then 1 else 0 := by
  unfold bump
  by_cases h : v = a
  · subst h; rw [List.getElem?_set_self ha]; simp
  · rw [List.getElem?_set_ne (fun e => h e.symm)]; simp [h]
theorem ends_at (ps : List Piece) (hp : ∀ i, i < ps.length → (pc ps i).1 ≤ 9 ∧ (pc ps i).2 ≤ 9) (j v : Nat) (hj : j < ps.length) :
    (endsN ps (j + 1))[v]?.getD 0 = (endsN ps j)[v]?.getD 0 + (if v = (pc ps j).1 then 1 else 0) + if v = (pc ps j).2 then 1 else 0 := by
  have h := hp j hj
  have hl := (ends_bd ps j (by omega)).1
  rw [endsN_succ ps j hj, bump_at _ _ _ (by rw [bump_len, hl]; omega), bump_at _ _ _ (by rw [hl]; omega)]
theorem ends_zero (ps : List Piece) (v : Nat) : (endsN ps 0)[v]?.getD 0 = 0 := by
  have : endsN ps 0 = List.replicate 10 0 := by simp [endsN]
  rw [this, List.getElem?_replicate]; split <;> simp
theorem ends_touch (ps : List Piece) (hp : ∀ i, i < ps.length → (pc ps i).1 ≤ 9 ∧ (pc ps i).2 ≤ 9) (v : Nat) : ∀ j, j ≤ ps.length → (endsN ps j)[v]?.getD 0 ≠ 0 → ∃ k, k < j ∧ touch ps k v := by
  intro j
  induction j with
  | zero => exact fun _ h => absurd (ends_zero ps v) h
  | succ j ih =>
    intro hj h
    rw [ends_at ps hp j v (by omega)] at h
    by_cases h1 : v = (pc ps j).1
    · exact ⟨j, by omega, .inl h1.symm⟩
    · by_cases h2 : v = (pc ps j).2
      · exact ⟨j, by omega, .inr h2.symm⟩
      · rw [if_neg h1, if_neg h2] at h
        obtain ⟨k, hk, ht⟩ := ih (by omega) (by omega)
        exact ⟨k, by omega, ht⟩
theorem ends_par {ps : List Piece} (hc : Chain ps) (hp : ∀ i, i < ps.length → (pc ps i).1 ≤ 9 ∧ (pc ps i).2 ≤ 9) (v : Nat) : ∀ j, j < ps.length →
    (endsN ps (j + 1))[v]?.getD 0 % 2 = ((if v = (pc ps 0).1 then 1 else 0) + if v = (pc ps j).2 then 1 else 0) % 2 := by
  intro j
  induction j with
  | zero => intro hj; rw [ends_at ps hp 0 v hj, ends_zero]; omega
  | succ j ih =>
    intro hj
    have h := ih (by omega)
    rw [ends_at ps hp (j + 1) v hj, ← hc j hj]
    generalize (endsN ps (j + 1))[v]?.getD 0 = x at *
    generalize (if v = (pc ps j).2 then 1 else 0) = y at *
    omega
theorem odds_where (e : List Nat) (s0 : Nat) : ∀ j, (oddsN e s0 j).1 = s0 ∨ e[(oddsN e s0 j).1]?.getD 0 % 2 = 1 := by
  intro j
  induction j with
  | zero => exact .inl rfl
  | succ j ih =>
    rw [oddsN_succ]
    by_cases h : e[j]?.getD 0 % 2 = 1
    · rw [if_pos h]; exact .inr h
    · rw [if_neg h]; exact ih
theorem odds_two (e : List Nat) (s0 x y : Nat) (h : ∀ v, e[v]?.getD 0 % 2 = 1 → v = x ∨ v = y) : ∀ j, (oddsN e s0 j).2 ≤ (if x < j then 1 else 0) + if y < j then 1 else 0 := by
  intro j
  induction j with
  | zero => exact Nat.zero_le _
  | succ j ih =>
    rw [oddsN_succ]
    by_cases ho : e[j]?.getD 0 % 2 = 1
    · rw [if_pos ho]
      simp only
      rcases h j ho with rfl | rfl
      · by_cases e2 : y < j
        · rw [if_neg (by omega), if_pos e2] at ih; rw [if_pos (by omega), if_pos (by omega)]; omega
        · rw [if_neg (by omega), if_neg e2] at ih; rw [if_pos (by omega)]; omega
      · by_cases e2 : x < j
        · rw [if_pos e2, if_neg (by omega)] at ih; rw [if_pos (by omega), if_pos (by omega)]; omega
        · rw [if_neg e2, if_neg (by omega)] at ih; rw [if_pos (show j < j + 1 by omega)]; omega
    · rw [if_neg ho]
      have h1 : (if x < j then 1 else 0) ≤ if x < j + 1 then 1 else 0 := by split <;> split <;> omega
      have h2 : (if y < j then 1 else 0) ≤ if y < j + 1 then 1 else 0 := by split <;> split <;> omega
      omega
theorem unused_rep (n : Nat) : unused (List.replicate n false) = n := by unfold unused; rw [List.count_replicate_self]
/-- a row of pieces that fit can be laid to one row. -/
theorem chain_row {ps : List Piece} (hc : Chain ps) (hp : ∀ i, i < ps.length → (pc ps i).1 ≤ 9 ∧ (pc ps i).2 ≤ 9) : rowS ps = (ps.length, 0) := by
  by_cases h0 : ps = []
  · subst h0; rfl
  have hn : 0 < ps.length := List.length_pos_iff.2 h0
  unfold rowS
  have ho : (oddsN (endsN ps ps.length) (pc ps 0).1 10).2 ≤ 2 := by
    have := odds_two (endsN ps ps.length) (pc ps 0).1 (pc ps 0).1 (pc ps (ps.length - 1)).2 (fun v hv => by
      have h := ends_par hc hp v (ps.length - 1) (by omega)
      rw [show ps.length - 1 + 1 = ps.length by omega, hv] at h
      by_cases e : v = (pc ps 0).1
      · exact .inl e
      · by_cases e2 : v = (pc ps (ps.length - 1)).2
        · exact .inr e2
        · rw [if_neg e, if_neg e2] at h; omega) 10
    split at this <;> split at this <;> omega
  rw [if_neg h0, if_neg (by omega)]
  have hst : ∃ k, k < ps.length ∧ touch ps k (oddsN (endsN ps ps.length) (pc ps 0).1 10).1 := by
    rcases odds_where (endsN ps ps.length) (pc ps 0).1 10 with h | h
    · exact ⟨0, hn, .inl h.symm⟩
    · exact ends_touch ps hp _ ps.length (Nat.le_refl _) (by omega)
  obtain ⟨k, hk, ht⟩ := hst
  have D : Did ps (List.replicate ps.length false, []) (walked ps) _ := walkS_did ps ps.length _ (List.replicate ps.length false, []) (by simp) (by simp only; rw [unused_rep]; exact Nat.le_refl _)
  have hall := chain_all hc D (fun i => by
    unfold us; simp only
    rw [List.getElem?_replicate]; split <;> rfl) hk ht
  have hl := D.len
  have hm := D.many
  simp only [List.length_replicate, List.length_nil, unused_rep] at hl hm
  have hz : unused (walked ps).1 = 0 := by
    unfold unused
    rw [List.count_eq_zero]
    intro hmem
    obtain ⟨i, hi, he⟩ := List.mem_iff_getElem.1 hmem
    have := hall i (by omega)
    unfold us at this
    rw [List.getElem?_eq_getElem hi, he] at this
    simp at this
  rw [if_neg (by omega), show (walked ps).2.length = ps.length by omega]
end Go.Proofs.Ytgnchgkiijncbaa
