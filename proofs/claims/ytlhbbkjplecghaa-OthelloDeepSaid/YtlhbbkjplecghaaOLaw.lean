/- Othello, plain: a mirrored board has the mirrored places; what a move changes; no program in sight. -/
import Derived.Test.YtlhbbkjplecghaaOMir
namespace Go.Proofs.Ytlhbbkjplecghaa

theorem mirN_len (s : List Nat) (a : Nat) : ∀ n, (mirN s a n).length = n := by
  intro n
  induction n with
  | zero => rfl
  | succ n ih => simp [mirN, ih]
theorem mirN_st (s : List Nat) (a : Nat) : ∀ n i, i < n → st (mirN s a n) i = st s (mirP a i) := by
  intro n
  induction n with
  | zero => intro i h; omega
  | succ n ih =>
    intro i h
    have hl := mirN_len s a n
    by_cases e : i < n
    · rw [← ih i e]
      simp [st, mirN, List.getElem?_append, hl, e]
    · have : i = n := by omega
      subst this
      unfold st
      rw [mirN, List.getElem?_append_right (Nat.le_of_eq hl), hl]
      simp [st]
theorem mirP_pl {a b : Nat} {x y : Int} (h : inb a b x y) : mirP a (pl a x y) = pl a ((a : Int) - 1 - x) y := by
  obtain ⟨h1, h2, h3, h4⟩ := h
  unfold mirP pl
  have hx : x.toNat < a := by omega
  have e1 : (y.toNat * a + x.toNat) / a = y.toNat := by
    rw [Nat.add_comm, Nat.add_mul_div_right _ _ (by omega), Nat.div_eq_of_lt hx, Nat.zero_add]
  have e2 : (y.toNat * a + x.toNat) % a = x.toNat := by
    rw [Nat.add_comm, Nat.add_mul_mod_self_right, Nat.mod_eq_of_lt hx]
  rw [e1, e2]
  have e3 : ((a : Int) - 1 - x).toNat = a - 1 - x.toNat := by omega
  rw [e3]
  omega
theorem mirP_div {a i : Nat} (ha : 1 ≤ a) : mirP a i / a = i / a := by
  have h1 : i % a < a := Nat.mod_lt _ (by omega)
  unfold mirP
  have e : i / a * a + a - 1 - i % a = (a - 1 - i % a) + i / a * a := by omega
  rw [e, Nat.add_mul_div_right _ _ (by omega), Nat.div_eq_of_lt (by omega), Nat.zero_add]
theorem mirP_mod {a i : Nat} (ha : 1 ≤ a) : mirP a i % a = a - 1 - i % a := by
  have h1 : i % a < a := Nat.mod_lt _ (by omega)
  unfold mirP
  have e : i / a * a + a - 1 - i % a = (a - 1 - i % a) + i / a * a := by omega
  rw [e, Nat.add_mul_mod_self_right, Nat.mod_eq_of_lt (by omega)]
theorem mirP_mirP {a i : Nat} (ha : 1 ≤ a) : mirP a (mirP a i) = i := by
  have h1 : i % a < a := Nat.mod_lt _ (by omega)
  have h2 := Nat.div_add_mod i a
  rw [Nat.mul_comm] at h2
  show mirP a i / a * a + a - 1 - mirP a i % a = i
  rw [mirP_div ha, mirP_mod ha]
  omega
theorem inb_mir {a b : Nat} {x y : Int} : inb a b ((a : Int) - 1 - x) y ↔ inb a b x y := by
  unfold inb
  constructor <;> (rintro ⟨h1, h2, h3, h4⟩; exact ⟨by omega, by omega, h3, h4⟩)
theorem ray_mir (s : List Nat) (a b who : Nat) (dx dy : Int) (ha : 1 ≤ a) : ∀ (f : Nat) (x y : Int) (acc : List Nat),
    rayL (mirN s a (a * b)) a b who (-dx) dy f ((a : Int) - 1 - x) y (acc.map (mirP a)) = (rayL s a b who dx dy f x y acc).map (mirP a) := by
  intro f
  induction f with
  | zero => intro x y acc; simp [rayL]
  | succ f ih =>
    intro x y acc
    have e : (a : Int) - 1 - x + -dx = (a : Int) - 1 - (x + dx) := by omega
    rw [rayL, rayL, e]
    by_cases h : inb a b (x + dx) (y + dy)
    · rw [if_pos h, if_pos (inb_mir.2 h), ← mirP_pl h]
      have hlt : mirP a (pl a (x + dx) (y + dy)) < a * b := mirP_lt ha (pl_lt h)
      rw [mirN_st _ _ _ _ hlt, mirP_mirP ha]
      have := ih (x + dx) (y + dy) (acc ++ [pl a (x + dx) (y + dy)])
      rw [List.map_append, List.map_singleton] at this
      rw [this]
      split
      · rfl
      · split
        · rfl
        · rfl
    · rw [if_neg h, if_neg (fun h' => h (inb_mir.1 h'))]
      rfl
def dm (j : Nat) : Nat := [4, 3, 2, 1, 0, 7, 6, 5][j]?.getD 0
theorem dm_ok : ∀ j, j < 8 → dm j < 8 ∧ dm (dm j) = j ∧ dxs (dm j) = -dxs j ∧ dys (dm j) = dys j := by decide
theorem rayAt_mir (s : List Nat) (a b who at0 j : Nat) (ha : 1 ≤ a) (hj : j < 8) : rayAt (mirN s a (a * b)) a b who (mirP a at0) (dm j) = (rayAt s a b who at0 j).map (mirP a) := by
  unfold rayAt
  obtain ⟨_, _, h3, h4⟩ := dm_ok j hj
  have h1 : at0 % a < a := Nat.mod_lt _ (by omega)
  rw [h3, h4, mirP_div ha, mirP_mod ha, show ((a - 1 - at0 % a : Nat) : Int) = (a : Int) - 1 - ((at0 % a : Nat) : Int) by omega]
  exact ray_mir s a b who _ _ ha 11 _ _ []
theorem turnedN_nil (s : List Nat) (a b who at0 : Nat) : ∀ n, turnedN s a b who at0 n = [] ↔ ∀ j, j < n → rayAt s a b who at0 j = [] := by
  intro n
  induction n with
  | zero => simp [turnedN]
  | succ n ih =>
    rw [turnedN, List.append_eq_nil_iff, ih]
    constructor
    · rintro ⟨h1, h2⟩ j hj
      by_cases e : j < n
      · exact h1 j e
      · have : j = n := by omega
        rw [this]; exact h2
    · intro h
      exact ⟨fun j hj => h j (by omega), h n (by omega)⟩
theorem turned_mir (s : List Nat) (a b who at0 : Nat) (ha : 1 ≤ a) (hat : at0 < a * b) : turnedS (mirN s a (a * b)) a b who (mirP a at0) = [] ↔ turnedS s a b who at0 = [] := by
  unfold turnedS
  rw [mirN_st _ _ _ _ (mirP_lt ha hat), mirP_mirP ha]
  split
  · rw [turnedN_nil, turnedN_nil]
    constructor
    · intro h j hj
      have := h (dm j) (dm_ok j hj).1
      rw [rayAt_mir s a b who at0 j ha hj] at this
      simpa using this
    · intro h j hj
      obtain ⟨h1, h2, _, _⟩ := dm_ok j hj
      have := rayAt_mir s a b who at0 (dm j) ha h1
      rw [h2, h _ h1] at this
      simpa using this
  · simp
theorem places_mem (s : List Nat) (a b who : Nat) : ∀ n p, p ∈ placesN s a b who n ↔ p < n ∧ turnedS s a b who p ≠ [] := by
  intro n
  induction n with
  | zero => intro p; simp [placesN]
  | succ n ih =>
    intro p
    rw [placesN, List.mem_append, ih]
    by_cases h : turnedS s a b who n = []
    · rw [if_pos h]
      constructor
      · rintro (⟨h1, h2⟩ | h1)
        · exact ⟨by omega, h2⟩
        · simp at h1
      · rintro ⟨h1, h2⟩
        refine .inl ⟨?_, h2⟩
        have : p ≠ n := by rintro rfl; exact h2 h
        omega
    · rw [if_neg h, List.mem_singleton]
      constructor
      · rintro (⟨h1, h2⟩ | rfl)
        · exact ⟨by omega, h2⟩
        · exact ⟨by omega, h⟩
      · rintro ⟨h1, h2⟩
        by_cases e : p = n
        · exact .inr e
        · exact .inl ⟨by omega, h2⟩
theorem places_nodup (s : List Nat) (a b who : Nat) : ∀ n, (placesN s a b who n).Nodup := by
  intro n
  induction n with
  | zero => simp [placesN]
  | succ n ih =>
    rw [placesN, List.nodup_append]
    refine ⟨ih, by split <;> simp, ?_⟩
    intro x hx y hy
    have := ((places_mem s a b who n x).1 hx).1
    split at hy
    · simp at hy
    · rw [List.mem_singleton] at hy; omega
theorem nodup_len : ∀ (xs ys : List Nat), xs.Nodup → (∀ x ∈ xs, x ∈ ys) → xs.length ≤ ys.length := by
  intro xs
  induction xs with
  | nil => intro ys _ _; simp
  | cons x xs ih =>
    intro ys h hs
    rw [List.nodup_cons] at h
    have hx := hs x (by simp)
    have := ih (ys.erase x) h.2 (fun y hy => (List.mem_erase_of_ne (by rintro rfl; exact h.1 hy)).2 (hs y (by simp [hy])))
    rw [List.length_erase_of_mem hx] at this
    have h0 : 0 < ys.length := List.length_pos_of_mem hx
    simp; omega
theorem map_nodup {f : Nat → Nat} (hf : ∀ x, f (f x) = x) : ∀ (xs : List Nat), xs.Nodup → (xs.map f).Nodup := by
  intro xs
  induction xs with
  | nil => intro _; simp
  | cons x xs ih =>
    intro h
    rw [List.nodup_cons] at h
    rw [List.map_cons, List.nodup_cons]
    refine ⟨?_, ih h.2⟩
    intro hm
    obtain ⟨y, hy, e⟩ := List.mem_map.1 hm
    have : y = x := by rw [← hf y, e, hf]
    rw [this] at hy
    exact h.1 hy
theorem places_mir_mem (s : List Nat) (a b who : Nat) (ha : 1 ≤ a) {p : Nat} (h : p ∈ placesN s a b who (a * b)) : mirP a p ∈ placesN (mirN s a (a * b)) a b who (a * b) := by
  obtain ⟨h1, h2⟩ := (places_mem _ _ _ _ _ _).1 h
  exact (places_mem _ _ _ _ _ _).2 ⟨mirP_lt ha h1, fun e => h2 ((turned_mir s a b who p ha h1).1 e)⟩
theorem places_mir_len (s : List Nat) (a b who : Nat) (ha : 1 ≤ a) : (placesN (mirN s a (a * b)) a b who (a * b)).length = (placesN s a b who (a * b)).length := by
  refine Nat.le_antisymm ?_ ?_
  · have := nodup_len ((placesN (mirN s a (a * b)) a b who (a * b)).map (mirP a)) (placesN s a b who (a * b)) (map_nodup (fun x => mirP_mirP ha) _ (places_nodup _ _ _ _ _)) (fun x hx => by
      obtain ⟨y, hy, rfl⟩ := List.mem_map.1 hx
      obtain ⟨h1, h2⟩ := (places_mem _ _ _ _ _ _).1 hy
      refine (places_mem _ _ _ _ _ _).2 ⟨mirP_lt ha h1, fun e => h2 ?_⟩
      have := (turned_mir s a b who (mirP a y) ha (mirP_lt ha h1)).2 e
      rwa [mirP_mirP ha] at this)
    rwa [List.length_map] at this
  · have := nodup_len ((placesN s a b who (a * b)).map (mirP a)) (placesN (mirN s a (a * b)) a b who (a * b)) (map_nodup (fun x => mirP_mirP ha) _ (places_nodup _ _ _ _ _)) (fun x hx => by
      obtain ⟨y, hy, rfl⟩ := List.mem_map.1 hx
      exact places_mir_mem s a b who ha hy)
    rwa [List.length_map] at this
/-- how many places below j a move at 'at0' turns. -/
def turnCnt (T : List Nat) (at0 : Nat) : Nat → Nat
  | 0 => 0
  | j + 1 => turnCnt T at0 j + if j ≠ at0 ∧ j ∈ T then 1 else 0
theorem turnCnt_le (T : List Nat) (at0 : Nat) : ∀ j, turnCnt T at0 j ≤ j := by
  intro j
  induction j with
  | zero => simp [turnCnt]
  | succ j ih => rw [turnCnt]; split <;> omega
theorem turnCnt_pos (T : List Nat) (at0 p : Nat) (h : p ∈ T) (hp : p ≠ at0) : ∀ j, p < j → 1 ≤ turnCnt T at0 j := by
  intro j
  induction j with
  | zero => intro h; omega
  | succ j ih =>
    intro hj
    rw [turnCnt]
    by_cases e : p = j
    · subst e; rw [if_pos ⟨hp, h⟩]; omega
    · have := ih (by omega); omega
theorem turned_cnt (s : List Nat) (a b who at0 : Nat) (hw2 : who ≤ 2) (h : turnedS s a b who at0 ≠ []) : st s at0 = 0 ∧ 1 ≤ turnCnt (turnedS s a b who at0) at0 (a * b) := by
  have h0 : st s at0 = 0 := by
    by_cases e : st s at0 = 0
    · exact e
    · unfold turnedS at h; rw [if_neg e] at h; exact absurd rfl h
  refine ⟨h0, ?_⟩
  obtain ⟨p, hp⟩ := List.exists_mem_of_ne_nil _ h
  obtain ⟨h1, h2⟩ := turned_mem s a b who at0 p hp
  exact turnCnt_pos _ _ p hp (by rintro rfl; omega) _ h2
theorem four_places : placesN four0 4 4 1 16 = [1, 4, 11, 14] := by decide +kernel
theorem four_st : ∀ j, st four0 j ≤ 2 := by
  intro j
  by_cases h : j < 16
  · revert j; decide +kernel
  · unfold st
    rw [List.getElem?_eq_none (by simp [four0]; omega)]; simp
end Go.Proofs.Ytlhbbkjplecghaa
