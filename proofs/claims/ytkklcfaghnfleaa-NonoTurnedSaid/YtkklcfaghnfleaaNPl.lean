/- Ways to fill a line, in plain Lean: they part at an open place, fewer places known leave no fewer, and a line that is known whole has one way to fit its own clue. No conditions. -/
namespace Go.Proofs.Ytkklcfaghnfleaa

/-- can a block of k lie at the beginning of l? -/
def fitsS (l : List Int) (k : Nat) : Bool := decide (k ≤ l.length) && ((l.take k).all fun c => c != 0) && (Nat.beq k l.length || decide (l[k]?.getD 0 ≠ 1))
/-- ways to fill l with blocks ks. -/
def WS : List Int → List Nat → Nat
  | [], ks => if ks.isEmpty then 1 else 0
  | x :: xs, [] => if x = 1 then 0 else WS xs []
  | x :: xs, k :: ks => (if x = 1 then 0 else WS xs (k :: ks)) + if fitsS (x :: xs) k then WS (xs.drop k) ks else 0
termination_by l _ => l.length
decreasing_by all_goals (simp; try omega)

theorem WS_nil (ks : List Nat) : WS [] ks = if ks = [] then 1 else 0 := by
  rw [WS]; cases ks <;> simp
theorem WS_cons0 (x : Int) (xs : List Int) : WS (x :: xs) [] = if x = 1 then 0 else WS xs [] := by rw [WS]
theorem WS_cons (x : Int) (xs : List Int) (k : Nat) (ks : List Nat) : WS (x :: xs) (k :: ks) = (if x = 1 then 0 else WS xs (k :: ks)) + if fitsS (x :: xs) k then WS (xs.drop k) ks else 0 := by rw [WS]

theorem WS_bound : ∀ (n : Nat) (l : List Int) (ks : List Nat), l.length ≤ n → WS l ks ≤ 2 ^ l.length := by
  intro n
  induction n with
  | zero =>
    intro l ks h
    obtain rfl := List.length_eq_zero_iff.1 (Nat.le_zero.1 h)
    rw [WS_nil]; split <;> simp
  | succ n ih =>
    intro l ks h
    cases l with
    | nil => rw [WS_nil]; split <;> simp
    | cons x xs =>
      simp only [List.length_cons] at h ⊢
      have hp : 2 ^ (xs.length + 1) = 2 ^ xs.length + 2 ^ xs.length := by rw [Nat.pow_succ]; omega
      cases ks with
      | nil =>
        have h1 := ih xs [] (by omega)
        rw [WS_cons0]
        split <;> omega
      | cons k ks =>
        have h1 := ih xs (k :: ks) (by omega)
        have h2 := ih (xs.drop k) ks (by simp; omega)
        have h3 : 2 ^ (xs.drop k).length ≤ 2 ^ xs.length := Nat.pow_le_pow_right (by omega) (by simp)
        rw [WS_cons]
        split <;> split <;> omega

/-- fits looks only at the first k + 1 places. -/
theorem fits_set_far {l : List Int} {k i : Nat} {v : Int} (h : k < i) : fitsS (l.set i v) k = fitsS l k := by
  unfold fitsS
  rw [List.length_set, List.take_set_of_le (by omega), List.getElem?_set_ne (by omega)]
theorem fits_zero {l : List Int} {k i : Nat} (h : i < k) (hl : i < l.length) : fitsS (l.set i 0) k = false := by
  unfold fitsS
  by_cases hk : k ≤ l.length
  · have : ((l.set i 0).take k).all (fun c => c != 0) = false := by
      rw [List.all_eq_false]
      refine ⟨0, ?_, by simp⟩
      rw [List.mem_iff_getElem?]
      exact ⟨i, by rw [List.getElem?_take, if_pos h, List.getElem?_set_self hl]⟩
    rw [this]; simp
  · simp [hk]
theorem fits_one {l : List Int} {k i : Nat} (h : i < k) (hl : l[i]? = some (-1)) : fitsS (l.set i 1) k = fitsS l k := by
  have hil : i < l.length := (List.getElem?_eq_some_iff.1 hl).1
  unfold fitsS
  rw [List.length_set, List.getElem?_set_ne (by omega)]
  congr 2
  rw [List.take_set]
  rw [Bool.eq_iff_iff, List.all_eq_true, List.all_eq_true]
  have hti : (l.take k)[i]? = some (-1) := by rw [List.getElem?_take, if_pos h, hl]
  constructor
  · intro hh x hx
    obtain ⟨j, hj⟩ := List.mem_iff_getElem?.1 hx
    by_cases e : j = i
    · subst e; rw [hti] at hj; cases hj; decide
    · exact hh x (List.mem_iff_getElem?.2 ⟨j, by rw [List.getElem?_set_ne (fun h => e h.symm)]; exact hj⟩)
  · intro hh x hx
    rcases List.mem_or_eq_of_mem_set hx with hx | rfl
    · exact hh x hx
    · decide
theorem fits_end0 {l : List Int} {k : Nat} (hl : l[k]? = some (-1)) : fitsS (l.set k 0) k = fitsS l k := by
  have hil : k < l.length := (List.getElem?_eq_some_iff.1 hl).1
  unfold fitsS
  rw [List.length_set, List.take_set_of_le (by omega), List.getElem?_set_self hil, hl]
  simp
theorem fits_end1 {l : List Int} {k : Nat} (hl : k < l.length) : fitsS (l.set k 1) k = false := by
  unfold fitsS
  rw [List.length_set, List.getElem?_set_self hl]
  have : Nat.beq k l.length = false := by
    cases h : Nat.beq k l.length with
    | false => rfl
    | true => exact absurd (Nat.eq_of_beq_eq_true h) (by omega)
  rw [this]; simp

/-- the ways part at an open place. -/
theorem WS_part : ∀ (n : Nat) (l : List Int) (ks : List Nat) (i : Nat), l.length ≤ n → (∀ k ∈ ks, 1 ≤ k) → l[i]? = some (-1) → WS l ks = WS (l.set i 1) ks + WS (l.set i 0) ks := by
  intro n
  induction n with
  | zero => intro l ks i h _ hi; obtain rfl := List.length_eq_zero_iff.1 (Nat.le_zero.1 h); simp at hi
  | succ n ih =>
    intro l ks i h hks hi
    cases l with
    | nil => simp at hi
    | cons x xs =>
      simp only [List.length_cons] at h
      cases i with
      | zero =>
        simp only [List.getElem?_cons_zero, Option.some.injEq] at hi
        subst hi
        rw [List.set_cons_zero, List.set_cons_zero]
        cases ks with
        | nil => rw [WS_cons0, WS_cons0, WS_cons0]; simp
        | cons k ks =>
          have hk := hks k (by simp)
          have e1 : fitsS (1 :: xs) k = fitsS (-1 :: xs) k := fits_one (l := -1 :: xs) (i := 0) (by omega) rfl
          have e0 : fitsS (0 :: xs) k = false := fits_zero (l := -1 :: xs) (i := 0) (by omega) (by simp)
          rw [WS_cons, WS_cons, WS_cons, e1, e0]
          simp
          omega
      | succ i =>
        simp only [List.getElem?_cons_succ] at hi
        rw [List.set_cons_succ, List.set_cons_succ]
        cases ks with
        | nil =>
          rw [WS_cons0, WS_cons0, WS_cons0]
          have := ih xs [] i (by omega) (by simp) hi
          split <;> omega
        | cons k ks =>
          have h1 := ih xs (k :: ks) i (by omega) hks hi
          have hks' : ∀ k ∈ ks, 1 ≤ k := fun y hy => hks y (by simp [hy])
          have hil : i < xs.length := (List.getElem?_eq_some_iff.1 hi).1
          rw [WS_cons, WS_cons, WS_cons]
          rcases Nat.lt_trichotomy k (i + 1) with hlt | heq | hgt
          · have e1 : fitsS (x :: xs.set i 1) k = fitsS (x :: xs) k := fits_set_far (l := x :: xs) (i := i + 1) hlt
            have e0 : fitsS (x :: xs.set i 0) k = fitsS (x :: xs) k := fits_set_far (l := x :: xs) (i := i + 1) hlt
            rw [e1, e0]
            have hi2 : (xs.drop k)[i - k]? = some (-1) := by rw [List.getElem?_drop, show k + (i - k) = i by omega]; exact hi
            have h2 := ih (xs.drop k) ks (i - k) (by simp; omega) hks' hi2
            have d1 : (xs.set i 1).drop k = (xs.drop k).set (i - k) 1 := by rw [List.drop_set]; rw [if_neg (by omega)]
            have d0 : (xs.set i 0).drop k = (xs.drop k).set (i - k) 0 := by rw [List.drop_set]; rw [if_neg (by omega)]
            rw [d1, d0]
            split <;> split <;> omega
          · subst heq
            have e1 : fitsS (x :: xs.set i 1) (i + 1) = false := fits_end1 (l := x :: xs) (by simp; omega)
            have e0 : fitsS (x :: xs.set i 0) (i + 1) = fitsS (x :: xs) (i + 1) := fits_end0 (l := x :: xs) (by simpa using hi)
            rw [e1, e0, List.drop_set_of_lt (show i < i + 1 by omega), List.drop_set_of_lt (show i < i + 1 by omega), if_neg (show ¬ (false = true) by simp)]
            split <;> split <;> omega
          · have e1 : fitsS (x :: xs.set i 1) k = fitsS (x :: xs) k := fits_one (l := x :: xs) (i := i + 1) hgt (by simpa using hi)
            have e0 : fitsS (x :: xs.set i 0) k = false := fits_zero (l := x :: xs) (i := i + 1) hgt (by simp; omega)
            rw [e1, e0, List.drop_set_of_lt (show i < k by omega), if_neg (show ¬ (false = true) by simp)]
            split <;> split <;> omega

theorem WS_set_le {l : List Int} {ks : List Nat} {i : Nat} {v : Int} (hks : ∀ k ∈ ks, 1 ≤ k) (hi : l[i]? = some (-1)) (hv : v = 0 ∨ v = 1) : WS (l.set i v) ks ≤ WS l ks := by
  have := WS_part l.length l ks i (Nat.le_refl _) hks hi
  rcases hv with rfl | rfl <;> omega
/-- m knows at least what l knows. -/
def Ref (l m : List Int) : Prop := l.length = m.length ∧ ∀ i, i < l.length → l[i]? = m[i]? ∨ (l[i]? = some (-1) ∧ (m[i]? = some 0 ∨ m[i]? = some 1))
theorem WS_ref {l m : List Int} {ks : List Nat} (hks : ∀ k ∈ ks, 1 ≤ k) (h : Ref l m) : WS m ks ≤ WS l ks := by
  obtain ⟨hl, hr⟩ := h
  have key : ∀ j, j ≤ l.length → WS (m.take j ++ l.drop j) ks ≤ WS l ks := by
    intro j
    induction j with
    | zero => intro _; simp
    | succ j ih =>
      intro hj
      have h1 := ih (by omega)
      have hjl : j < l.length := by omega
      have hjm : j < m.length := by omega
      have e : m.take (j + 1) ++ l.drop (j + 1) = (m.take j ++ l.drop j).set j m[j] := by
        rw [List.set_append_right _ _ (by simp; omega), List.take_succ_eq_append_getElem hjm, List.length_take, Nat.min_eq_left (by omega), Nat.sub_self, List.drop_eq_getElem_cons hjl, List.set_cons_zero, List.append_assoc]
        rfl
      have hat : (m.take j ++ l.drop j)[j]? = l[j]? := by
        rw [List.getElem?_append_right (by simp; omega), List.length_take, Nat.min_eq_left (by omega), Nat.sub_self, List.getElem?_drop]
        rfl
      rw [e]
      rcases hr j hjl with h2 | ⟨h2, h3⟩
      · have : (m.take j ++ l.drop j).set j m[j] = m.take j ++ l.drop j := by
          have hjj : j < (m.take j ++ l.drop j).length := by simp; omega
          have : (m.take j ++ l.drop j)[j] = m[j] := by
            have h4 := List.getElem?_eq_getElem hjj
            rw [hat, h2, List.getElem?_eq_getElem hjm] at h4
            exact (Option.some.inj h4).symm
          rw [← this, List.set_getElem_self]
        rw [this]; exact h1
      · refine Nat.le_trans (WS_set_le hks (by rw [hat]; exact h2) ?_) h1
        rw [List.getElem?_eq_getElem hjm] at h3
        simpa using h3
  have := key l.length (Nat.le_refl _)
  rw [List.drop_length, List.append_nil, hl, List.take_length] at this
  exact this

/-- the blocks of a line. -/
def incH : List Nat → List Nat
  | [] => [1]
  | k :: ks => (k + 1) :: ks
def runs : List Nat → List Nat
  | [] => []
  | 0 :: s => runs s
  | (_ + 1) :: s => if s.headD 0 = 0 then 1 :: runs s else incH (runs s)
def incL : List Nat → List Nat
  | [] => []
  | [k] => [k + 1]
  | k :: k2 :: ks => k :: incL (k2 :: ks)
theorem incL_set : ∀ l : List Nat, l ≠ [] → incL l = l.set (l.length - 1) (l[l.length - 1]?.getD 0 + 1) := by
  intro l
  induction l with
  | nil => intro h; exact absurd rfl h
  | cons k l ih =>
    intro _
    cases l with
    | nil => rfl
    | cons k2 l =>
      have := ih (by simp)
      rw [incL, this]
      simp
theorem incL_incH : ∀ l : List Nat, l ≠ [] → incL (incH l) = incH (incL l) := by
  intro l h
  cases l with
  | nil => exact absurd rfl h
  | cons k l => cases l with
    | nil => rfl
    | cons k2 l => rfl
theorem runs_ne {s : List Nat} (h : s.getLastD 0 ≠ 0) : runs s ≠ [] := by
  induction s with
  | nil => simp at h
  | cons x s ih =>
    cases x with
    | zero =>
      rw [runs]
      apply ih
      cases s with
      | nil => simp at h
      | cons y s => simpa using h
    | succ x =>
      rw [runs]
      split
      · simp
      · cases h2 : runs s <;> simp [incH]
theorem runs_zero (s : List Nat) : runs (s ++ [0]) = runs s := by
  induction s with
  | nil => rfl
  | cons x s ih =>
    rw [List.cons_append]
    cases x with
    | zero => rw [runs, runs, ih]
    | succ x =>
      rw [runs, runs, ih]
      cases s <;> simp
theorem runs_one (s : List Nat) : runs (s ++ [1]) = if s.getLastD 0 = 0 then runs s ++ [1] else incL (runs s) := by
  induction s with
  | nil => rfl
  | cons x s ih =>
    rw [List.cons_append]
    cases x with
    | zero =>
      rw [runs, runs, ih]
      cases s with
      | nil => rfl
      | cons y s => simp
    | succ x =>
      rw [runs, runs, ih]
      cases s with
      | nil => simp [runs, incH, incL]
      | cons y s =>
        have hl : ((x + 1) :: y :: s).getLastD 0 = (y :: s).getLastD 0 := by simp
        rw [hl]
        cases y with
        | zero =>
          show 1 :: (if (0 :: s).getLastD 0 = 0 then runs (0 :: s) ++ [1] else incL (runs (0 :: s))) = if (0 :: s).getLastD 0 = 0 then (1 :: runs (0 :: s)) ++ [1] else incL (1 :: runs (0 :: s))
          by_cases hz : (0 :: s).getLastD 0 = 0
          · rw [if_pos hz, if_pos hz]; rfl
          · rw [if_neg hz, if_neg hz]
            cases h2 : runs (0 :: s) with
            | nil => exact absurd h2 (runs_ne hz)
            | cons k ks => rfl
        | succ y =>
          show incH (if ((y + 1) :: s).getLastD 0 = 0 then runs ((y + 1) :: s) ++ [1] else incL (runs ((y + 1) :: s))) = if ((y + 1) :: s).getLastD 0 = 0 then incH (runs ((y + 1) :: s)) ++ [1] else incL (incH (runs ((y + 1) :: s)))
          have hne : runs ((y + 1) :: s) ≠ [] := by
            rw [runs]
            split
            · simp
            · cases h2 : runs s <;> simp [incH]
          by_cases hz : ((y + 1) :: s).getLastD 0 = 0
          · rw [if_pos hz, if_pos hz]
            cases h2 : runs ((y + 1) :: s) with
            | nil => exact absurd h2 hne
            | cons k ks => rfl
          · rw [if_neg hz, if_neg hz, incL_incH _ hne]
theorem incH_pos {l : List Nat} (h : ∀ k ∈ l, 1 ≤ k) : ∀ k ∈ incH l, 1 ≤ k := by
  intro k hk
  cases l with
  | nil => simp [incH] at hk; omega
  | cons y l =>
    simp only [incH, List.mem_cons] at hk
    rcases hk with rfl | hk
    · omega
    · exact h k (by simp [hk])
theorem runs_pos : ∀ (s : List Nat), ∀ k ∈ runs s, 1 ≤ k := by
  intro s
  induction s with
  | nil => intro k h; simp [runs] at h
  | cons x s ih =>
    cases x with
    | zero => rw [runs]; exact ih
    | succ x =>
      rw [runs]
      split
      · intro k hk
        rcases List.mem_cons.1 hk with rfl | hk
        · exact Nat.le_refl _
        · exact ih k hk
      · exact incH_pos ih
theorem runs_sum : ∀ (s : List Nat), (runs s).sum ≤ s.length ∧ (runs s).length ≤ s.length := by
  intro s
  induction s with
  | nil => simp [runs]
  | cons x s ih =>
    cases x with
    | zero => rw [runs]; simp; omega
    | succ x =>
      rw [runs]
      split
      · simp; omega
      · cases h2 : runs s with
        | nil => simp [incH]
        | cons k ks => rw [h2] at ih; simp [incH] at ih ⊢; omega
theorem mem_le_sum : ∀ (l : List Nat), ∀ k ∈ l, k ≤ l.sum := by
  intro l
  induction l with
  | nil => intro k h; simp at h
  | cons y l ih =>
    intro k hk
    simp only [List.sum_cons]
    rcases List.mem_cons.1 hk with rfl | hk
    · omega
    · have := ih k hk; omega
theorem runs_le (s : List Nat) : ∀ k ∈ runs s, 1 ≤ k ∧ k ≤ s.length := fun k hk => ⟨runs_pos s k hk, Nat.le_trans (mem_le_sum _ k hk) (runs_sum s).1⟩

/-- how many ones lead. -/
def lead : List Nat → Nat
  | [] => 0
  | 0 :: _ => 0
  | (_ + 1) :: s => lead s + 1
theorem runs_lead : ∀ (s : List Nat), s.headD 0 ≠ 0 → runs s = lead s :: runs (s.drop (lead s)) := by
  intro s
  induction s with
  | nil => intro h; simp at h
  | cons x s ih =>
    intro h
    cases x with
    | zero => simp at h
    | succ x =>
      rw [runs, lead, List.drop_succ_cons]
      split
      · rename_i h0
        have hl : lead s = 0 := by
          cases s with
          | nil => rfl
          | cons y s => simp at h0; subst h0; rfl
        rw [hl]; rfl
      · rename_i h0
        rw [ih h0]; rfl
def bI (s : List Nat) : List Int := s.map fun x : Nat => (x : Int)
theorem lead_take : ∀ (s : List Nat), (∀ x ∈ s, x ≤ 1) → lead s ≤ s.length ∧ ((bI s).take (lead s)).all (fun c => c != 0) = true ∧ (lead s = s.length ∨ s[lead s]? = some 0) := by
  intro s
  induction s with
  | nil => intro _; simp [lead, bI]
  | cons x s ih =>
    intro hs
    cases x with
    | zero => simp [lead, bI]
    | succ x =>
      obtain ⟨h1, h2, h3⟩ := ih (fun y hy => hs y (by simp [hy]))
      rw [lead]
      refine ⟨by simp; omega, ?_, ?_⟩
      · simp only [bI, List.map_cons, List.take_succ_cons, List.all_cons, Bool.and_eq_true]
        refine ⟨?_, h2⟩
        simp; omega
      · rcases h3 with h3 | h3
        · left; simp; omega
        · right; simpa using h3
theorem runs_ways : ∀ (n : Nat) (s : List Nat), s.length ≤ n → (∀ x ∈ s, x ≤ 1) → WS (bI s) (runs s) = 1 := by
  intro n
  induction n with
  | zero => intro s h _; obtain rfl := List.length_eq_zero_iff.1 (Nat.le_zero.1 h); simp [bI, runs, WS_nil]
  | succ n ih =>
    intro s h hs
    cases s with
    | nil => simp [bI, runs, WS_nil]
    | cons x s =>
      simp only [List.length_cons] at h
      have hs' : ∀ y ∈ s, y ≤ 1 := fun y hy => hs y (by simp [hy])
      cases x with
      | zero =>
        have h1 := ih s (by omega) hs'
        have hb : bI (0 :: s) = 0 :: bI s := rfl
        rw [runs, hb]
        have hp := runs_pos s
        cases hr : runs s with
        | nil => rw [hr] at h1; rw [WS_cons0]; simpa using h1
        | cons k ks =>
          rw [hr] at h1 hp
          have hf : fitsS (0 :: bI s) k = false := fits_zero (l := 0 :: bI s) (i := 0) (hp k (by simp)) (by simp)
          rw [WS_cons, hf]
          simpa using h1
      | succ x =>
        have hx : x = 0 := by have := hs (x + 1) (by simp); omega
        subst hx
        rw [runs_lead (1 :: s) (by simp)]
        obtain ⟨h1, h2, h3⟩ := lead_take (1 :: s) hs
        have hl : lead (1 :: s) = lead s + 1 := rfl
        have hb : bI (1 :: s) = 1 :: bI s := rfl
        have hlen : (bI (1 :: s)).length = (1 :: s).length := by simp [bI]
        have hf : fitsS (bI (1 :: s)) (lead (1 :: s)) = true := by
          unfold fitsS
          rw [h2, hlen, decide_eq_true h1]
          rcases h3 with h3 | h3
          · rw [h3, show Nat.beq (1 :: s).length (1 :: s).length = true from Nat.beq_refl _]; rfl
          · have : (bI (1 :: s))[lead (1 :: s)]? = some 0 := by unfold bI; rw [List.getElem?_map, h3]; rfl
            rw [this]; simp
        rw [hb] at hf ⊢
        rw [WS_cons, hf, if_pos rfl, if_pos rfl, Nat.zero_add, hl, List.drop_succ_cons]
        have hd : (bI s).drop (lead s + 1) = bI (s.drop (lead s + 1)) := by unfold bI; rw [List.map_drop]
        rw [hd]
        rw [hl] at h3
        rcases h3 with h3 | h3
        · simp only [List.length_cons] at h3
          have e1 : s.drop (lead s) = [] := List.drop_eq_nil_of_le (by omega)
          have e2 : s.drop (lead s + 1) = [] := List.drop_eq_nil_of_le (by omega)
          rw [e1, e2]; simp [bI, runs, WS_nil]
        · simp only [List.getElem?_cons_succ] at h3
          have hlt := (List.getElem?_eq_some_iff.1 h3).1
          have he := (List.getElem?_eq_some_iff.1 h3).2
          rw [List.drop_eq_getElem_cons hlt, he, runs]
          exact ih _ (by simp; omega) (fun y hy => hs' y (List.mem_of_mem_drop hy))

/-- what is sure at a place. -/
def sureAt (l : List Int) (ks : List Nat) (i : Nat) : Int :=
  if l[i]?.getD 0 ≥ 0 then l[i]?.getD 0 else if WS (l.set i 1) ks = WS l ks then 1 else if WS (l.set i 1) ks = 0 then 0 else -1
/-- p is the line s, but for open places. -/
def Part (p : List Int) (s : List Nat) : Prop := p.length = s.length ∧ ∀ i, i < s.length → p[i]? = some (-1) ∨ p[i]? = (bI s)[i]?
theorem bI_len (s : List Nat) : (bI s).length = s.length := by simp [bI]
theorem part_ref {p : List Int} {s : List Nat} (h : Part p s) (hs : ∀ x ∈ s, x ≤ 1) : Ref p (bI s) := by
  refine ⟨by rw [bI_len]; exact h.1, fun i hi => ?_⟩
  have hi' : i < s.length := by rw [← h.1]; exact hi
  rcases h.2 i hi' with h1 | h1
  · right
    refine ⟨h1, ?_⟩
    unfold bI
    rw [List.getElem?_map, List.getElem?_eq_getElem hi']
    have := hs _ (List.getElem_mem hi')
    rcases (show s[i] = 0 ∨ s[i] = 1 by omega) with e | e <;> rw [e] <;> simp
  · exact .inl h1
theorem part_pos {p : List Int} {s : List Nat} (h : Part p s) (hs : ∀ x ∈ s, x ≤ 1) : 1 ≤ WS p (runs s) := by
  have := WS_ref (runs_pos s) (part_ref h hs)
  rw [runs_ways s.length s (Nat.le_refl _) hs] at this
  exact this
theorem part_set {p : List Int} {s : List Nat} (h : Part p s) {i : Nat} (hi : i < s.length) : Part (p.set i (s[i] : Int)) s := by
  refine ⟨by rw [List.length_set]; exact h.1, fun j hj => ?_⟩
  by_cases e : i = j
  · subst e
    right
    rw [List.getElem?_set_self (by rw [h.1]; exact hi)]
    unfold bI; rw [List.getElem?_map, List.getElem?_eq_getElem hi]; rfl
  · rw [List.getElem?_set_ne e]; exact h.2 j hj
theorem sure_right {p : List Int} {s : List Nat} (h : Part p s) (hs : ∀ x ∈ s, x ≤ 1) {i : Nat} (hi : i < s.length) (h0 : 0 ≤ sureAt p (runs s) i) : sureAt p (runs s) i = (s[i] : Int) := by
  have hip : i < p.length := by rw [h.1]; exact hi
  have hb : (bI s)[i]? = some (s[i] : Int) := by unfold bI; rw [List.getElem?_map, List.getElem?_eq_getElem hi]; rfl
  have hx := hs _ (List.getElem_mem hi)
  unfold sureAt at h0 ⊢
  rcases h.2 i hi with h1 | h1
  · rw [h1] at h0 ⊢
    simp only [Option.getD_some] at h0 ⊢
    rw [if_neg (by omega)] at h0 ⊢
    have hp := part_pos (part_set h hi) hs
    have hq := part_pos h hs
    have hw := WS_part p.length p (runs s) i (Nat.le_refl _) (runs_pos s) h1
    rcases (show s[i] = 0 ∨ s[i] = 1 by omega) with e | e
    · rw [e] at hp ⊢
      have hp' : 1 ≤ WS (p.set i 0) (runs s) := hp
      rw [if_neg (by omega)] at h0 ⊢
      split
      · rfl
      · rename_i hh; rw [if_neg hh] at h0; omega
    · rw [e] at hp ⊢
      have hp' : 1 ≤ WS (p.set i 1) (runs s) := hp
      split
      · rfl
      · rename_i hh
        rw [if_neg hh, if_neg (by omega)] at h0; omega
  · rw [h1, hb] at h0 ⊢
    simp only [Option.getD_some] at h0 ⊢
    rw [if_pos (by omega)]
theorem sure_more {p o : List Int} {s : List Nat} (h : Part p s) (ho : Part o s) (hr : Ref o p) (hs : ∀ x ∈ s, x ≤ 1) {i : Nat} (hi : i < s.length) (h0 : 0 ≤ sureAt o (runs s) i) : sureAt p (runs s) i = sureAt o (runs s) i := by
  have h9 := sure_right ho hs hi h0
  rcases h.2 i hi with h1 | h1
  · have hoi : o[i]? = some (-1) := by
      rcases hr.2 i (by rw [ho.1]; exact hi) with h2 | h2
      · rw [h2]; exact h1
      · exact h2.1
    have hq := part_pos h hs
    have hw := WS_part p.length p (runs s) i (Nat.le_refl _) (runs_pos s) h1
    have hwo := WS_part o.length o (runs s) i (Nat.le_refl _) (runs_pos s) hoi
    have hsr : ∀ v : Int, Ref (o.set i v) (p.set i v) := by
      intro v
      refine ⟨by rw [List.length_set, List.length_set]; exact hr.1, fun j hj => ?_⟩
      rw [List.length_set] at hj
      by_cases e : i = j
      · subst e
        left
        rw [List.getElem?_set_self hj, List.getElem?_set_self (by rw [← hr.1]; exact hj)]
      · rw [List.getElem?_set_ne e, List.getElem?_set_ne e]; exact hr.2 j hj
    have h10 := WS_ref (runs_pos s) (hsr 0)
    have h11 := WS_ref (runs_pos s) (hsr 1)
    unfold sureAt at h0 ⊢
    rw [hoi] at h0 ⊢
    rw [h1]
    simp only [Option.getD_some] at h0 ⊢
    simp only [if_neg (show ¬ ((-1 : Int) ≥ 0) by omega)] at h0 ⊢
    by_cases c1 : WS (o.set i 1) (runs s) = WS o (runs s)
    · rw [if_pos c1, if_pos (by omega)]
    · rw [if_neg c1] at h0 ⊢
      by_cases c2 : WS (o.set i 1) (runs s) = 0
      · rw [if_pos c2, if_neg (by omega), if_pos (by omega)]
      · rw [if_neg c2] at h0; omega
  · have hb : (bI s)[i]? = some (s[i] : Int) := by unfold bI; rw [List.getElem?_map, List.getElem?_eq_getElem hi]; rfl
    rw [h9]
    unfold sureAt
    rw [h1, hb]
    simp only [Option.getD_some]
    rw [if_pos (by omega)]
theorem three_ways : WS [-1, -1, -1, -1, -1] [3] = 3 := by
  simp [WS_cons, WS_cons0, WS_nil, fitsS]
end Go.Proofs.Ytkklcfaghnfleaa
