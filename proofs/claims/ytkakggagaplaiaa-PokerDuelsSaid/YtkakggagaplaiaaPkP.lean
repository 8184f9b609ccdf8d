/- Poker hands in plain words: a value of five cards, the best five of some, and what no order and no change of suits changes; no conditions. -/
import Derived.Test.YtkakggagaplaiaaNl
namespace Go.Proofs.Ytkakggagaplaiaa

/-- how many cards have a sign. -/
def mnS (l : List Nat) (r : Nat) : Nat := l.countP fun c => c / 4 == r
/-- are all of one suit? -/
def fluS (l : List Nat) : Bool := l.all fun c => c % 4 == st l 0 % 4
/-- the signs that are there, of the j highest, the highest first. -/
def sgU (m : Nat → Nat) (j : Nat) : List Nat := ((List.range j).map (12 - ·)).filter fun r => decide (0 < m r)
theorem sgU_succ (m : Nat → Nat) (j : Nat) : sgU m (j + 1) = if 0 < m (12 - j) then sgU m j ++ [12 - j] else sgU m j := by
  unfold sgU
  rw [List.range_succ, List.map_append, List.filter_append]
  by_cases h : 0 < m (12 - j) <;> simp [h]
/-- an element goes down as far as more lie ahead of it than it has. -/
def bub (m : Nat → Nat) : Nat → List Nat → List Nat
  | 0, s => s
  | j + 1, s => if m (st s j) < m (st s (j + 1)) then bub m j ((s.set (j + 1) (st s j)).set j (st s (j + 1))) else s
/-- sorted so, as far as i. -/
def isr (m : Nat → Nat) (s : List Nat) : Nat → List Nat
  | 0 => s
  | i + 1 => bub m i (isr m s i)
def srtP (m : Nat → Nat) : List Nat := isr m (sgU m 13) (sgU m 13).length
/-- are they a wheel, a row? -/
def whl (s : List Nat) : Bool := s.length == 5 && st s 0 == 12 && st s 1 == 3
def rwS (s : List Nat) : Bool := s.length == 5 && st s 0 == st s 4 + 4
def ctS (s : List Nat) : List Nat := if whl s then [st s 1] else if rwS s then [st s 0] else s
def clS (m : Nat → Nat) (fl row : Bool) (s : List Nat) : Nat :=
  if row && fl then 8 else if m (st s 0) == 4 then 7 else if m (st s 0) == 3 && s.length == 2 then 6 else if fl then 5 else if row then 4
  else if m (st s 0) == 3 then 3 else if m (st s 0) == 2 && s.length == 3 then 2 else if m (st s 0) == 2 then 1 else 0
/-- signs behind a class, as digits. -/
def dgS (s : List Nat) (c : Nat) : Nat → Nat
  | 0 => c
  | i + 1 => dgS s c i * 13 + st s i
def vlF (m : Nat → Nat) (fl : Bool) : Nat := dgS (ctS (srtP m)) (clS m fl (whl (srtP m) || rwS (srtP m)) (ctS (srtP m))) 5
def vlS (l : List Nat) : Nat := vlF (mnS l) (fluS l)

/-! ### lengths and what is in -/
theorem bub_len (m : Nat → Nat) : ∀ j s, (bub m j s).length = s.length
  | 0, _ => rfl
  | j + 1, s => by
    unfold bub
    split
    · rw [bub_len m j]; simp
    · rfl
theorem isr_len (m : Nat → Nat) (s : List Nat) : ∀ i, (isr m s i).length = s.length
  | 0 => rfl
  | i + 1 => by rw [isr, bub_len, isr_len m s i]
theorem st_set_lt {s : List Nat} {i : Nat} (h : i < s.length) (v k : Nat) : st (s.set i v) k = if k = i then v else st s k := by
  unfold st
  rw [List.getElem?_set]
  by_cases e : i = k
  · subst e; simp [h]
  · simp [e, show ¬ k = i from fun x => e x.symm]
theorem st_mem_lt {s : List Nat} {i : Nat} (h : i < s.length) : st s i ∈ s := by unfold st; simp [h]
theorem mem_st {s : List Nat} {x : Nat} (h : x ∈ s) : ∃ i, i < s.length ∧ st s i = x := by
  obtain ⟨i, hi, e⟩ := List.getElem_of_mem h
  exact ⟨i, hi, by unfold st; simp [hi, e]⟩
theorem swap_mem {s : List Nat} {j : Nat} (h : j + 1 < s.length) (x : Nat) : x ∈ ((s.set (j + 1) (st s j)).set j (st s (j + 1))) ↔ x ∈ s := by
  have hl : ((s.set (j + 1) (st s j)).set j (st s (j + 1))).length = s.length := by simp
  have hs : ∀ k, st ((s.set (j + 1) (st s j)).set j (st s (j + 1))) k = if k = j then st s (j + 1) else if k = j + 1 then st s j else st s k := fun k => by
    rw [st_set_lt (by simp; omega), st_set_lt h]
  constructor
  · intro hx
    obtain ⟨k, hk, rfl⟩ := mem_st hx
    rw [hs k]
    by_cases h1 : k = j
    · simp only [h1, if_true]; exact st_mem_lt h
    · by_cases h2 : k = j + 1
      · simp only [h2, if_neg (show ¬ j + 1 = j from by omega), if_true]; exact st_mem_lt (by omega)
      · simp only [h1, h2, if_false]; exact st_mem_lt (by omega)
  · intro hx
    obtain ⟨k, hk, rfl⟩ := mem_st hx
    by_cases h1 : k = j
    · subst h1
      have := st_mem_lt (s := ((s.set (k + 1) (st s k)).set k (st s (k + 1)))) (i := k + 1) (by omega)
      rw [hs, if_neg (by omega), if_pos rfl] at this; exact this
    · by_cases h2 : k = j + 1
      · subst h2
        have := st_mem_lt (s := ((s.set (j + 1) (st s j)).set j (st s (j + 1)))) (i := j) (by omega)
        rw [hs, if_pos rfl] at this; exact this
      · have := st_mem_lt (s := ((s.set (j + 1) (st s j)).set j (st s (j + 1)))) (i := k) (by omega)
        rw [hs, if_neg h1, if_neg h2] at this; exact this
theorem bub_mem (m : Nat → Nat) : ∀ j s, j < s.length → ∀ x, x ∈ bub m j s ↔ x ∈ s
  | 0, _, _, _ => Iff.rfl
  | j + 1, s, h, x => by
    unfold bub
    split
    · rw [bub_mem m j _ (by simp; omega), swap_mem h]
    · exact Iff.rfl
theorem isr_mem (m : Nat → Nat) (s : List Nat) (x : Nat) : ∀ i, i ≤ s.length → (x ∈ isr m s i ↔ x ∈ s)
  | 0, _ => Iff.rfl
  | i + 1, h => by rw [isr, bub_mem m i _ (by rw [isr_len]; omega), isr_mem m s x i (by omega)]
theorem srtP_mem (m : Nat → Nat) (x : Nat) : x ∈ srtP m ↔ x < 13 ∧ 0 < m x := by
  unfold srtP
  rw [isr_mem _ _ _ _ (Nat.le_refl _)]
  unfold sgU
  simp only [List.mem_filter, List.mem_map, List.mem_range, decide_eq_true_eq]
  constructor
  · rintro ⟨⟨a, ha, rfl⟩, h⟩; exact ⟨by omega, h⟩
  · rintro ⟨h1, h2⟩; exact ⟨⟨12 - x, by omega, by omega⟩, h2⟩

/-! ### five cards have five signs at most -/
theorem countP_split (l : List Nat) (p q : Nat → Bool) (h : ∀ x, p x = true → q x = false) : l.countP (fun x => p x || q x) = l.countP p + l.countP q := by
  induction l with
  | nil => rfl
  | cons a l ih =>
    rw [List.countP_cons, List.countP_cons, List.countP_cons, ih]
    cases hp : p a <;> cases hq : q a <;> simp <;> first | omega | (have := h a hp; rw [hq] at this; cases this)
theorem sgU_le (l : List Nat) : ∀ j, j ≤ 13 → (sgU (mnS l) j).length ≤ l.countP fun c => decide (13 - j ≤ c / 4)
  | 0, _ => Nat.zero_le _
  | j + 1, hj => by
    rw [sgU_succ]
    have ih := sgU_le l j (by omega)
    have e : (fun c : Nat => decide (13 - (j + 1) ≤ c / 4)) = fun c => decide (13 - j ≤ c / 4) || c / 4 == 12 - j := by
      funext c
      rw [Bool.eq_iff_iff]
      simp
      omega
    rw [e, countP_split]
    · split
      · rename_i h
        rw [List.length_append]
        show _ + 1 ≤ _
        have : 0 < l.countP (fun c => c / 4 == 12 - j) := h
        omega
      · omega
    · intro x hx
      simp at hx ⊢
      omega
theorem sgU_le_len (l : List Nat) (j : Nat) (hj : j ≤ 13) : (sgU (mnS l) j).length ≤ l.length := Nat.le_trans (sgU_le l j hj) List.countP_le_length

/-! ### a value is above nothing -/
theorem dgS_ge (s : List Nat) (c : Nat) : ∀ i, c ≤ dgS s c i
  | 0 => Nat.le_refl _
  | i + 1 => by
    unfold dgS
    have := dgS_ge s c i
    omega
theorem dgS_pos (s : List Nat) (c k : Nat) (hk : 0 < st s k) : ∀ i, k < i → 0 < dgS s c i
  | 0, h => absurd h (Nat.not_lt_zero _)
  | i + 1, h => by
    unfold dgS
    by_cases e : k = i
    · subst e; omega
    · have := dgS_pos s c k hk i (by omega)
      omega
theorem dgS_lt (s : List Nat) (c : Nat) (hs : ∀ i, st s i < 13) (hc : c ≤ 8) : dgS s c 5 < 9 * 371293 := by
  have := hs 0; have := hs 1; have := hs 2; have := hs 3; have := hs 4
  simp only [dgS]
  omega
theorem clS_le (m : Nat → Nat) (fl row : Bool) (s : List Nat) : clS m fl row s ≤ 8 := by
  unfold clS
  repeat' split
  all_goals omega
theorem ctS_lt {m : Nat → Nat} (i : Nat) : st (ctS (srtP m)) i < 13 := by
  have key : ∀ j, st (srtP m) j < 13 := fun j => by
    by_cases h : j < (srtP m).length
    · exact ((srtP_mem m _).1 (st_mem_lt h)).1
    · unfold st; rw [List.getElem?_eq_none (by omega)]; exact Nat.zero_lt_succ _
  unfold ctS
  split
  · match i with
    | 0 => exact key 1
    | i + 1 => exact Nat.zero_lt_succ _
  · split
    · match i with
      | 0 => exact key 0
      | i + 1 => exact Nat.zero_lt_succ _
    · exact key i
theorem vlF_lt (m : Nat → Nat) (fl : Bool) : vlF m fl < 9 * 371293 := dgS_lt _ _ ctS_lt (clS_le _ _ _ _)
/-- with two unlike signs it is above nothing. -/
theorem vlF_pos {m : Nat → Nat} (fl : Bool) {a b : Nat} (ha : a < 13) (hb : b < 13) (hab : a ≠ b) (ma : 0 < m a) (mb : 0 < m b) (h5 : (srtP m).length ≤ 5) : 0 < vlF m fl := by
  unfold vlF
  by_cases hr : (whl (srtP m) || rwS (srtP m)) = true
  · refine Nat.lt_of_lt_of_le ?_ (dgS_ge _ _ _)
    rw [hr]
    unfold clS
    repeat' split
    all_goals first | omega | (exfalso; simp_all)
  · have e : ctS (srtP m) = srtP m := by
      simp only [Bool.or_eq_true, not_or, Bool.not_eq_true] at hr
      unfold ctS
      rw [hr.1, hr.2]; rfl
    rw [e]
    obtain ⟨x, hx, hx0⟩ : ∃ x, x ∈ srtP m ∧ 0 < x := by
      by_cases h0 : a = 0
      · exact ⟨b, (srtP_mem m b).2 ⟨hb, mb⟩, by omega⟩
      · exact ⟨a, (srtP_mem m a).2 ⟨ha, ma⟩, by omega⟩
    obtain ⟨k, hk, rfl⟩ := mem_st hx
    exact dgS_pos _ _ k hx0 5 (by omega)

/-! ### neither order nor suits -/
theorem all_alike {l : List Nat} : fluS l = true ↔ ∀ x ∈ l, ∀ y ∈ l, x % 4 = y % 4 := by
  unfold fluS
  simp only [List.all_eq_true, beq_iff_eq]
  constructor
  · intro h x hx y hy; rw [h x hx, h y hy]
  · intro h x hx
    have : st l 0 ∈ l := st_mem_lt (List.length_pos_of_mem hx)
    exact h x hx _ this
theorem vlS_perm {l l' : List Nat} (h : l.Perm l') : vlS l = vlS l' := by
  have e1 : mnS l = mnS l' := funext fun r => h.countP_eq _
  have e2 : fluS l = fluS l' := by
    rw [Bool.eq_iff_iff, all_alike, all_alike]
    exact ⟨fun g x hx y hy => g x (h.mem_iff.2 hx) y (h.mem_iff.2 hy), fun g x hx y hy => g x (h.mem_iff.1 hx) y (h.mem_iff.1 hy)⟩
  unfold vlS; rw [e1, e2]
/-- other suits: a card's sign stays, its suit is another one's. -/
def suS (o : List Nat) (c : Nat) : Nat := c / 4 * 4 + st o (c % 4)
theorem suS_div {o : List Nat} (h : ∀ i, i < 4 → st o i < 4) (c : Nat) : suS o c / 4 = c / 4 := by
  have := h (c % 4) (Nat.mod_lt _ (by omega))
  unfold suS; omega
theorem suS_mod {o : List Nat} (h : ∀ i, i < 4 → st o i < 4) (c : Nat) : suS o c % 4 = st o (c % 4) := by
  have := h (c % 4) (Nat.mod_lt _ (by omega))
  unfold suS; omega
theorem vlS_suits {o : List Nat} (h : ∀ i, i < 4 → st o i < 4) (hi : ∀ i j, i < 4 → j < 4 → st o i = st o j → i = j) (l : List Nat) : vlS (l.map (suS o)) = vlS l := by
  have e1 : mnS (l.map (suS o)) = mnS l := funext fun r => by
    unfold mnS
    rw [List.countP_map]
    congr 1
    funext c
    simp only [Function.comp, suS_div h]
  have e2 : fluS (l.map (suS o)) = fluS l := by
    rw [Bool.eq_iff_iff, all_alike, all_alike]
    simp only [List.mem_map, forall_exists_index, and_imp, forall_apply_eq_imp_iff₂, suS_mod h]
    constructor
    · intro g x hx y hy; exact hi _ _ (Nat.mod_lt _ (by omega)) (Nat.mod_lt _ (by omega)) (g x hx y hy)
    · intro g x hx y hy; rw [g x hx y hy]
  unfold vlS; rw [e1, e2]

/-! ### all fives -/
/-- k places from one on, of n, as they come. -/
def ixs (n : Nat) : Nat → Nat → List (List Nat)
  | 0, _ => [[]]
  | k + 1, fr => (List.range (n - fr)).flatMap fun i => (ixs n k (fr + i + 1)).map fun y => (fr + i) :: y
theorem ixs_len {n : Nat} : ∀ (k fr : Nat) (x : List Nat), x ∈ ixs n k fr → x.length = k
  | 0, _, x, h => by simp [ixs] at h; subst h; rfl
  | k + 1, fr, x, h => by
    simp only [ixs, List.mem_flatMap, List.mem_map] at h
    obtain ⟨i, _, y, hy, rfl⟩ := h
    simp [ixs_len k _ y hy]
theorem ixs_lt {n : Nat} : ∀ (k fr : Nat) (x : List Nat), x ∈ ixs n k fr → ∀ i ∈ x, fr ≤ i ∧ i < n
  | 0, _, x, h => by simp [ixs] at h; subst h; simp
  | k + 1, fr, x, h => by
    simp only [ixs, List.mem_flatMap, List.mem_map, List.mem_range] at h
    obtain ⟨i, hi, y, hy, rfl⟩ := h
    intro j hj
    rcases List.mem_cons.1 hj with rfl | hj
    · omega
    · have := ixs_lt k _ y hy j hj
      omega
theorem ixs_more {n m : Nat} (h : n ≤ m) : ∀ (k fr : Nat) (x : List Nat), x ∈ ixs n k fr → x ∈ ixs m k fr
  | 0, _, _, hx => hx
  | k + 1, fr, x, hx => by
    simp only [ixs, List.mem_flatMap, List.mem_map, List.mem_range] at hx ⊢
    obtain ⟨i, hi, y, hy, rfl⟩ := hx
    exact ⟨i, by omega, y, ixs_more h k _ y hy, rfl⟩
theorem ixs_nodup {n : Nat} : ∀ (k fr : Nat) (x : List Nat), x ∈ ixs n k fr → x.Nodup
  | 0, _, x, h => by simp [ixs] at h; subst h; exact List.nodup_nil
  | k + 1, fr, x, h => by
    simp only [ixs, List.mem_flatMap, List.mem_map, List.mem_range] at h
    obtain ⟨i, hi, y, hy, rfl⟩ := h
    refine List.nodup_cons.2 ⟨fun hj => ?_, ixs_nodup k _ y hy⟩
    have := ixs_lt k _ y hy _ hj
    omega
/-- the cards at some places. -/
def atS (L x : List Nat) : List Nat := x.map (st L)
def bstep (L : List Nat) (acc : Int × List Nat) (x : List Nat) : Int × List Nat := if acc.1 < (vlS (atS L x) : Int) then ((vlS (atS L x) : Int), atS L x) else acc
def bfold (L : List Nat) (xs : List (List Nat)) : Int × List Nat := xs.foldl (bstep L) (-1, [])
theorem bfold_snoc (L : List Nat) (xs : List (List Nat)) (x : List Nat) : bfold L (xs ++ [x]) = bstep L (bfold L xs) x := by unfold bfold; rw [List.foldl_append]; rfl
def bestS (L : List Nat) : Int × List Nat := bfold L (ixs L.length 5 0)
/-- the fold is the greatest, and one of them has it. -/
theorem fold_max (L : List Nat) : ∀ (xs : List (List Nat)) (acc : Int × List Nat),
    acc.1 ≤ (xs.foldl (bstep L) acc).1 ∧ (∀ x ∈ xs, (vlS (atS L x) : Int) ≤ (xs.foldl (bstep L) acc).1) ∧ ((xs.foldl (bstep L) acc) = acc ∨ ∃ x ∈ xs, xs.foldl (bstep L) acc = ((vlS (atS L x) : Int), atS L x))
  | [], acc => ⟨Int.le_refl _, fun x hx => absurd hx (by simp), .inl rfl⟩
  | x :: xs, acc => by
    obtain ⟨h1, h2, h3⟩ := fold_max L xs (bstep L acc x)
    have hb : acc.1 ≤ (bstep L acc x).1 ∧ (vlS (atS L x) : Int) ≤ (bstep L acc x).1 ∧ (bstep L acc x = acc ∨ bstep L acc x = ((vlS (atS L x) : Int), atS L x)) := by
      unfold bstep
      split
      · exact ⟨by simp only; omega, Int.le_refl _, .inr rfl⟩
      · exact ⟨Int.le_refl _, by omega, .inl rfl⟩
    refine ⟨Int.le_trans hb.1 h1, fun y hy => ?_, ?_⟩
    · rcases List.mem_cons.1 hy with rfl | hy
      · exact Int.le_trans hb.2.1 h1
      · exact h2 y hy
    · rcases h3 with h3 | ⟨y, hy, h3⟩
      · rcases hb.2.2 with h4 | h4
        · exact .inl (h3.trans h4)
        · exact .inr ⟨x, List.mem_cons_self, h3.trans h4⟩
      · exact .inr ⟨y, List.mem_cons_of_mem _ hy, h3⟩
theorem ixs_some {n : Nat} (h : 5 ≤ n) : [0, 1, 2, 3, 4] ∈ ixs n 5 0 := ixs_more h 5 0 _ (by decide)
theorem best_is {L : List Nat} (h : 5 ≤ L.length) : (∀ x ∈ ixs L.length 5 0, (vlS (atS L x) : Int) ≤ (bestS L).1) ∧ ∃ x ∈ ixs L.length 5 0, bestS L = ((vlS (atS L x) : Int), atS L x) := by
  obtain ⟨_, h2, h3⟩ := fold_max L (ixs L.length 5 0) (-1, [])
  refine ⟨h2, ?_⟩
  rcases h3 with h3 | h3
  · have := h2 _ (ixs_some h)
    rw [h3] at this
    simp only at this
    omega
  · exact h3
/-- of five cards their own value. -/
theorem best_five {L : List Nat} (h : L.length = 5) : bestS L = ((vlS L : Int), L) := by
  match L, h with
  | [a, b, c, d, e], _ => 
    have h1 : ixs 5 5 0 = [[0, 1, 2, 3, 4]] := by decide
    unfold bestS bfold
    rw [show [a, b, c, d, e].length = 5 from rfl, h1]
    simp only [List.foldl, bstep, atS, List.map, st]
    simp
    omega
theorem best_more {L : List Nat} {n : Nat} (h : 5 ≤ n) (hn : n ≤ L.length) : (bestS (L.take n)).1 ≤ (bestS L).1 := by
  have hl : (L.take n).length = n := by rw [List.length_take]; omega
  obtain ⟨_, x, hx, e⟩ := best_is (L := L.take n) (by omega)
  obtain ⟨h2, _⟩ := best_is (L := L) (by omega)
  rw [hl] at hx
  have e2 : atS (L.take n) x = atS L x := by
    unfold atS
    refine List.map_congr_left fun i hi => ?_
    have := (ixs_lt _ _ _ hx i hi).2
    unfold st
    rw [List.getElem?_take_of_lt this]
  rw [e, e2]
  exact h2 x (ixs_more hn _ _ _ hx)
/-- turned round by some, and with other suits. -/
def trS (o L : List Nat) (k : Nat) : List Nat := (List.range 7).map fun j => suS o (st L ((j + k) % 7))
theorem turn_ix : ∀ k, k < 7 → ∀ x ∈ ixs 7 5 0, ∃ y ∈ ixs 7 5 0, (x.map fun j => (j + k) % 7).isPerm y = true := by decide +kernel
theorem unturn_ix : ∀ k, k < 7 → ∀ y ∈ ixs 7 5 0, ∃ x ∈ ixs 7 5 0, (x.map fun j => (j + k) % 7).isPerm y = true := by decide +kernel
theorem tr_at (o L : List Nat) (k : Nat) {x : List Nat} (hx : ∀ i ∈ x, i < 7) : atS (trS o L k) x = (atS L (x.map fun j => (j + k) % 7)).map (suS o) := by
  unfold atS
  rw [List.map_map, List.map_map]
  refine List.map_congr_left fun i hi => ?_
  have := hx i hi
  unfold trS
  simp [st, this]
theorem tr_best {o L : List Nat} {k : Nat} (hk : k < 7) (hL : L.length = 7) (h : ∀ i, i < 4 → st o i < 4) (hi : ∀ i j, i < 4 → j < 4 → st o i = st o j → i = j) : (bestS (trS o L k)).1 = (bestS L).1 := by
  have hl : (trS o L k).length = 7 := by simp [trS]
  obtain ⟨a1, x, hx, e1⟩ := best_is (L := trS o L k) (by omega)
  obtain ⟨b1, y, hy, e2⟩ := best_is (L := L) (by omega)
  rw [hl] at a1 hx
  rw [hL] at b1 hy
  have key : ∀ x ∈ ixs 7 5 0, ∀ y, (x.map fun j => (j + k) % 7).isPerm y = true → vlS (atS (trS o L k) x) = vlS (atS L y) := fun x hx y hp => by
    rw [tr_at o L k fun i hi => (ixs_lt _ _ _ hx i hi).2, vlS_suits h hi]
    exact vlS_perm ((List.isPerm_iff.1 hp).map _)
  refine Int.le_antisymm ?_ ?_
  · obtain ⟨z, hz, hp⟩ := turn_ix k hk x hx
    rw [e1, key x hx z hp]
    exact b1 z hz
  · obtain ⟨z, hz, hp⟩ := unturn_ix k hk y hy
    rw [e2, ← key z hz y hp]
    exact a1 z hz
/-- five unlike cards have two unlike signs. -/
theorem two_signs {h : List Nat} (hl : h.length = 5) (hn : h.Nodup) : ∃ a ∈ h, ∃ b ∈ h, a / 4 ≠ b / 4 := by
  refine Classical.byContradiction fun hc => ?_
  have key : ∀ a ∈ h, ∀ b ∈ h, a / 4 = b / 4 := fun a ha b hb => Classical.byContradiction fun e => hc ⟨a, ha, b, hb, e⟩
  match h, hl with
  | [a, b, c, d, e], _ =>
    have h1 := key a (by simp) b (by simp)
    have h2 := key a (by simp) c (by simp)
    have h3 := key a (by simp) d (by simp)
    have h4 := key a (by simp) e (by simp)
    simp only [List.nodup_cons, List.mem_cons, List.not_mem_nil, or_false, not_or] at hn
    omega
theorem vlS_pos {h : List Nat} (hl : h.length = 5) (hn : h.Nodup) (h52 : ∀ x ∈ h, x < 52) : 0 < vlS h := by
  obtain ⟨a, ha, b, hb, hab⟩ := two_signs hl hn
  have hm : ∀ x ∈ h, 0 < mnS h (x / 4) := fun x hx => List.countP_pos_iff.2 ⟨x, hx, by simp⟩
  have := h52 a ha
  have := h52 b hb
  refine vlF_pos _ (a := a / 4) (b := b / 4) (by omega) (by omega) hab (hm a ha) (hm b hb) ?_
  unfold srtP
  rw [isr_len, ← hl]
  exact sgU_le_len h 13 (Nat.le_refl _)
theorem best_pos {L : List Nat} (h : 5 ≤ L.length) (hn : L.Nodup) (h52 : ∀ x ∈ L, x < 52) : 0 < (bestS L).1 := by
  obtain ⟨_, x, hx, e⟩ := best_is h
  rw [e]
  have hlt : ∀ i ∈ x, i < L.length := fun i hi => (ixs_lt _ _ _ hx i hi).2
  have : 0 < vlS (atS L x) := by
    refine vlS_pos (by unfold atS; rw [List.length_map, ixs_len _ _ _ hx]) ?_ ?_
    · unfold atS
      refine List.pairwise_map.2 (List.Pairwise.imp_of_mem ?_ (ixs_nodup _ _ _ hx))
      intro i j hi hj hne e
      have h1 := hlt i hi; have h2 := hlt j hj
      apply hne
      refine (List.getElem_inj (h₀ := h1) (h₁ := h2) hn).1 ?_
      unfold st at e; simpa [h1, h2] using e
    · intro y hy
      unfold atS at hy
      obtain ⟨i, hi, rfl⟩ := List.mem_map.1 hy
      exact h52 _ (st_mem_lt (hlt i hi))
  simp only
  omega
theorem best_len {L : List Nat} (h : 5 ≤ L.length) : (bestS L).2.length = 5 := by
  obtain ⟨_, x, hx, e⟩ := best_is h
  rw [e]
  simp [atS, ixs_len _ _ _ hx]
end Go.Proofs.Ytkakggagaplaiaa
