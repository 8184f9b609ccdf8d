/- Mancala as functions on lists: sums, sowing, values; no program in sight, no conditions. -/
namespace Go.Proofs.Ytehcelajmhclmaa

def st (s : List Nat) (i : Nat) : Nat := s[i]?.getD 0
def sumN (l : List Nat) (j : Nat) : Nat := (l.take j).sum
theorem sumN_succ (l : List Nat) (j : Nat) (h : j < l.length) : sumN l (j + 1) = sumN l j + st l j := by
  unfold sumN st
  rw [List.take_succ_eq_append_getElem h, List.sum_append]
  simp [h]
def ownL (l : List Nat) (p : Nat) : List Nat := l.take p
def otherL (l : List Nat) (p : Nat) : List Nat := (l.take (2 * p + 1)).drop (p + 1)
def overS (l : List Nat) (p : Nat) : Bool := (ownL l p).sum == 0 || (otherL l p).sum == 0
def up1 (l : List Nat) (a : Nat) : List Nat := l.set a (st l a + 1)
/-- h seeds put down, one by one, from behind a place on. -/
def layN (p : Nat) : Nat → List Nat → Nat → List Nat × Nat
  | 0, l, a => (l, a)
  | h + 1, l, a => layN p h (up1 l ((a + 1) % (2 * p + 1))) ((a + 1) % (2 * p + 1))
def grab (l : List Nat) (p a : Nat) : List Nat :=
  if a < p ∧ st l a = 1 ∧ 0 < st l (2 * p - a) then ((l.set p (st l p + (1 + st l (2 * p - a)))).set a 0).set (2 * p - a) 0 else l
def zero : List Nat → Nat → Nat → List Nat
  | l, _, 0 => l
  | l, i, k + 1 => zero (l.set i 0) (i + 1) k
def close (l : List Nat) (p : Nat) : List Nat :=
  if overS l p = true then
    let m := l.set p (st l p + (ownL l p).sum)
    let m := m.set (2 * p + 1) (st m (2 * p + 1) + (otherL m p).sum)
    zero (zero m 0 p) (p + 1) p
  else l
def sowS (l : List Nat) (p pit : Nat) : List Nat × Bool :=
  let t := layN p (st l pit) (l.set pit 0) pit
  (close (grab t.1 p t.2) p, t.2 == p)

theorem st_set (l : List Nat) (i v j : Nat) (h : i < l.length) : st (l.set i v) j = if j = i then v else st l j := by
  unfold st
  by_cases e : j = i
  · subst e; simp [h]
  · rw [if_neg e, List.getElem?_set_ne (by omega)]
theorem set_sum (l : List Nat) : ∀ (i v : Nat), i < l.length → (l.set i v).sum + st l i = l.sum + v := by
  induction l with
  | nil => intro i v h; simp at h
  | cons x l ih =>
    intro i v h
    cases i with
    | zero => simp [st]; omega
    | succ i =>
      have := ih i v (by simpa using h)
      simp only [List.set_cons_succ, List.sum_cons]
      have e : st (x :: l) (i + 1) = st l i := by simp [st]
      omega
theorem st_le_sum (l : List Nat) (i : Nat) : st l i ≤ l.sum := by
  by_cases h : i < l.length
  · have := set_sum l i 0 h; omega
  · unfold st; rw [List.getElem?_eq_none (by omega)]; simp
theorem two_le_sum (l : List Nat) (i j : Nat) (h : i ≠ j) (hi : i < l.length) : st l i + st l j ≤ l.sum := by
  have h1 := set_sum l i 0 hi
  have h2 := st_le_sum (l.set i 0) j
  rw [st_set l i 0 j hi, if_neg (by omega)] at h2
  omega
theorem up1_len (l : List Nat) (a : Nat) : (up1 l a).length = l.length := by simp [up1]
theorem up1_sum (l : List Nat) (a : Nat) (h : a < l.length) : (up1 l a).sum = l.sum + 1 := by
  have := set_sum l a (st l a + 1) h
  unfold up1; omega
theorem layN_ok (p : Nat) : ∀ (h : Nat) (l : List Nat) (a : Nat), 2 * p + 1 ≤ l.length → a ≤ 2 * p → (layN p h l a).1.length = l.length ∧ (layN p h l a).1.sum = l.sum + h ∧ (layN p h l a).2 ≤ 2 * p := by
  intro h
  induction h with
  | zero => intro l a _ ha; exact ⟨rfl, rfl, ha⟩
  | succ h ih =>
    intro l a hl ha
    have hm : (a + 1) % (2 * p + 1) < 2 * p + 1 := Nat.mod_lt _ (by omega)
    obtain ⟨i1, i2, i3⟩ := ih (up1 l ((a + 1) % (2 * p + 1))) ((a + 1) % (2 * p + 1)) (by rw [up1_len]; exact hl) (by omega)
    refine ⟨by rw [layN, i1, up1_len], ?_, i3⟩
    rw [layN, i2, up1_sum _ _ (by omega)]; omega
theorem grab_ok (l : List Nat) (p a : Nat) (hl : l.length = 2 * p + 2) : (grab l p a).length = l.length ∧ (grab l p a).sum = l.sum := by
  unfold grab
  split
  · rename_i h
    obtain ⟨h1, h2, h3⟩ := h
    refine ⟨by simp, ?_⟩
    have e1 := set_sum l p (st l p + (1 + st l (2 * p - a))) (by omega)
    have e2 := set_sum (l.set p (st l p + (1 + st l (2 * p - a)))) a 0 (by simp; omega)
    have e3 := set_sum ((l.set p (st l p + (1 + st l (2 * p - a)))).set a 0) (2 * p - a) 0 (by simp; omega)
    rw [st_set _ _ _ _ (by omega), if_neg (by omega)] at e2
    rw [st_set _ _ _ _ (by simp; omega), if_neg (by omega), st_set _ _ _ _ (by omega), if_neg (by omega)] at e3
    omega
  · exact ⟨rfl, rfl⟩
theorem zero_len (k : Nat) : ∀ (l : List Nat) (i : Nat), (zero l i k).length = l.length := by
  induction k with
  | zero => intro l i; rfl
  | succ k ih => intro l i; rw [zero, ih]; simp
theorem zero_st (k : Nat) : ∀ (l : List Nat) (i j : Nat), i + k ≤ l.length → st (zero l i k) j = if i ≤ j ∧ j < i + k then 0 else st l j := by
  induction k with
  | zero => intro l i j _; rw [zero, if_neg (by omega)]
  | succ k ih =>
    intro l i j h
    rw [zero, ih _ _ _ (by simp; omega), st_set _ _ _ _ (by omega)]
    by_cases e : j = i
    · subst e; rw [if_neg (by omega), if_pos rfl, if_pos (by omega)]
    · rw [if_neg e]
      by_cases e2 : i + 1 ≤ j ∧ j < i + 1 + k
      · rw [if_pos e2, if_pos (by omega)]
      · rw [if_neg e2, if_neg (by omega)]
theorem zero_sum (k : Nat) : ∀ (l : List Nat) (i : Nat), i + k ≤ l.length → (zero l i k).sum + ((l.drop i).take k).sum = l.sum := by
  induction k with
  | zero => intro l i _; simp [zero]
  | succ k ih =>
    intro l i h
    have e1 := ih (l.set i 0) (i + 1) (by simp; omega)
    have e2 := set_sum l i 0 (by omega)
    rw [List.drop_set_of_lt (by omega)] at e1
    have e3 : (l.drop i).take (k + 1) = st l i :: (l.drop (i + 1)).take k := by
      rw [List.drop_eq_getElem_cons (by omega), List.take_succ_cons]
      simp [st, show i < l.length by omega]
    rw [zero, e3, List.sum_cons]
    omega
theorem close_ok (l : List Nat) (p : Nat) (hl : l.length = 2 * p + 2) : (close l p).length = l.length ∧ (close l p).sum = l.sum := by
  unfold close
  split
  · refine ⟨by simp [zero_len], ?_⟩
    dsimp only
    generalize hm1 : l.set p (st l p + (ownL l p).sum) = m1
    have l1 : m1.length = 2 * p + 2 := by rw [← hm1]; simpa using hl
    generalize hm2 : m1.set (2 * p + 1) (st m1 (2 * p + 1) + (otherL m1 p).sum) = m2
    have l2 : m2.length = 2 * p + 2 := by rw [← hm2]; simpa using l1
    have e1 := set_sum l p (st l p + (ownL l p).sum) (by omega)
    have e2 := set_sum m1 (2 * p + 1) (st m1 (2 * p + 1) + (otherL m1 p).sum) (by omega)
    rw [hm1] at e1; rw [hm2] at e2
    have e3 := zero_sum p m2 0 (by omega)
    have e4 := zero_sum p (zero m2 0 p) (p + 1) (by rw [zero_len]; omega)
    have e5 : (m2.drop 0).take p = ownL l p := by
      unfold ownL
      rw [List.drop_zero, ← hm2, ← hm1, List.take_set_of_le (by omega), List.take_set_of_le (by omega)]
    have e6 : ((zero m2 0 p).drop (p + 1)).take p = otherL m1 p := by
      unfold otherL
      rw [List.drop_take, show 2 * p + 1 - (p + 1) = p by omega]
      apply List.ext_getElem?
      intro i
      by_cases hi : i < p
      · rw [List.getElem?_take_of_lt hi, List.getElem?_take_of_lt hi, List.getElem?_drop, List.getElem?_drop]
        have h1 := zero_st p m2 0 (p + 1 + i) (by omega)
        rw [if_neg (by omega)] at h1
        rw [← hm2, st_set _ _ _ _ (by omega), if_neg (by omega)] at h1
        rw [hm2] at h1
        unfold st at h1
        rw [List.getElem?_eq_getElem (by rw [zero_len]; omega), List.getElem?_eq_getElem (by omega)] at h1 ⊢
        simpa using h1
      · rw [List.getElem?_eq_none (by simp; omega), List.getElem?_eq_none (by simp; omega)]
    rw [e5] at e3; rw [e6] at e4
    omega
  · exact ⟨rfl, rfl⟩
theorem sowS_ok (l : List Nat) (p pit : Nat) (hl : l.length = 2 * p + 2) (hp : pit < p) : (sowS l p pit).1.length = l.length ∧ (sowS l p pit).1.sum = l.sum := by
  unfold sowS
  simp only
  have h0 := set_sum l pit 0 (by omega)
  obtain ⟨i1, i2, i3⟩ := layN_ok p (st l pit) (l.set pit 0) pit (by simp; omega) (by omega)
  rw [List.length_set] at i1
  obtain ⟨j1, j2⟩ := grab_ok (layN p (st l pit) (l.set pit 0) pit).1 p (layN p (st l pit) (l.set pit 0) pit).2 (by omega)
  obtain ⟨k1, k2⟩ := close_ok (grab (layN p (st l pit) (l.set pit 0) pit).1 p (layN p (st l pit) (l.set pit 0) pit).2) p (by omega)
  exact ⟨by omega, by omega⟩
end Go.Proofs.Ytehcelajmhclmaa
