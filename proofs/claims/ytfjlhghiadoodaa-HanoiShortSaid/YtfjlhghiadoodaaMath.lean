/- Plain laws of discs on three pegs: how many moves gather discs on a peg (G), how far two states are (F), and that a move changes both by one at most; no conditions. -/
namespace Go.Proofs.Ytfjlhghiadoodaa

/-- moves that gather the k smallest discs of a state on peg p. -/
def G (f : Nat → Nat) : Nat → Nat → Nat
  | 0, _ => 0
  | k + 1, p => if f k = p then G f k p else 2 ^ k + G f k (3 - f k - p)
/-- moves between two states whose k-th discs are the greatest that differ. -/
def once (f g : Nat → Nat) (k : Nat) : Nat := G f k (3 - f k - g k) + 1 + G g k (3 - f k - g k)
def twice (f g : Nat → Nat) (k : Nat) : Nat := G f k (g k) + 1 + 2 ^ k - 1 + 1 + G g k (f k)
def D (f g : Nat → Nat) (k : Nat) : Nat := min (once f g k) (twice f g k)
def F (f g : Nat → Nat) : Nat → Nat
  | 0 => 0
  | n + 1 => if f n = g n then F f g n else D f g n

theorem two_pos (k : Nat) : 1 ≤ 2 ^ k := Nat.one_le_two_pow
theorem G_lt (f : Nat → Nat) : ∀ k p, G f k p < 2 ^ k := by
  intro k
  induction k with
  | zero => intro p; simp [G]
  | succ k ih =>
    intro p
    rw [G, Nat.pow_succ]
    split
    · have := ih p; omega
    · have := ih (3 - f k - p); omega
theorem G_congr {f g : Nat → Nat} : ∀ k, (∀ i, i < k → f i = g i) → ∀ p, G f k p = G g k p := by
  intro k
  induction k with
  | zero => intro _ p; rfl
  | succ k ih =>
    intro h p
    rw [G, G, h k (by omega), ih (fun i hi => h i (by omega)), ih (fun i hi => h i (by omega))]
theorem G_all {f : Nat → Nat} {p : Nat} : ∀ k, (∀ i, i < k → f i = p) → G f k p = 0 := by
  intro k
  induction k with
  | zero => intro _; rfl
  | succ k ih => intro h; rw [G, if_pos (h k (by omega))]; exact ih fun i hi => h i (by omega)
theorem G_perf {f : Nat → Nat} {r : Nat} (hr : r < 3) : ∀ k, (∀ i, i < k → f i = r) → ∀ p, p < 3 → p ≠ r → G f k p = 2 ^ k - 1 := by
  intro k
  induction k with
  | zero => intro _ p _ _; rfl
  | succ k ih =>
    intro h p hp hne
    rw [G, if_neg (by rw [h k (by omega)]; omega), h k (by omega), ih (fun i hi => h i (by omega)) _ (by omega) (by omega), Nat.pow_succ]
    have := two_pos k
    omega
theorem D_symm (f g : Nat → Nat) (k : Nat) : D f g k = D g f k := by
  unfold D once twice
  rw [show 3 - g k - f k = 3 - f k - g k from by omega]
  have := two_pos k
  generalize 2 ^ k = P at *
  omega
theorem F_symm (f g : Nat → Nat) (n : Nat) : F f g n = F g f n := by
  induction n with
  | zero => rfl
  | succ n ih =>
    rw [F, F, ih, D_symm]
    by_cases h : f n = g n
    · rw [if_pos h, if_pos h.symm]
    · rw [if_neg h, if_neg (fun e => h e.symm)]
theorem F_lt (f g : Nat → Nat) (n : Nat) : F f g n < 2 ^ n := by
  induction n with
  | zero => simp [F]
  | succ n ih =>
    rw [F, Nat.pow_succ]
    split
    · omega
    · have h1 := G_lt f n (3 - f n - g n)
      have h2 := G_lt g n (3 - f n - g n)
      unfold D once
      omega
theorem F_zero (f g : Nat → Nat) (n : Nat) : F f g n = 0 ↔ ∀ i, i < n → f i = g i := by
  induction n with
  | zero => simp [F]
  | succ n ih =>
    rw [F]
    by_cases h : f n = g n
    · rw [if_pos h, ih]
      constructor
      · intro hh i hi
        by_cases e : i = n
        · subst e; exact h
        · exact hh i (by omega)
      · intro hh i hi; exact hh i (by omega)
    · rw [if_neg h]
      constructor
      · intro hd; unfold D once twice at hd; omega
      · intro hh; exact absurd (hh n (by omega)) h
theorem F_congr {f f' g g' : Nat → Nat} (n : Nat) (h : ∀ i, i < n → f i = f' i) (h' : ∀ i, i < n → g i = g' i) : F f g n = F f' g' n := by
  induction n with
  | zero => rfl
  | succ n ih =>
    rw [F, F, ih (fun i hi => h i (by omega)) (fun i hi => h' i (by omega)), h n (by omega), h' n (by omega)]
    congr 1
    unfold D once twice
    rw [h n (by omega), h' n (by omega), G_congr n (fun i hi => h i (by omega)), G_congr n (fun i hi => h' i (by omega)), G_congr n (fun i hi => h i (by omega)), G_congr n (fun i hi => h' i (by omega))]
/-- from all discs on one peg it is as far as gathering them there. -/
theorem F_perf {f g : Nat → Nat} {r : Nat} (hr : r < 3) (hg : ∀ i, g i < 3) : ∀ n, (∀ i, i < n → f i = r) → F f g n = G g n r := by
  intro n
  induction n with
  | zero => intro _; rfl
  | succ n ih =>
    intro h
    rw [F, G, h n (by omega)]
    by_cases e : r = g n
    · rw [if_pos e, if_pos e.symm]; exact ih fun i hi => h i (by omega)
    · rw [if_neg e, if_neg (fun x => e x.symm)]
      have hgn := hg n
      have h1 := G_perf hr n (fun i hi => h i (by omega)) (3 - r - g n) (by omega) (by omega)
      have h2 := G_perf hr n (fun i hi => h i (by omega)) (g n) hgn (by omega)
      have h3 := G_lt g n (3 - r - g n)
      have := two_pos n
      unfold D once twice
      rw [h n (by omega), h1, h2, show 3 - g n - r = 3 - r - g n from by omega]
      omega

/-- a state and the one behind a move of disc i. -/
structure Moved (f u : Nat → Nat) (i a b : Nat) : Prop where
  ha : a < 3
  hb : b < 3
  ne : a ≠ b
  fi : f i = a
  ui : u i = b
  low : ∀ j, j < i → f j = 3 - a - b
  same : ∀ j, j ≠ i → u j = f j
theorem Moved.back {f u : Nat → Nat} {i a b : Nat} (m : Moved f u i a b) : Moved u f i b a :=
  ⟨m.hb, m.ha, fun e => m.ne e.symm, m.ui, m.fi, fun j hj => by rw [m.same j (by omega), m.low j hj]; omega, fun j hj => (m.same j hj).symm⟩
theorem G_at {f u : Nat → Nat} {i a b : Nat} (m : Moved f u i a b) (p : Nat) (hp : p < 3) : G u (i + 1) p ≤ G f (i + 1) p + 1 := by
  obtain ⟨ha, hb, ne, fi, ui, low, same⟩ := m
  have hr : 3 - a - b < 3 := by omega
  have lowu : ∀ j, j < i → u j = 3 - a - b := fun j hj => by rw [same j (by omega), low j hj]
  have := two_pos i
  rw [G, G, fi, ui]
  by_cases h1 : p = b
  · subst h1
    rw [if_pos rfl, if_neg ne, G_perf hr i lowu p hb (by omega), G_all (p := 3 - a - p) i (fun j hj => low j hj)]
    omega
  · rw [if_neg (fun e => h1 e.symm)]
    by_cases h2 : p = a
    · subst h2
      rw [if_pos rfl, G_perf hr i low p ha (by omega), show 3 - b - p = 3 - p - b from by omega, G_all i lowu]
      omega
    · rw [if_neg (fun e => h2 e.symm)]
      have e1 : 3 - b - p = a := by omega
      have e2 : 3 - a - p = b := by omega
      rw [e1, e2, G_perf hr i lowu a ha (by omega), G_perf hr i low b hb (by omega)]
      omega
theorem G_move {f u : Nat → Nat} {i a b : Nat} (m : Moved f u i a b) (hf : ∀ j, f j < 3) : ∀ k p, p < 3 → G u k p ≤ G f k p + 1 := by
  intro k
  induction k with
  | zero => intro p _; simp [G]
  | succ k ih =>
    intro p hp
    by_cases hk : k < i
    · rw [G_congr (k + 1) (fun j hj => m.same j (by omega))]; omega
    · by_cases e : k = i
      · subst e; exact G_at m p hp
      · rw [G, G, m.same k (by omega)]
        have h3 := hf k
        by_cases hpk : f k = p
        · rw [if_pos hpk, if_pos hpk]; exact ih p hp
        · rw [if_neg hpk, if_neg hpk]
          have := ih (3 - f k - p) (by omega)
          omega
theorem F_one {f u : Nat → Nat} {i a b : Nat} (m : Moved f u i a b) : ∀ n, i < n → F f u n = 1 := by
  intro n
  induction n with
  | zero => intro h; omega
  | succ n ih =>
    intro h
    by_cases e : n = i
    · subst e
      have lowu : ∀ j, j < n → u j = 3 - a - b := fun j hj => by rw [m.same j (by omega), m.low j hj]
      rw [F, m.fi, m.ui, if_neg m.ne]
      unfold D once twice
      rw [m.fi, m.ui, G_all n m.low, G_all n lowu]
      omega
    · rw [F, m.same n (by omega), if_pos rfl]; exact ih (by omega)
theorem F_move {f u t : Nat → Nat} {i a b : Nat} (m : Moved f u i a b) (hf : ∀ j, f j < 3) (ht : ∀ j, t j < 3) : ∀ n, i < n → F u t n ≤ F f t n + 1 := by
  intro n
  induction n with
  | zero => intro h; omega
  | succ n ih =>
    intro h
    by_cases e : n = i
    · subst e
      have lowu : ∀ j, j < n → u j = 3 - a - b := fun j hj => by rw [m.same j (by omega), m.low j hj]
      have h2 := two_pos n
      have ha := m.ha; have hb := m.hb; have hne := m.ne; have htn := ht n
      have hr : 3 - a - b < 3 := by omega
      rw [F, F, m.fi, m.ui]
      by_cases h1 : b = t n
      · rw [if_pos h1, if_neg (by omega), F_perf hr ht n lowu]
        unfold D once twice
        rw [m.fi, ← h1, G_all n m.low]
        have := G_perf hr n m.low b hb (by omega)
        have := G_lt t n (3 - a - b)
        omega
      · rw [if_neg h1]
        by_cases h3 : a = t n
        · rw [if_pos h3, F_perf hr ht n m.low]
          unfold D once
          rw [m.ui, ← h3, show 3 - b - a = 3 - a - b from by omega, G_all n lowu]
          omega
        · rw [if_neg h3]
          have htr : t n = 3 - a - b := by omega
          unfold D once twice
          rw [m.fi, m.ui, htr]
          rw [show 3 - a - (3 - a - b) = b from by omega, show 3 - b - (3 - a - b) = a from by omega]
          rw [G_perf hr n m.low b hb (by omega), G_perf hr n lowu a ha (by omega), G_all n m.low, G_all n lowu]
          omega
    · have hi := ih (by omega)
      rw [F, F, m.same n (by omega)]
      by_cases h1 : f n = t n
      · rw [if_pos h1, if_pos h1]; exact hi
      · rw [if_neg h1, if_neg h1]
        have h3 := hf n; have h4 := ht n
        have g1 := G_move m hf n (3 - f n - t n) (by omega)
        have g2 := G_move m hf n (t n) (by omega)
        unfold D once twice
        rw [m.same n (by omega)]
        omega
end Go.Proofs.Ytfjlhghiadoodaa
