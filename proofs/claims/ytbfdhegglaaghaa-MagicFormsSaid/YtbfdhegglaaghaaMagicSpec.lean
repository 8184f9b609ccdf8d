/- The plain law of gameroomkeep.MagicProducts: lines of a square, their sums, squares that are made, and products, as functions on lists; no program in sight, no conditions. -/
namespace Go.Proofs.Ytbfdhegglaaghaa

def st (s : List Nat) (i : Nat) : Nat := s[i]?.getD 0
/-- the i-th place of the k-th line of a kind: 0 rows, 1 columns, 2 down, 3 up. -/
def px (kd k i : Nat) : Nat := if kd = 0 then i else if kd = 1 then k else i + k
def py (kd n k i : Nat) : Nat := if kd = 0 then k else if kd = 1 then i else if kd = 2 then i else n - 1 - i
def place (kd n k i : Nat) : Nat := py kd n k i % n * n + px kd k i % n
def sumS (l : List Nat) (n kd k j : Nat) : Nat := (List.range j).foldl (fun s i => s + st l (place kd n k i)) 0
theorem sumS_succ (l : List Nat) (n kd k j : Nat) : sumS l n kd k (j + 1) = sumS l n kd k j + st l (place kd n k j) := by simp [sumS, List.range_succ]
def alikeS (l : List Nat) (n want kd : Nat) : Bool := (List.range n).all fun k => sumS l n kd k n == want
theorem alikeS_yes {l : List Nat} {n want kd : Nat} (h : ∀ k, k < n → sumS l n kd k n = want) : alikeS l n want kd = true := by
  unfold alikeS
  rw [List.all_eq_true]
  intro k hk
  have := h k (by simpa using hk)
  simp [this]
theorem alikeS_no {l : List Nat} {n want kd k : Nat} (hk : k < n) (h : sumS l n kd k n ≠ want) : alikeS l n want kd = false := by
  unfold alikeS
  rw [Bool.eq_false_iff]
  intro hh
  rw [List.all_eq_true] at hh
  have := hh k (by simpa using hk)
  simp at this
  exact h this
def kindS (l : List Nat) (n : Nat) : Nat × Nat :=
  let want := sumS l n 0 0 n
  if alikeS l n want 0 = false ∨ alikeS l n want 1 = false then (0, 0)
  else if alikeS l n want 2 = false ∨ alikeS l n want 3 = false then (if sumS l n 2 0 n = want ∧ sumS l n 3 0 n = want then (2, want) else (1, want))
  else (3, want)

/-- one step of the odd square's maker: the list, where it is. -/
def oddStep (n : Nat) (s : List Nat × Nat × Nat) (v : Nat) : List Nat × Nat × Nat :=
  let l := s.1.set (s.2.2 * n + s.2.1) v
  let a := (s.2.1 + 1) % n
  let b := (s.2.2 + n - 1) % n
  if st l (b * n + a) = 0 then (l, a, b) else (l, s.2.1, (s.2.2 + 1) % n)
def oddN (n j : Nat) : List Nat × Nat × Nat := (List.range j).foldl (fun s v => oddStep n s (v + 1)) (List.replicate (n * n) 0, n / 2, 0)
theorem oddN_succ (n j : Nat) : oddN n (j + 1) = oddStep n (oddN n j) (j + 1) := by simp [oddN, List.range_succ]
theorem oddN_inv (n : Nat) (hn : 1 ≤ n) (j : Nat) : (oddN n j).1.length = n * n ∧ (oddN n j).2.1 < n ∧ (oddN n j).2.2 < n := by
  induction j with
  | zero => exact ⟨by simp [oddN], by simp [oddN]; omega, by simp [oddN]; omega⟩
  | succ j ih =>
    rw [oddN_succ]
    obtain ⟨h1, h2, h3⟩ := ih
    unfold oddStep
    simp only
    split
    · exact ⟨by simpa using h1, Nat.mod_lt _ (by omega), Nat.mod_lt _ (by omega)⟩
    · exact ⟨by simpa using h1, h2, Nat.mod_lt _ (by omega)⟩
def oddS (n : Nat) : List Nat := (oddN n (n * n)).1
def dbl (n i : Nat) : Nat := if i % n % 4 = i / n % 4 ∨ i % n % 4 + i / n % 4 = 3 then n * n - i else i + 1
def dblN (n j : Nat) : List Nat := (List.range j).map (dbl n) ++ List.replicate (n * n - j) 0
def madeS (n : Nat) : List Nat := if n = 4 then dblN 4 16 else oddS n
def prodAt (a : List Nat) (n : Nat) (b : List Nat) (m y x : Nat) : Nat := (st a (y / m * n + x / m) - 1) * m * m + st b (y % m * m + x % m)
def prodX (a : List Nat) (n : Nat) (b : List Nat) (m y x : Nat) : List Nat := (List.range x).map (prodAt a n b m y)
def prodY (a : List Nat) (n : Nat) (b : List Nat) (m y : Nat) : List Nat := (List.range y).flatMap fun y' => prodX a n b m y' (n * m)
theorem prodX_succ (a : List Nat) (n : Nat) (b : List Nat) (m y x : Nat) : prodX a n b m y (x + 1) = prodX a n b m y x ++ [prodAt a n b m y x] := by simp [prodX, List.range_succ]
theorem prodY_succ (a : List Nat) (n : Nat) (b : List Nat) (m y : Nat) : prodY a n b m (y + 1) = prodY a n b m y ++ prodX a n b m y (n * m) := by simp [prodY, List.range_succ, List.flatMap_append]
theorem prodX_len (a : List Nat) (n : Nat) (b : List Nat) (m y x : Nat) : (prodX a n b m y x).length = x := by simp [prodX]
theorem prodY_len (a : List Nat) (n : Nat) (b : List Nat) (m y : Nat) : (prodY a n b m y).length = y * (n * m) := by
  induction y with
  | zero => simp [prodY]
  | succ y ih => rw [prodY_succ, List.length_append, ih, prodX_len, Nat.add_mul, Nat.one_mul]

/-- the two sides that are taken. -/
def sides (a b : Nat) : Nat × Nat :=
  let n := if a = 2 then 3 else a
  let m := if b = 2 then 3 else b
  if 12 < n * m then (3, 3) else (n, m)
def made4 : Bool := [1, 3, 4].all fun n => (madeS n).length == n * n && (madeS n).all (fun x => decide (1 ≤ x) && decide (x ≤ n * n))
theorem made4_true : made4 = true := by decide +kernel
theorem made_ok (n : Nat) (h : n = 1 ∨ n = 3 ∨ n = 4) : (madeS n).length = n * n ∧ ∀ x ∈ madeS n, 1 ≤ x ∧ x ≤ n * n := by
  have h1 := made4_true
  unfold made4 at h1
  rw [List.all_eq_true] at h1
  have h2 := h1 n (by rcases h with rfl | rfl | rfl <;> simp)
  simp only [Bool.and_eq_true, beq_iff_eq, List.all_eq_true, decide_eq_true_eq] at h2
  exact h2
def lawAt (n m : Nat) : Bool :=
  let p := prodY (madeS n) n (madeS m) m (n * m)
  decide (2 ≤ (kindS p (n * m)).1) && (kindS p (n * m)).2 == n * m * (n * m * (n * m) + 1) / 2 && p.all (fun x => decide (x ≤ 1000))
def laws : Bool := (List.range 4).all fun a => (List.range 4).all fun b => lawAt (sides (a + 1) (b + 1)).1 (sides (a + 1) (b + 1)).2
theorem laws_true : laws = true := by decide +kernel
theorem law_true (a b : Nat) (ha : a < 4) (hb : b < 4) : lawAt (sides (a + 1) (b + 1)).1 (sides (a + 1) (b + 1)).2 = true := by
  have h := laws_true
  unfold laws at h
  simp only [List.all_eq_true, List.mem_range] at h
  exact h a ha b hb
end Go.Proofs.Ytbfdhegglaaghaa
