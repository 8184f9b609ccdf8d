/- Draughts, plainly: what a way makes of a board, rows of ways counted, and the beginning's numbers; no program in sight. -/
import Derived.Test.YtelhpfhnmnaefaaDrP
namespace Go.Proofs.Ytelhpfhnmnaefaa

def midF (a b d : Nat) : Bool := decide (0 < nxt a d) && decide (nxt (nxt a d) d = b)
/-- what is leapt between two places; 0: nothing. -/
def midS (a b : Nat) : Nat := if midF a b 0 then nxt a 0 else if midF a b 1 then nxt a 1 else if midF a b 2 then nxt a 2 else if midF a b 3 then nxt a 3 else 0
def stN (l : List Nat) (i : Nat) : Nat := l[i]?.getD 0
def clr (b : List Int) (way : List Nat) : Nat → List Int
  | 0 => b
  | k + 1 => if 0 < midS (stN way k) (stN way (k + 1)) then (clr b way k).set (midS (stN way k) (stN way (k + 1))) 0 else clr b way k
def endP (b : List Int) (s : Int) (way : List Nat) : Int := if lastS s (lst way) = true then 2 * s else b[fst way]?.getD 0
def doS (b : List Int) (s : Int) (way : List Nat) : List Int := (clr (b.set (fst way) 0) way (way.length - 1)).set (lst way) (endP b s way)

def insL (x : List Nat) : List (List Nat) → List (List Nat)
  | [] => [x]
  | y :: r => if cmpL x y < 0 then x :: y :: r else if cmpL x y = 0 then y :: r else y :: insL x r
def canonL (l : List (List Nat)) : List (List Nat) := l.foldr insL []
theorem ins_mem (x : List Nat) : ∀ (l : List (List Nat)) (z : List Nat), z ∈ insL x l ↔ z = x ∨ z ∈ l
  | [], z => by simp [insL]
  | y :: r, z => by
    unfold insL
    split
    · simp
    · split
      · rename_i h; have := cmpL_zero x y h; subst this; simp
      · simp only [List.mem_cons, ins_mem x r z]
        constructor
        · rintro (h | h | h)
          · exact .inr (.inl h)
          · exact .inl h
          · exact .inr (.inr h)
        · rintro (h | h | h)
          · exact .inr (.inl h)
          · exact .inl h
          · exact .inr (.inr h)
theorem cmp_lt_trans {x y z : List Nat} (h1 : cmpL x y < 0) (h2 : cmpL y z < 0) : cmpL x z < 0 := by
  have := cmpL_trans x y z (by omega) (by omega)
  rcases cmpL_range x z with h | h | h
  · omega
  · have := this.2 h; omega
  · omega
theorem ins_strict (x : List Nat) : ∀ (l : List (List Nat)), Strict l → Strict (insL x l)
  | [], _ => List.pairwise_singleton _ _
  | y :: r, h => by
    obtain ⟨h1, h2⟩ := List.pairwise_cons.1 h
    unfold insL
    split
    · rename_i hc
      refine List.pairwise_cons.2 ⟨fun z hz => ?_, h⟩
      rcases List.mem_cons.1 hz with rfl | hz
      · exact hc
      · exact cmp_lt_trans hc (h1 z hz)
    · split
      · exact h
      · rename_i hc hd
        refine List.pairwise_cons.2 ⟨fun z hz => ?_, ins_strict x r h2⟩
        rcases (ins_mem x r z).1 hz with rfl | hz
        · have := cmpL_neg z y
          rcases cmpL_range z y with h | h | h <;> omega
        · exact h1 z hz
theorem canon_strict : ∀ l, Strict (canonL l)
  | [] => List.Pairwise.nil
  | x :: l => ins_strict x _ (canon_strict l)
theorem canon_mem : ∀ (l : List (List Nat)) (z : List Nat), z ∈ canonL l ↔ z ∈ l
  | [], z => by simp [canonL]
  | x :: l, z => by
    show z ∈ insL x (canonL l) ↔ _
    rw [ins_mem, canon_mem l z, List.mem_cons]
theorem canon_ways (b : List Int) (s : Int) : Ways b s (canonL (outS b s)) := ⟨canon_strict _, canon_mem _⟩
theorem ways_canon {b : List Int} {s : Int} {R : List (List Nat)} (h : Ways b s R) : R = canonL (outS b s) := strict_eq _ _ h.st (canon_strict _) fun x => by rw [h.mem, canon_mem]

def cntS : Nat → List Int → Int → Nat
  | 0, _, _ => 1
  | k + 1, b, s => ((canonL (outS b s)).map fun w => cntS k (doS b s w) (-s)).sum
def okB (b : List Int) : Bool := decide (b.length = 33) && b.all (fun x => decide (-2 ≤ x ∧ x ≤ 2)) && decide (b.countP (fun x => decide (0 < x)) ≤ 12) && decide (b.countP (fun x => decide (x < 0)) ≤ 12)
/-- all boards that are counted over are boards. -/
def chkS : Nat → List Int → Int → Bool
  | 0, _, _ => true
  | k + 1, b, s => okB b && (canonL (outS b s)).all fun w => chkS k (doS b s w) (-s)
def newB : List Int := [0, -1, -1, -1, -1, -1, -1, -1, -1, -1, -1, -1, -1, 0, 0, 0, 0, 0, 0, 0, 0, 1, 1, 1, 1, 1, 1, 1, 1, 1, 1, 1, 1]
theorem cnt1 : cntS 1 newB 1 = 7 := by decide +kernel
theorem cnt2 : cntS 2 newB 1 = 49 := by decide +kernel
theorem cnt3 : cntS 3 newB 1 = 302 := by decide +kernel
theorem chk3 : chkS 1 newB 1 = true ∧ chkS 2 newB 1 = true ∧ chkS 3 newB 1 = true := by decide +kernel

/-! ### how many ways there are -/
def E (b : List Int) (s : Int) (over : List Nat) : Nat := (List.range 33).countP fun m => decide (atS b s m < 0) && decide (m ∉ over)
theorem countP_le {α : Type} {p q : α → Bool} : ∀ (l : List α), (∀ x ∈ l, p x = true → q x = true) → l.countP p ≤ l.countP q
  | [], _ => Nat.le_refl _
  | a :: l, h => by
    have ih := countP_le l fun x hx => h x (List.mem_cons_of_mem _ hx)
    rw [List.countP_cons, List.countP_cons]
    by_cases hp : p a = true
    · rw [if_pos hp, if_pos (h a (List.mem_cons_self ..) hp)]; omega
    · rw [if_neg hp]; split <;> omega
theorem countP_lt {α : Type} {p q : α → Bool} : ∀ (l : List α), (∀ x ∈ l, p x = true → q x = true) → (∃ x ∈ l, q x = true ∧ p x = false) → l.countP p < l.countP q
  | [], _, ⟨x, hx, _⟩ => by simp at hx
  | a :: l, h, ⟨x, hx, h1, h2⟩ => by
    have ih := countP_le l fun x hx => h x (List.mem_cons_of_mem _ hx)
    rw [List.countP_cons, List.countP_cons]
    rcases List.mem_cons.1 hx with rfl | hx
    · rw [if_pos h1, if_neg (by rw [h2]; simp)]; omega
    · have ih2 := countP_lt l (fun x hx => h x (List.mem_cons_of_mem _ hx)) ⟨x, hx, h1, h2⟩
      by_cases hp : p a = true
      · rw [if_pos hp, if_pos (h a (List.mem_cons_self ..) hp)]; omega
      · rw [if_neg hp]; split <;> omega
theorem E_less {b : List Int} {s : Int} {over : List Nat} {m : Nat} (h1 : m ≤ 32) (h2 : atS b s m < 0) (h3 : m ∉ over) : E b s (over ++ [m]) < E b s over := by
  unfold E
  apply countP_lt
  · intro x _ hx
    simp only [Bool.and_eq_true, decide_eq_true_eq, List.mem_append, not_or] at hx ⊢
    exact ⟨hx.1, hx.2.1⟩
  · exact ⟨m, by simp; omega, by simp [h2, h3], by simp⟩
theorem flat_le {α β : Type} {g : α → List β} {c : Nat} : ∀ (l : List α), (∀ x ∈ l, (g x).length ≤ c) → (l.flatMap g).length ≤ l.length * c
  | [], _ => by simp
  | a :: l, h => by
    have ih := flat_le l fun x hx => h x (List.mem_cons_of_mem _ hx)
    have := h a (List.mem_cons_self ..)
    simp only [List.flatMap_cons, List.length_append, List.length_cons, Nat.add_mul, Nat.one_mul]
    omega
theorem dirs_len (piece s : Int) : (dirsS piece s).length ≤ 4 := by unfold dirsS; split; decide; split <;> decide
theorem jumps_len (b : List Int) (s piece : Int) : ∀ (f : Nat) (way over : List Nat), (jumpsS b s piece f way over).length ≤ 4 ^ f
  | 0, _, _ => by simp [jumpsS]
  | f + 1, way, over => by
    have hp : 1 ≤ 4 ^ f := Nat.one_le_pow _ _ (by omega)
    have h1 : ∀ d ∈ dirsS piece s, ((stp b s way over d).elim [] fun r => if piece = 1 ∧ lastS s r.2 = true then [way ++ [r.2]] else jumpsS b s piece f (way ++ [r.2]) (over ++ [r.1])).length ≤ 4 ^ f := by
      intro d _
      cases stp b s way over d with
      | none => simp
      | some r =>
        simp only [Option.elim_some]
        split
        · simpa using hp
        · exact jumps_len b s piece f _ _
    have h2 := flat_le _ h1
    have h3 := dirs_len piece s
    have h4 : (dirsS piece s).length * 4 ^ f ≤ 4 * 4 ^ f := Nat.mul_le_mul_right _ h3
    unfold jumpsS
    simp only [List.length_append]
    rw [Nat.pow_succ, Nat.mul_comm]
    split
    · rename_i hc
      have h0 : ((dirsS piece s).flatMap fun d => (stp b s way over d).elim [] fun r => if piece = 1 ∧ lastS s r.2 = true then [way ++ [r.2]] else jumpsS b s piece f (way ++ [r.2]) (over ++ [r.1])) = [] := by
        rw [List.flatMap_eq_nil_iff]
        intro d hd
        have := List.all_eq_true.1 hc.1 d hd
        cases he : stp b s way over d with
        | none => rfl
        | some r => rw [he] at this; cases this
      rw [h0]
      simp; omega
    · simp only [List.length_nil]; omega
theorem leaps_len (b : List Int) (s : Int) (p : Nat) : (leapsS b s p).length ≤ 67108864 := by
  unfold leapsS
  split
  · exact jumps_len b s _ 13 _ _
  · simp
theorem steps_len (b : List Int) (s : Int) (p : Nat) : (stepsS b s p).length ≤ 4 := by
  unfold stepsS
  split
  · have := flat_le (c := 1) (dirsS (atS b s p) s) (g := fun d => if nxt p d ≠ 0 ∧ atS b s (nxt p d) = 0 then [[p, nxt p d]] else []) (by intro d _; split <;> simp)
    have := dirs_len (atS b s p) s
    omega
  · simp
end Go.Proofs.Ytelhpfhnmnaefaa
