/- May, plainly; how it goes with a turned board, and how many there are to leap. -/
import Derived.Test.YtelhpfhnmnaefaaDrQ
namespace Go.Proofs.Ytelhpfhnmnaefaa

def gtD (b : List Int) (p : Nat) : Int := b[p]?.getD 0
/-- a place is in order. -/
def okP (b : List Int) (p : Nat) : Bool := !(decide (gtD b p < -2) || decide (2 < gtD b p) || (decide (gtD b p = 1) && decide (p ≤ 4)) || (decide (gtD b p = -1) && decide (29 ≤ p)))
def up1 (b : List Int) (k : Nat) : Nat := (List.range k).countP fun p => decide (0 < gtD b p)
def dn1 (b : List Int) (k : Nat) : Nat := (List.range k).countP fun p => decide (gtD b p < 0)
def mayB (b : List Int) (t : Int) : Bool := decide (b.length = 33) && decide (gtD b 0 = 0) && (decide (t = 1) || decide (t = 2)) && (List.range 33).all (okP b) && decide (up1 b 33 ≤ 12) && decide (dn1 b 33 ≤ 12)

theorem up1_succ (b : List Int) (k : Nat) : up1 b (k + 1) = up1 b k + if 0 < gtD b k then 1 else 0 := by
  unfold up1
  rw [List.range_succ, List.countP_append, List.countP_singleton]
  simp only [decide_eq_true_eq]
theorem dn1_succ (b : List Int) (k : Nat) : dn1 b (k + 1) = dn1 b k + if gtD b k < 0 then 1 else 0 := by
  unfold dn1
  rw [List.range_succ, List.countP_append, List.countP_singleton]
  simp only [decide_eq_true_eq]
theorem up1_le (b : List Int) (k : Nat) : up1 b k ≤ k := by
  unfold up1; have := List.countP_le_length (p := fun p => decide (0 < gtD b p)) (l := List.range k); simpa using this
theorem dn1_le (b : List Int) (k : Nat) : dn1 b k ≤ k := by
  unfold dn1; have := List.countP_le_length (p := fun p => decide (gtD b p < 0)) (l := List.range k); simpa using this

theorem E_up (b : List Int) : E b (-1) [] = up1 b 33 := by
  unfold E up1
  congr 1
  funext m
  simp only [atS, gtD, List.not_mem_nil, not_false_eq_true, decide_true, Bool.and_true]
  apply decide_eq_decide.2
  omega
theorem E_dn (b : List Int) : E b 1 [] = dn1 b 33 := by
  unfold E dn1
  congr 1
  funext m
  simp only [atS, gtD, List.not_mem_nil, not_false_eq_true, decide_true, Bool.and_true]
  apply decide_eq_decide.2
  omega
theorem E_may {b : List Int} (h1 : up1 b 33 ≤ 12) (h2 : dn1 b 33 ≤ 12) {s : Int} (hs : s = 1 ∨ s = -1) : E b s [] < 13 := by
  rcases hs with rfl | rfl
  · rw [E_dn]; omega
  · rw [E_up]; omega

structure MayOk (b : List Int) (t : Int) : Prop where
  len : b.length = 33
  zero : gtD b 0 = 0
  turn : t = 1 ∨ t = 2
  pl : ∀ p, p < 33 → okP b p = true
  up : up1 b 33 ≤ 12
  dn : dn1 b 33 ≤ 12
theorem may_iff (b : List Int) (t : Int) : mayB b t = true ↔ MayOk b t := by
  unfold mayB
  simp only [Bool.and_eq_true, Bool.or_eq_true, decide_eq_true_eq, List.all_eq_true, List.mem_range]
  constructor
  · rintro ⟨⟨⟨⟨⟨h1, h2⟩, h3⟩, h4⟩, h5⟩, h6⟩; exact ⟨h1, h2, h3, h4, h5, h6⟩
  · rintro ⟨h1, h2, h3, h4, h5, h6⟩; exact ⟨⟨⟨⟨⟨h1, h2⟩, h3⟩, h4⟩, h5⟩, h6⟩
theorem okP_iff (b : List Int) (p : Nat) : okP b p = true ↔ -2 ≤ gtD b p ∧ gtD b p ≤ 2 ∧ ¬ (gtD b p = 1 ∧ p ≤ 4) ∧ ¬ (gtD b p = -1 ∧ 29 ≤ p) := by
  unfold okP
  simp only [Bool.not_eq_true', Bool.or_eq_false_iff, Bool.and_eq_false_iff, decide_eq_false_iff_not]
  omega
theorem okP_iff_no (b : List Int) (p : Nat) : okP b p = false ↔ gtD b p < -2 ∨ 2 < gtD b p ∨ (gtD b p = 1 ∧ p ≤ 4) ∨ (gtD b p = -1 ∧ 29 ≤ p) := by
  rw [← Bool.not_eq_true, okP_iff]
  omega
theorem MayOk.val {b : List Int} {t : Int} (h : MayOk b t) (i : Nat) : -2 ≤ b[i]?.getD 0 ∧ b[i]?.getD 0 ≤ 2 := by
  by_cases hi : i < 33
  · have := (okP_iff b i).1 (h.pl i hi); exact ⟨this.1, this.2.1⟩
  · have e : b[i]? = none := List.getElem?_eq_none (by have := h.len; omega)
    rw [e]; simp

theorem rev33 : (List.range 33) = 0 :: ((List.range 32).map fun p => 32 - p).reverse := by decide
theorem fwd33 : (List.range 33) = 0 :: (List.range 32).map fun p => p + 1 := by decide
theorem count_turn (f g : Nat → Bool) (h0 : f 0 = g 0) (h : ∀ p, 1 ≤ p → p ≤ 32 → f p = g (33 - p)) : (List.range 33).countP f = (List.range 33).countP g := by
  have h1 : (List.range 33).countP f = (f 0).toNat + (List.range 32).countP (fun p => f (p + 1)) := by
    rw [fwd33, List.countP_cons, List.countP_map]
    cases f 0 <;> simp [Function.comp_def] <;> omega
  have h2 : (List.range 33).countP g = (g 0).toNat + (List.range 32).countP (fun p => g (32 - p)) := by
    rw [rev33, List.countP_cons, List.countP_reverse, List.countP_map]
    cases g 0 <;> simp [Function.comp_def] <;> omega
  rw [h1, h2, h0]
  congr 1
  apply List.countP_congr
  intro p hp
  rw [List.mem_range] at hp
  rw [h (p + 1) (by omega) (by omega), show 33 - (p + 1) = 32 - p by omega]
theorem MayOk.turned {b c : List Int} {t : Int} (h : MayOk b t) (hT : Tn b c) (hl : c.length = 33) (h0 : gtD c 0 = 0) : MayOk c (3 - t) := by
  have hg : ∀ p, 1 ≤ p → p ≤ 32 → gtD c p = - gtD b (33 - p) := hT
  refine ⟨hl, h0, by have := h.turn; omega, fun p hp => ?_, ?_, ?_⟩
  · by_cases e : p = 0
    · subst e; rw [okP_iff, h0]; omega
    · have h1 := (okP_iff b (33 - p)).1 (h.pl _ (by omega))
      rw [okP_iff, hg p (by omega) (by omega)]
      omega
  · have : up1 c 33 = dn1 b 33 := count_turn _ _ (by simp [h0, h.zero]) fun p h1 h2 => by rw [hg p h1 h2]; apply decide_eq_decide.2; omega
    rw [this]; exact h.dn
  · have : dn1 c 33 = up1 b 33 := count_turn _ _ (by simp [h0, h.zero]) fun p h1 h2 => by rw [hg p h1 h2]; apply decide_eq_decide.2; omega
    rw [this]; exact h.up

theorem okB_E {b : List Int} (h : okB b = true) : b.length = 33 ∧ (∀ i : Nat, -2 ≤ b[i]?.getD 0 ∧ b[i]?.getD 0 ≤ 2) ∧ ∀ s : Int, (s = 1 ∨ s = -1) → E b s [] < 13 := by
  unfold okB at h
  simp only [Bool.and_eq_true, decide_eq_true_eq, List.all_eq_true] at h
  obtain ⟨⟨⟨hl, hv⟩, hu⟩, hd⟩ := h
  have hb : b = (List.range 33).map (gtD b) := by
    apply List.ext_getElem (by simp [hl])
    intro i h1 h2
    simp [gtD, h1]
  refine ⟨hl, fun i => ?_, fun s hs => E_may ?_ ?_ hs⟩
  · by_cases hi : i < b.length
    · rw [List.getElem?_eq_getElem hi]; exact hv _ (List.getElem_mem hi)
    · rw [List.getElem?_eq_none (by omega)]; simp
  · rw [hb, List.countP_map] at hu; exact hu
  · rw [hb, List.countP_map] at hd; exact hd
theorem chk_succ {k : Nat} {b : List Int} {s : Int} (h : chkS (k + 1) b s = true) : okB b = true ∧ ∀ w ∈ canonL (outS b s), chkS k (doS b s w) (-s) = true := by
  unfold chkS at h
  simp only [Bool.and_eq_true, List.all_eq_true] at h
  exact h
/-- the first i ways counted. -/
def part (k : Nat) (b : List Int) (s : Int) (R : List (List Nat)) (i : Nat) : Nat := ((R.take i).map fun w => cntS k (doS b s w) (-s)).sum
theorem part_succ (k : Nat) (b : List Int) (s : Int) (R : List (List Nat)) {i : Nat} (hi : i < R.length) : part k b s R (i + 1) = part k b s R i + cntS k (doS b s R[i]) (-s) := by
  unfold part
  rw [List.take_add_one, List.getElem?_eq_getElem hi, List.map_append, List.sum_append_nat]
  rfl
theorem part_all {k : Nat} {b : List Int} {s : Int} {R : List (List Nat)} (h : Ways b s R) : part k b s R R.length = cntS (k + 1) b s := by
  show _ = ((canonL (outS b s)).map fun w => cntS k (doS b s w) (-s)).sum
  unfold part
  rw [List.take_length, ← ways_canon h]
theorem part_le (k : Nat) (b : List Int) (s : Int) (R : List (List Nat)) (i : Nat) (hi : i ≤ R.length) : part k b s R i ≤ part k b s R R.length := by
  obtain ⟨d, hd⟩ : ∃ d, R.length = i + d := ⟨R.length - i, by omega⟩
  rw [hd]
  clear hi
  induction d generalizing i with
  | zero => exact Nat.le_refl _
  | succ d ih =>
    refine Nat.le_trans ?_ (ih (i + 1) (by omega) |> fun h => by rwa [show i + 1 + d = i + (d + 1) by omega] at h)
    by_cases h : i < R.length
    · rw [part_succ k b s R h]; omega
    · omega
end Go.Proofs.Ytelhpfhnmnaefaa
