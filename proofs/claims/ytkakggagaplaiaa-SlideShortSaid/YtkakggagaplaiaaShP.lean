/- Boards of six places, ring by ring from home: what is found when, and the way back; plain. -/
import Derived.Test.YtkakggagaplaiaaSlP
namespace Go.Proofs.Ytkakggagaplaiaa

/-- a move: the gap and a stone change places. -/
def mvB (a b : Nat) (l : List Nat) (d : Nat) : Option (List Nat) := match frm a b (ixN l 0) d with
  | none => none
  | some k => some (exc l (ixN l 0) k)
/-- how a board was come to. -/
def lkC (cm : List (List Nat × Int)) (l : List Nat) : Option Int := (cm.find? fun e => e.1 == l).map (·.2)
def stD (a b : Nat) (t : List Nat) (acc : List (List Nat × Int) × List (List Nat)) (d : Nat) : List (List Nat × Int) × List (List Nat) := match mvB a b t d with
  | none => acc
  | some u => if (lkC acc.1 u).isSome then acc else ((u, (d : Int)) :: acc.1, acc.2 ++ [u])
def stT (a b : Nat) (acc : List (List Nat × Int) × List (List Nat)) (t : List Nat) : List (List Nat × Int) × List (List Nat) := (List.range 4).foldl (stD a b t) acc
def rgS (a b : Nat) (s : List (List Nat × Int) × List (List Nat)) : List (List Nat × Int) × List (List Nat) := s.2.foldl (stT a b) (s.1, [])
def hmB : List Nat := [1, 2, 3, 4, 5, 0]
def sg0 : List (List Nat × Int) × List (List Nat) := ([(hmB, -1)], [hmB])
def itR (a b : Nat) : Nat → List (List Nat × Int) × List (List Nat) → List (List Nat × Int) × List (List Nat)
  | 0, s => s
  | j + 1, s => itR a b j (rgS a b s)
theorem itR_succ (a b : Nat) : ∀ j s, itR a b (j + 1) s = rgS a b (itR a b j s)
  | 0, _ => rfl
  | j + 1, s => itR_succ a b j (rgS a b s)
def stg (a b d : Nat) : List (List Nat × Int) × List (List Nat) := itR a b d sg0
theorem stg_succ (a b d : Nat) : stg a b (d + 1) = rgS a b (stg a b d) := itR_succ a b d sg0
/-- how far a stone is from its place. -/
def dsS (x y : Nat) : Nat := (x - y) + (y - x)
def lsS (a : Nat) (l : List Nat) : Nat → Nat
  | 0 => 0
  | i + 1 => lsS a l i + if 0 < st l i then dsS (i % a) ((st l i - 1) % a) + dsS (i / a) ((st l i - 1) / a) else 0
def okB (a b d : Nat) (l : List Nat) : Bool := decide (lsS a l 6 ≤ d) && d % 2 == (a - 1 - ixN l 0 % a + (b - 1) - ixN l 0 / a) % 2
def chk (a b : Nat) : Nat → Nat → List (List Nat × Int) × List (List Nat) → Option Nat
  | 0, _, s => if s.2.isEmpty then some 0 else none
  | f + 1, d, s => if !s.2.isEmpty && s.2.all (okB a b d) then (chk a b f (d + 1) (rgS a b s)).map (· + s.2.length) else none
def cdB (l : List Nat) : Nat := l.foldl (fun n x => n * 6 + x) 0
def mskB (cm : List (List Nat × Int)) : Nat := cm.foldl (fun m e => m ||| 2 ^ cdB e.1) 0
def covN (a b n m : Nat) : Bool := (List.range n).all fun k => m.testBit (cdB (nth 6 k)) == canS a b (nth 6 k)
def cov (a b n : Nat) : Nat → List (List Nat × Int) × List (List Nat) → Bool
  | 0, s => covN a b n (mskB s.1)
  | f + 1, s => cov a b n f (rgS a b s)
theorem chk23 : chk 2 3 22 0 sg0 = some 360 := by decide +kernel
theorem chk32 : chk 3 2 22 0 sg0 = some 360 := by decide +kernel
theorem cov23 : cov 2 3 720 22 sg0 = true := by decide +kernel
theorem cov32 : cov 3 2 720 22 sg0 = true := by decide +kernel

/-! ### what the checks say -/
def smR (a b : Nat) : Nat → List (List Nat × Int) × List (List Nat) → Nat
  | 0, _ => 0
  | f + 1, s => smR a b f s + (itR a b f s).2.length
theorem smR_front (a b : Nat) : ∀ f s, smR a b (f + 1) s = smR a b f (rgS a b s) + s.2.length
  | 0, s => by simp [smR, itR]
  | f + 1, s => by
    have h := smR_front a b f s
    rw [smR, h, smR]
    have e : itR a b (f + 1) s = itR a b f (rgS a b s) := rfl
    rw [e]
    omega
theorem chk_says (a b : Nat) : ∀ f d s n, chk a b f d s = some n → (∀ j, j < f → (itR a b j s).2 ≠ [] ∧ ∀ l ∈ (itR a b j s).2, okB a b (d + j) l = true) ∧ (itR a b f s).2 = [] ∧ n = smR a b f s
  | 0, d, s, n, h => by
    unfold chk at h
    split at h
    · rename_i he
      refine ⟨fun j hj => absurd hj (Nat.not_lt_zero _), List.isEmpty_iff.1 he, ?_⟩
      injection h with h; exact h.symm
    · cases h
  | f + 1, d, s, n, h => by
    unfold chk at h
    split at h
    · rename_i he
      rw [Bool.and_eq_true] at he
      obtain ⟨m, hm, rfl⟩ := Option.map_eq_some_iff.1 h
      obtain ⟨h1, h2, h3⟩ := chk_says a b f (d + 1) (rgS a b s) m hm
      refine ⟨fun j hj => ?_, h2, ?_⟩
      · match j, hj with
        | 0, _ => exact ⟨by have := he.1; intro e; rw [show (itR a b 0 s).2 = s.2 from rfl] at e; rw [e] at this; simp at this, fun l hl => List.all_eq_true.1 he.2 l hl⟩
        | j + 1, hj =>
          have := h1 j (by omega)
          rw [show d + 1 + j = d + (j + 1) by omega] at this
          exact this
      · rw [smR_front, h3]
    · cases h
theorem covN_says {a b n m : Nat} (h : covN a b n m = true) {k : Nat} (hk : k < n) : m.testBit (cdB (nth 6 k)) = canS a b (nth 6 k) := by
  unfold covN at h
  have := List.all_eq_true.1 h k (List.mem_range.2 hk)
  simpa using this
theorem cov_says (a b n f : Nat) (s : List (List Nat × Int) × List (List Nat)) (h : cov a b n f s = true) {k : Nat} (hk : k < n) : (mskB (itR a b f s).1).testBit (cdB (nth 6 k)) = canS a b (nth 6 k) := by
  induction f generalizing s with
  | zero => exact covN_says h hk
  | succ f ih => exact ih (rgS a b s) h
theorem mskB_bit (cm : List (List Nat × Int)) (c : Nat) : (mskB cm).testBit c = true → ∃ e ∈ cm, cdB e.1 = c := by
  have key : ∀ (cm : List (List Nat × Int)) (m : Nat), (cm.foldl (fun m e => m ||| 2 ^ cdB e.1) m).testBit c = true → m.testBit c = true ∨ ∃ e ∈ cm, cdB e.1 = c := by
    intro cm
    induction cm with
    | nil => intro m h; exact .inl h
    | cons e cm ih =>
      intro m h
      rcases ih _ h with h | ⟨e', he, hc⟩
      · rw [Nat.testBit_or, Bool.or_eq_true] at h
        rcases h with h | h
        · exact .inl h
        · rw [Nat.testBit_two_pow] at h
          exact .inr ⟨e, List.mem_cons_self, by simpa using h⟩
      · exact .inr ⟨e', List.mem_cons_of_mem _ he, hc⟩
  intro h
  rcases key cm 0 h with h | h
  · simp at h
  · exact h
theorem cd_inj {l l' : List Nat} (h : IsOrd 6 l) (h' : IsOrd 6 l') (e : cdB l = cdB l') : l = l' := by
  have hl := h.len
  have hl' := h'.len
  match l, hl, l', hl' with
  | [a, b, c, d, x, y], _, [a', b', c', d', x', y'], _ =>
    have q : ∀ z ∈ [a, b, c, d, x, y], z < 6 := fun z hz => h.lt hz
    have q' : ∀ z ∈ [a', b', c', d', x', y'], z < 6 := fun z hz => h'.lt hz
    simp only [List.mem_cons, List.not_mem_nil, or_false, forall_eq_or_imp, forall_eq] at q q'
    simp only [cdB, List.foldl] at e
    obtain ⟨q1, q2, q3, q4, q5, q6⟩ := q
    obtain ⟨r1, r2, r3, r4, r5, r6⟩ := q'
    obtain rfl : a = a' := by omega
    obtain rfl : b = b' := by omega
    obtain rfl : c = c' := by omega
    obtain rfl : d = d' := by omega
    obtain rfl : x = x' := by omega
    obtain rfl : y = y' := by omega
    rfl

/-! ### a ring -/
theorem lkC_cons (u l : List Nat) (x : Int) (cm : List (List Nat × Int)) : lkC ((u, x) :: cm) l = if u = l then some x else lkC cm l := by
  unfold lkC
  rw [List.find?_cons]
  by_cases h : u = l
  · simp [h]
  · simp [h, show (u == l) = false by simpa using h]
theorem lkC_some {cm : List (List Nat × Int)} {l : List Nat} {x : Int} (h : lkC cm l = some x) : (l, x) ∈ cm := by
  unfold lkC at h
  obtain ⟨e, he, rfl⟩ := Option.map_eq_some_iff.1 h
  have h1 := List.mem_of_find?_eq_some he
  have h2 := List.find?_some he
  simp only [beq_iff_eq] at h2
  rw [← h2]; exact h1
theorem lkC_mem {cm : List (List Nat × Int)} {e : List Nat × Int} (h : e ∈ cm) : (lkC cm e.1).isSome = true := by
  unfold lkC
  rw [Option.isSome_map, List.find?_isSome]
  exact ⟨e, h, by simp⟩
/-- what a part of a round has made. -/
structure Rg (a b : Nat) (cm0 : List (List Nat × Int)) (ring : List (List Nat)) (acc : List (List Nat × Int) × List (List Nat)) : Prop where
  old : ∀ l x, lkC cm0 l = some x → lkC acc.1 l = some x
  new : ∀ l ∈ acc.2, ∃ t ∈ ring, ∃ d, d < 4 ∧ mvB a b t d = some l ∧ lkC acc.1 l = some (d : Int)
  all : ∀ l, (lkC acc.1 l).isSome = true → (lkC cm0 l).isSome = true ∨ l ∈ acc.2
theorem Rg.step {a b : Nat} {cm0 : List (List Nat × Int)} {ring : List (List Nat)} {acc : List (List Nat × Int) × List (List Nat)} (h : Rg a b cm0 ring acc) {t : List Nat} (ht : t ∈ ring) {d : Nat} (hd : d < 4) : Rg a b cm0 ring (stD a b t acc d) := by
  unfold stD
  cases hm : mvB a b t d with
  | none => exact h
  | some u =>
    simp only
    split
    · exact h
    · rename_i hn
      have hn' : lkC acc.1 u = none := by simpa using hn
      refine ⟨fun l x hl => ?_, fun l hl => ?_, fun l hl => ?_⟩
      · have := h.old l x hl
        rw [lkC_cons, if_neg (fun e => by subst e; rw [hn'] at this; cases this)]
        exact this
      · rcases List.mem_append.1 hl with hl | hl
        · obtain ⟨t', ht', d', hd', hm', hx'⟩ := h.new l hl
          refine ⟨t', ht', d', hd', hm', ?_⟩
          rw [lkC_cons, if_neg (fun e => by subst e; rw [hn'] at hx'; cases hx')]
          exact hx'
        · rw [List.mem_singleton] at hl
          subst hl
          exact ⟨t, ht, d, hd, hm, by rw [lkC_cons, if_pos rfl]⟩
      · rw [lkC_cons] at hl
        by_cases e : u = l
        · exact .inr (List.mem_append_right _ (by simp [e]))
        · rw [if_neg e] at hl
          exact (h.all l hl).elim .inl fun h => .inr (List.mem_append_left _ h)
theorem Rg.tray {a b : Nat} {cm0 : List (List Nat × Int)} {ring : List (List Nat)} {acc : List (List Nat × Int) × List (List Nat)} (h : Rg a b cm0 ring acc) {t : List Nat} (ht : t ∈ ring) (ds : List Nat) (hds : ∀ d ∈ ds, d < 4) : Rg a b cm0 ring (ds.foldl (stD a b t) acc) := by
  induction ds generalizing acc with
  | nil => exact h
  | cons d ds ih => exact ih (h.step ht (hds d List.mem_cons_self)) fun x hx => hds x (List.mem_cons_of_mem _ hx)
theorem Rg.ring {a b : Nat} {cm0 : List (List Nat × Int)} {ring : List (List Nat)} {acc : List (List Nat × Int) × List (List Nat)} (h : Rg a b cm0 ring acc) (ts : List (List Nat)) (hts : ∀ t ∈ ts, t ∈ ring) : Rg a b cm0 ring (ts.foldl (stT a b) acc) := by
  induction ts generalizing acc with
  | nil => exact h
  | cons t ts ih => exact ih (h.tray (hts t List.mem_cons_self) _ fun d hd => List.mem_range.1 hd) fun x hx => hts x (List.mem_cons_of_mem _ hx)
theorem rg_all (a b : Nat) (s : List (List Nat × Int) × List (List Nat)) : Rg a b s.1 s.2 (rgS a b s) := by
  unfold rgS
  exact Rg.ring (acc := (s.1, [])) ⟨fun _ _ h => h, fun l hl => absurd hl (by simp), fun _ h => .inl h⟩ s.2 fun t ht => ht

/-! ### moves and their reverses -/
def revOk : Bool := [2, 3].all fun a => [2, 3].all fun b => (List.range (a * b)).all fun g => (List.range 4).all fun d =>
  match frm a b g d with
  | none => true
  | some q => decide (frm a b q ((d + 2) % 4) = some g)
theorem revOk_true : revOk = true := by decide +kernel
theorem rev_at {a b g d q : Nat} (ha : 2 ≤ a) (ha3 : a ≤ 3) (hb : 2 ≤ b) (hb3 : b ≤ 3) (hg : g < a * b) (hd : d < 4) (h : frm a b g d = some q) : frm a b q ((d + 2) % 4) = some g := by
  have h0 := revOk_true
  unfold revOk at h0
  have h1 := List.all_eq_true.1 h0 a (by rcases (show a = 2 ∨ a = 3 by omega) with rfl | rfl <;> simp)
  have h2 := List.all_eq_true.1 h1 b (by rcases (show b = 2 ∨ b = 3 by omega) with rfl | rfl <;> simp)
  have h3 := List.all_eq_true.1 h2 g (List.mem_range.2 hg)
  have h4 := List.all_eq_true.1 h3 d (List.mem_range.2 hd)
  rw [h] at h4
  simpa using h4
theorem exc_back {l : List Nat} {i k : Nat} (hi : i < l.length) (hk : k < l.length) : exc (exc l i k) k i = l := by
  have hl : (exc l i k).length = l.length := by simp [exc]
  apply List.ext_getElem
  · simp [exc]
  · intro j h1 h2
    have e1 : st (exc (exc l i k) k i) j = st l j := by
      rw [exc_st (by omega) (by omega), exc_st hi hk, exc_st hi hk]
      by_cases a1 : j = i
      · subst a1; simp only [if_true]
      · rw [if_neg a1]
        by_cases a2 : j = k
        · subst a2; simp only [if_true]; by_cases a3 : i = j
          · subst a3; simp
          · simp [a3]
        · simp only [a2, if_false]; rw [exc_st hi hk, if_neg a2, if_neg a1]
    unfold st at e1
    rwa [List.getElem?_eq_getElem h1, List.getElem?_eq_getElem h2] at e1
theorem mvB_ord {a b d : Nat} {l u : List Nat} (ha : 2 ≤ a) (ha3 : a ≤ 3) (hb : 2 ≤ b) (hb3 : b ≤ 3) (hab : a * b = 6) (hl : IsOrd 6 l) (hd : d < 4) (h : mvB a b l d = some u) : IsOrd 6 u ∧ mvB a b u ((d + 2) % 4) = some l := by
  unfold mvB at h
  obtain ⟨hg, hg0⟩ := st_ix hl (by omega)
  cases hf : frm a b (ixN l 0) d with
  | none => rw [hf] at h; cases h
  | some k =>
    rw [hf] at h
    injection h with h
    obtain ⟨hk1, hk2, _⟩ := frm_at ha ha3 hb hb3 (by rw [hab]; exact hg) hd hf
    rw [hab] at hk1
    have hu : IsOrd 6 u := by rw [← h]; exact exc_ord hl hg hk1 (fun e => hk2 e.symm)
    have hlen := hl.len
    have hix : ixN u 0 = k := ix_at hu hk1 (by rw [← h, exc_st (by omega) (by omega), if_pos rfl]; exact hg0)
    refine ⟨hu, ?_⟩
    unfold mvB
    rw [hix, rev_at ha ha3 hb hb3 (by rw [hab]; exact hg) hd hf]
    simp only
    rw [← h, exc_back (by omega) (by omega)]

/-! ### all rings -/
section
variable {a b : Nat} (ha : 2 ≤ a) (ha3 : a ≤ 3) (hb : 2 ≤ b) (hb3 : b ≤ 3) (hab : a * b = 6)
theorem lk_grows {d e : Nat} (h : d ≤ e) {l : List Nat} {x : Int} (hl : lkC (stg a b d).1 l = some x) : lkC (stg a b e).1 l = some x := by
  induction e with
  | zero => obtain rfl : d = 0 := by omega
            exact hl
  | succ e ih =>
    rcases Nat.lt_or_ge d (e + 1) with h1 | h1
    · rw [stg_succ]; exact (rg_all a b _).old _ _ (ih (by omega))
    · obtain rfl : d = e + 1 := by omega
      exact hl
include ha ha3 hb hb3 hab
theorem ring_ord : ∀ d, ∀ l ∈ (stg a b d).2, IsOrd 6 l
  | 0, l, hl => by
    have : l = hmB := by simpa [stg, itR, sg0] using hl
    subst this
    show hmB.Perm (List.range 6)
    exact List.isPerm_iff.1 (by decide)
  | d + 1, l, hl => by
    rw [stg_succ] at hl
    obtain ⟨t, ht, x, hx, hm, _⟩ := (rg_all a b _).new l hl
    exact (mvB_ord ha ha3 hb hb3 hab (ring_ord d t ht) hx hm).1
/-- one step of the way back. -/
theorem ring_back {d e : Nat} (he : d + 1 ≤ e) {l : List Nat} (hl : l ∈ (stg a b (d + 1)).2) : ∃ x t, x < 4 ∧ lkC (stg a b e).1 l = some ((x : Nat) : Int) ∧ t ∈ (stg a b d).2 ∧ mvB a b l ((x + 2) % 4) = some t := by
  have hl' := hl
  rw [stg_succ] at hl
  obtain ⟨t, ht, x, hx, hm, hk⟩ := (rg_all a b _).new l hl
  rw [← stg_succ] at hk
  exact ⟨x, t, hx, lk_grows he hk, ht, (mvB_ord ha ha3 hb hb3 hab (ring_ord ha ha3 hb hb3 hab d t ht) hx hm).2⟩
omit ha ha3 hb hb3 hab in
theorem ring_home {d : Nat} : lkC (stg a b d).1 hmB = some (-1) := lk_grows (Nat.zero_le d) (by simp [stg, itR, sg0, lkC])
omit ha ha3 hb hb3 hab in
theorem ring_zero {l : List Nat} (h : l ∈ (stg a b 0).2) : l = hmB := by simpa [stg, itR, sg0] using h
omit ha ha3 hb hb3 hab in
/-- what is found first at a stage lies in its ring. -/
theorem first_in {d : Nat} {l : List Nat} (h : (lkC (stg a b (d + 1)).1 l).isSome = true) (hn : (lkC (stg a b d).1 l).isSome = false) : l ∈ (stg a b (d + 1)).2 := by
  rw [stg_succ] at h ⊢
  rcases (rg_all a b _).all l h with h | h
  · rw [hn] at h; cases h
  · exact h
omit ha ha3 hb hb3 hab in
theorem first_zero {l : List Nat} (h : (lkC (stg a b 0).1 l).isSome = true) : l ∈ (stg a b 0).2 := by
  obtain ⟨x, hx⟩ := Option.isSome_iff_exists.1 h
  have := lkC_some hx
  simp [stg, itR, sg0] at this ⊢
  exact this.1
theorem keys_ord : ∀ d, ∀ l, (lkC (stg a b d).1 l).isSome = true → IsOrd 6 l
  | 0, l, h => ring_ord ha ha3 hb hb3 hab 0 l (first_zero h)
  | d + 1, l, h => by
    cases hn : (lkC (stg a b d).1 l).isSome with
    | true => exact keys_ord d l hn
    | false => exact ring_ord ha ha3 hb hb3 hab (d + 1) l (first_in h hn)
omit ha ha3 hb hb3 hab in
/-- whatever was found is found first at some stage. -/
theorem first_at : ∀ d, ∀ l, (lkC (stg a b d).1 l).isSome = true → ∃ j, j ≤ d ∧ l ∈ (stg a b j).2
  | 0, l, h => ⟨0, Nat.le_refl _, first_zero h⟩
  | d + 1, l, h => by
    cases hn : (lkC (stg a b d).1 l).isSome with
    | true => obtain ⟨j, hj, hl⟩ := first_at d l hn
              exact ⟨j, by omega, hl⟩
    | false => exact ⟨d + 1, Nat.le_refl _, first_in h hn⟩
end
theorem chk_any {a b : Nat} (h : a = 2 ∧ b = 3 ∨ a = 3 ∧ b = 2) : chk a b 22 0 sg0 = some 360 := by
  rcases h with ⟨rfl, rfl⟩ | ⟨rfl, rfl⟩
  · exact chk23
  · exact chk32
theorem cov_any {a b : Nat} (h : a = 2 ∧ b = 3 ∨ a = 3 ∧ b = 2) : cov a b 720 22 sg0 = true := by
  rcases h with ⟨rfl, rfl⟩ | ⟨rfl, rfl⟩
  · exact cov23
  · exact cov32
/-- all stages have boards, as far as the 21st; 360 in all; then none. -/
theorem stages {a b : Nat} (h : a = 2 ∧ b = 3 ∨ a = 3 ∧ b = 2) : (∀ j, j < 22 → (stg a b j).2 ≠ [] ∧ ∀ l ∈ (stg a b j).2, okB a b j l = true) ∧ (stg a b 22).2 = [] ∧ smR a b 22 sg0 = 360 := by
  obtain ⟨h1, h2, h3⟩ := chk_says a b 22 0 sg0 360 (chk_any h)
  refine ⟨fun j hj => ?_, h2, h3.symm⟩
  have := h1 j hj
  rw [Nat.zero_add] at this
  exact this
/-- a board is found by the 21st stage, if and only if it can be brought home. -/
theorem found_can {a b : Nat} (h : a = 2 ∧ b = 3 ∨ a = 3 ∧ b = 2) {k : Nat} (hk : k < 720) (hc : canS a b (nth 6 k) = true) : (lkC (stg a b 21).1 (nth 6 k)).isSome = true := by
  have h1 := cov_says a b 720 22 sg0 (cov_any h) hk
  rw [hc] at h1
  obtain ⟨e, he, hce⟩ := mskB_bit _ _ h1
  have hs := lkC_mem he
  have hd : 2 ≤ a ∧ a ≤ 3 ∧ 2 ≤ b ∧ b ≤ 3 ∧ a * b = 6 := by rcases h with ⟨rfl, rfl⟩ | ⟨rfl, rfl⟩ <;> decide
  obtain ⟨d1, d2, d3, d4, d5⟩ := hd
  have ho := keys_ord d1 d2 d3 d4 d5 22 e.1 hs
  have hn : IsOrd 6 (nth 6 k) := nth_ord (by simpa [fac] using hk)
  have := cd_inj ho hn hce
  rw [this] at hs
  cases hq : (lkC (stg a b 21).1 (nth 6 k)).isSome with
  | true => rfl
  | false =>
    have := first_in (d := 21) hs hq
    rw [(stages h).2.1] at this
    cases this
end Go.Proofs.Ytkakggagaplaiaa
