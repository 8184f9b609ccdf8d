/- Plain laws: how far a place's group reaches on a board, what borders on it, what a stone takes; no program in sight, no conditions but those typed. -/
import Derived.Test.YtefjliblaeadfaaGrd
namespace Go.Proofs.Ytefjliblaeadfaa

def bAt (u : List Bool) (i : Nat) : Bool := u[i]?.getD false
theorem bAt_set (u : List Bool) (i k : Nat) (hi : i < u.length) : bAt (u.set i true) k = (decide (k = i) || bAt u k) := by
  unfold bAt
  by_cases e : k = i
  · subst e; rw [List.getElem?_set_self hi]; simp
  · rw [List.getElem?_set_ne (fun h => e h.symm)]; simp [e]
theorem st_set (s : List Nat) (i v k : Nat) (hi : i < s.length) : st (s.set i v) k = if k = i then v else st s k := by
  unfold st
  by_cases e : k = i
  · subst e; rw [List.getElem?_set_self hi]; simp
  · rw [List.getElem?_set_ne (fun h => e h.symm)]; simp [e]
/-- the neighbours of a place on a board of n places, a in a row. -/
def nearL (a n p : Nat) : List Nat := (if 0 < p % a then [p - 1] else []) ++ (if p % a + 1 < a then [p + 1] else []) ++ (if a ≤ p then [p - a] else []) ++ (if p + a < n then [p + a] else [])
theorem near_iff {a n p t : Nat} : t ∈ nearL a n p ↔ (0 < p % a ∧ t + 1 = p) ∨ (p % a + 1 < a ∧ t = p + 1) ∨ (a ≤ p ∧ t + a = p) ∨ (p + a < n ∧ t = p + a) := by
  unfold nearL
  simp only [List.mem_append]
  constructor
  · rintro (((h | h) | h) | h)
    · split at h
      · rename_i h0
        have : p % a ≤ p := Nat.mod_le _ _
        rw [List.mem_singleton] at h; left; exact ⟨h0, by omega⟩
      · simp at h
    · split at h
      · rename_i h0; rw [List.mem_singleton] at h; right; left; exact ⟨h0, h⟩
      · simp at h
    · split at h
      · rename_i h0; rw [List.mem_singleton] at h; right; right; left; exact ⟨h0, by omega⟩
      · simp at h
    · split at h
      · rename_i h0; rw [List.mem_singleton] at h; right; right; right; exact ⟨h0, h⟩
      · simp at h
  · rintro (⟨h0, h⟩ | ⟨h0, h⟩ | ⟨h0, h⟩ | ⟨h0, h⟩)
    · left; left; left; rw [if_pos h0, List.mem_singleton]; omega
    · left; left; right; rw [if_pos h0, List.mem_singleton]; omega
    · left; right; rw [if_pos h0, List.mem_singleton]; omega
    · right; rw [if_pos h0, List.mem_singleton]; omega
theorem mod_of {a q r : Nat} (h : r < a) : (a * q + r) % a = r := by rw [Nat.mul_add_mod]; exact Nat.mod_eq_of_lt h
theorem near_lt {a b p t : Nat} (hp : p < a * b) (h : t ∈ nearL a (a * b) p) : t < a * b := by
  rcases near_iff.1 h with ⟨_, h⟩ | ⟨h0, h⟩ | ⟨_, h⟩ | ⟨h0, h⟩
  · omega
  · have e := Nat.div_add_mod p a
    have hq : p / a < b := by rw [Nat.div_lt_iff_lt_mul (by omega), Nat.mul_comm]; exact hp
    have h3 : a * (p / a + 1) ≤ a * b := Nat.mul_le_mul_left a hq
    rw [Nat.mul_add, Nat.mul_one] at h3
    omega
  · omega
  · omega
theorem near_sym {a b p t : Nat} (hp : p < a * b) (h : t ∈ nearL a (a * b) p) : p ∈ nearL a (a * b) t := by
  have ht := near_lt hp h
  have ha : 0 < a := Nat.pos_of_ne_zero (by intro e; subst e; simp at hp)
  have e := Nat.div_add_mod p a
  have hm := Nat.mod_lt p ha
  rcases near_iff.1 h with ⟨h0, h⟩ | ⟨h0, h⟩ | ⟨h0, h⟩ | ⟨h0, h⟩
  · refine near_iff.2 (.inr (.inl ⟨?_, by omega⟩))
    have : t = a * (p / a) + (p % a - 1) := by omega
    rw [this, mod_of (by omega)]; omega
  · refine near_iff.2 (.inl ⟨?_, by omega⟩)
    have : t = a * (p / a) + (p % a + 1) := by omega
    rw [this, mod_of (by omega)]; omega
  · exact near_iff.2 (.inr (.inr (.inr ⟨by omega, by omega⟩)))
  · exact near_iff.2 (.inr (.inr (.inl ⟨by omega, by omega⟩)))
theorem near_le (a n p : Nat) : (nearL a n p).length ≤ 4 := by
  unfold nearL
  simp only [List.length_append]
  have h1 : ∀ (c : Prop) [Decidable c] (x : Nat), (if c then [x] else []).length ≤ 1 := fun c _ x => by split <;> simp
  have a1 := h1 (0 < p % a) (p - 1); have a2 := h1 (p % a + 1 < a) (p + 1); have a3 := h1 (a ≤ p) (p - a); have a4 := h1 (p + a < n) (p + a)
  omega

structure Sp where
  seen : List Bool
  inn : List Nat
  bd : List Nat
def spStep (so : Nat → Bool) (s : List Nat) (z : Sp) (t : Nat) : Sp :=
  if bAt z.seen t then z else if so (st s t) then ⟨z.seen.set t true, z.inn ++ [t], z.bd⟩ else ⟨z.seen.set t true, z.inn, z.bd ++ [t]⟩
def spN (so : Nat → Bool) (s : List Nat) (z : Sp) (ts : List Nat) (j : Nat) : Sp := (ts.take j).foldl (spStep so s) z
theorem spN_succ (so : Nat → Bool) (s : List Nat) (z : Sp) (ts : List Nat) (j : Nat) (hj : j < ts.length) : spN so s z ts (j + 1) = spStep so s (spN so s z ts j) (st ts j) := by
  unfold spN st
  rw [List.take_succ_eq_append_getElem hj, List.foldl_append, List.getElem?_eq_getElem hj]; rfl
def spRound (so : Nat → Bool) (s : List Nat) (a : Nat) (z : Sp) (p : Nat) : Sp := spN so s z (nearL a s.length p) (nearL a s.length p).length
def spLoop (so : Nat → Bool) (s : List Nat) (a : Nat) : Nat → Nat → Sp → Sp
  | 0, _, z => z
  | f + 1, i, z => if i < z.inn.length then spLoop so s a f (i + 1) (spRound so s a z (st z.inn i)) else z
def sp0 (s : List Nat) (p : Nat) : Sp := ⟨(List.replicate s.length false).set p true, [p], []⟩
/-- what is spread from a place. -/
def spread (so : Nat → Bool) (s : List Nat) (a p : Nat) : Sp := spLoop so s a (s.length + 1) 0 (sp0 s p)

/-- what holds of a spread at any time. -/
structure SpI (so : Nat → Bool) (s : List Nat) (a from_ : Nat) (z : Sp) : Prop where
  sl : z.seen.length = s.length
  sn : ∀ t, bAt z.seen t = true ↔ t ∈ z.inn ∨ t ∈ z.bd
  nd : (z.inn ++ z.bd).Nodup
  lt : ∀ t, t ∈ z.inn ∨ t ∈ z.bd → t < s.length
  f0 : from_ ∈ z.inn
  so1 : ∀ t ∈ z.inn, t = from_ ∨ so (st s t) = true
  so2 : ∀ t ∈ z.bd, so (st s t) = false
  con : ∀ X : Nat → Prop, X from_ → (∀ p, X p → p < s.length → ∀ t ∈ nearL a s.length p, so (st s t) = true → X t) → ∀ t ∈ z.inn, X t
  bn : ∀ t ∈ z.bd, ∃ p ∈ z.inn, t ∈ nearL a s.length p
theorem bAt_rep (n t : Nat) : bAt (List.replicate n false) t = false := by unfold bAt; rw [List.getElem?_replicate]; split <;> rfl
theorem sp0_I {so : Nat → Bool} {s : List Nat} {a p : Nat} (hp : p < s.length) : SpI so s a p (sp0 s p) := by
  refine ⟨by simp [sp0], fun t => ?_, by simp [sp0], fun t h => ?_, by simp [sp0], fun t h => .inl (by simpa [sp0] using h), fun t h => by simp [sp0] at h, fun X h0 _ t ht => ?_, fun t h => by simp [sp0] at h⟩
  · show bAt ((List.replicate s.length false).set p true) t = true ↔ _
    rw [bAt_set _ _ _ (by simpa using hp), bAt_rep]; simp [sp0]
  · simp [sp0] at h; omega
  · have : t = p := by simpa [sp0] using ht
    rw [this]; exact h0
theorem SpI.step {so : Nat → Bool} {s : List Nat} {a f : Nat} {z : Sp} (h : SpI so s a f z) {p t : Nat} (hp : p ∈ z.inn) (ht : t ∈ nearL a s.length p) (htl : t < s.length) :
    SpI so s a f (spStep so s z t) ∧ (∀ x ∈ z.inn, x ∈ (spStep so s z t).inn) ∧ bAt (spStep so s z t).seen t = true ∧ (∀ x, bAt z.seen x = true → bAt (spStep so s z t).seen x = true) ∧ (∃ l, (spStep so s z t).inn = z.inn ++ l) := by
  unfold spStep
  by_cases hs : bAt z.seen t = true
  · rw [if_pos hs]; exact ⟨h, fun _ hx => hx, hs, fun _ hx => hx, [], by simp⟩
  · rw [if_neg hs]
    have hn : ¬ (t ∈ z.inn ∨ t ∈ z.bd) := fun e => hs ((h.sn t).2 e)
    have hset : ∀ x, bAt (z.seen.set t true) x = true ↔ (x = t ∨ bAt z.seen x = true) := fun x => by rw [bAt_set _ _ _ (by rw [h.sl]; exact htl)]; simp
    have hnd := List.nodup_append.1 h.nd
    by_cases ho : so (st s t) = true
    · rw [if_pos ho]
      refine ⟨⟨by simp [h.sl], fun x => ?_, ?_, fun x hx => ?_, by simp [h.f0], fun x hx => ?_, h.so2, fun X h0 hc x hx => ?_, fun x hx => ?_⟩, fun x hx => by simp [hx], (hset t).2 (.inl rfl), fun x hx => (hset x).2 (.inr hx), [t], rfl⟩
      · rw [hset, h.sn]; simp only [List.mem_append, List.mem_singleton]
        constructor
        · rintro (h | h | h)
          · exact .inl (.inr h)
          · exact .inl (.inl h)
          · exact .inr h
        · rintro ((h | h) | h)
          · exact .inr (.inl h)
          · exact .inl h
          · exact .inr (.inr h)
      · rw [List.append_assoc]
        refine List.nodup_append.2 ⟨hnd.1, List.nodup_append.2 ⟨by simp, hnd.2.1, ?_⟩, ?_⟩
        · intro x hx y hy e; rw [List.mem_singleton] at hx; subst hx; subst e; exact hn (.inr hy)
        · intro x hx y hy e
          subst e
          rcases List.mem_append.1 hy with hy | hy
          · rw [List.mem_singleton] at hy; subst hy; exact hn (.inl hx)
          · exact hnd.2.2 x hx x hy rfl
      · rcases hx with hx | hx
        · rcases List.mem_append.1 hx with hx | hx
          · exact h.lt x (.inl hx)
          · rw [List.mem_singleton] at hx; rw [hx]; exact htl
        · exact h.lt x (.inr hx)
      · rcases List.mem_append.1 hx with hx | hx
        · exact h.so1 x hx
        · rw [List.mem_singleton] at hx; rw [hx]; exact .inr ho
      · rcases List.mem_append.1 hx with hx | hx
        · exact h.con X h0 hc x hx
        · rw [List.mem_singleton] at hx; rw [hx]; exact hc p (h.con X h0 hc p hp) (h.lt p (.inl hp)) t ht ho
      · obtain ⟨q, hq, hx⟩ := h.bn x hx
        exact ⟨q, List.mem_append.2 (.inl hq), hx⟩
    · rw [if_neg ho]
      refine ⟨⟨by simp [h.sl], fun x => ?_, ?_, fun x hx => ?_, h.f0, h.so1, fun x hx => ?_, h.con, fun x hx => ?_⟩, fun x hx => hx, (hset t).2 (.inl rfl), fun x hx => (hset x).2 (.inr hx), [], by simp⟩
      · rw [hset, h.sn]; simp only [List.mem_append, List.mem_singleton]
        constructor
        · rintro (h | h | h)
          · exact .inr (.inr h)
          · exact .inl h
          · exact .inr (.inl h)
        · rintro (h | h | h)
          · exact .inr (.inl h)
          · exact .inr (.inr h)
          · exact .inl h
      · rw [← List.append_assoc]
        refine List.nodup_append.2 ⟨h.nd, by simp, ?_⟩
        intro x hx y hy e
        rw [List.mem_singleton] at hy; subst hy; subst e
        exact hn (List.mem_append.1 hx)
      · rcases hx with hx | hx
        · exact h.lt x (.inl hx)
        · rcases List.mem_append.1 hx with hx | hx
          · exact h.lt x (.inr hx)
          · rw [List.mem_singleton] at hx; rw [hx]; exact htl
      · rcases List.mem_append.1 hx with hx | hx
        · exact h.so2 x hx
        · rw [List.mem_singleton] at hx; rw [hx]; simpa using ho
      · rcases List.mem_append.1 hx with hx | hx
        · exact h.bn x hx
        · rw [List.mem_singleton] at hx; rw [hx]; exact ⟨p, hp, ht⟩
theorem SpI.round {so : Nat → Bool} {s : List Nat} {a f : Nat} {z : Sp} (h : SpI so s a f z) {p : Nat} (hp : p ∈ z.inn) (ts : List Nat) (hts : ∀ t ∈ ts, t ∈ nearL a s.length p ∧ t < s.length) : ∀ j, j ≤ ts.length →
    SpI so s a f (spN so s z ts j) ∧ (∀ i, i < j → bAt (spN so s z ts j).seen (st ts i) = true) ∧ (∀ x, bAt z.seen x = true → bAt (spN so s z ts j).seen x = true) ∧ ∃ l, (spN so s z ts j).inn = z.inn ++ l := by
  intro j
  induction j with
  | zero => exact fun _ => ⟨h, fun i hi => absurd hi (by omega), fun _ hx => hx, [], by simp [spN]⟩
  | succ j ih =>
    intro hj
    obtain ⟨i1, i2, i3, l, i4⟩ := ih (by omega)
    rw [spN_succ so s z ts j (by omega)]
    have hm : st ts j ∈ ts := by unfold st; rw [List.getElem?_eq_getElem (by omega)]; exact List.getElem_mem (by omega)
    obtain ⟨h1, h2⟩ := hts _ hm
    obtain ⟨k1, _, k3, k4, l2, k5⟩ := i1.step (p := p) (by rw [i4]; exact List.mem_append.2 (.inl hp)) h1 h2
    refine ⟨k1, fun i hi => ?_, fun x hx => k4 x (i3 x hx), l ++ l2, by rw [k5, i4, List.append_assoc]⟩
    by_cases e : i = j
    · rw [e]; exact k3
    · exact k4 _ (i2 i (by omega))
/-- what is spread, closed. -/
structure Spread (so : Nat → Bool) (s : List Nat) (a from_ : Nat) (z : Sp) : Prop extends SpI so s a from_ z where
  cl : ∀ p ∈ z.inn, ∀ t ∈ nearL a s.length p, t ∈ z.inn ∨ t ∈ z.bd
theorem nodup_bound : ∀ (n : Nat) (l : List Nat), l.Nodup → (∀ x ∈ l, x < n) → l.length ≤ n := by
  intro n
  induction n with
  | zero => intro l _ h; cases l with
    | nil => simp
    | cons x l => exact absurd (h x (by simp)) (by omega)
  | succ n ih =>
    intro l hd h
    have h1 := ih (l.filter (· != n)) (hd.filter _) (fun x hx => by
      rw [List.mem_filter] at hx
      have := h x hx.1
      have h2 : x ≠ n := by simpa using hx.2
      omega)
    have h2 : l.length ≤ (l.filter (· != n)).length + 1 := by
      clear ih h h1
      induction l with
      | nil => simp
      | cons x l ih =>
        have hd' := List.nodup_cons.1 hd
        by_cases e : x = n
        · have : l.filter (· != n) = l := List.filter_eq_self.2 (fun y hy => by
            have : y ≠ n := by intro e2; rw [e2, ← e] at hy; exact hd'.1 hy
            simpa using this)
          rw [List.filter_cons, if_neg (by simp [e]), this]; simp
        · rw [List.filter_cons, if_pos (by simpa using e)]
          have := ih hd'.2
          simp only [List.length_cons]; omega
    omega
theorem SpI.len {so : Nat → Bool} {s : List Nat} {a f : Nat} {z : Sp} (h : SpI so s a f z) : z.inn.length + z.bd.length ≤ s.length := by
  rw [← List.length_append]
  exact nodup_bound _ _ h.nd (fun x hx => h.lt x (List.mem_append.1 hx))
theorem spLoop_spread {so : Nat → Bool} {s : List Nat} {a b f : Nat} (hab : s.length = a * b) : ∀ (g i : Nat) (z : Sp), SpI so s a f z → s.length + 1 ≤ g + i → i ≤ z.inn.length →
    (∀ j, j < i → ∀ t ∈ nearL a s.length (st z.inn j), bAt z.seen t = true) → Spread so s a f (spLoop so s a g i z) := by
  intro g
  induction g with
  | zero => intro i z h h1 h2 _; have := h.len; omega
  | succ g ih =>
    intro i z h h1 h2 h3
    rw [spLoop]
    by_cases hi : i < z.inn.length
    · rw [if_pos hi]
      have hm : st z.inn i ∈ z.inn := by unfold st; rw [List.getElem?_eq_getElem hi]; exact List.getElem_mem hi
      obtain ⟨k1, k2, k3, l, k4⟩ := h.round hm (nearL a s.length (st z.inn i)) (fun t ht => ⟨ht, by rw [hab] at ht ⊢; exact near_lt (by rw [← hab]; exact h.lt _ (.inl hm)) ht⟩) _ (Nat.le_refl _)
      refine ih (i + 1) _ k1 (by omega) (by show i + 1 ≤ (spN _ _ _ _ _).inn.length; rw [k4, List.length_append]; omega) fun j hj t ht => ?_
      change bAt (spN so s z _ _).seen t = true
      change t ∈ nearL a s.length (st (spN so s z _ _).inn j) at ht
      have hst : st (spN so s z (nearL a s.length (st z.inn i)) (nearL a s.length (st z.inn i)).length).inn j = st z.inn j := by rw [k4]; unfold st; rw [List.getElem?_append_left (by omega)]
      rw [hst] at ht
      by_cases e : j = i
      · subst e
        obtain ⟨m, hm2, e2⟩ := List.mem_iff_getElem.1 ht
        have := k2 m hm2
        have e3 : st (nearL a s.length (st z.inn j)) m = t := by unfold st at *; rw [List.getElem?_eq_getElem hm2]; exact e2
        rwa [e3] at this
      · exact k3 t (h3 j (by omega) t ht)
    · rw [if_neg hi]
      refine ⟨h, fun p hp t ht => ?_⟩
      obtain ⟨m, hm2, e2⟩ := List.mem_iff_getElem.1 hp
      have e3 : st z.inn m = p := by unfold st; rw [List.getElem?_eq_getElem hm2]; exact e2
      exact (h.sn t).1 (h3 m (by omega) t (by rw [e3]; exact ht))
theorem spread_ok {so : Nat → Bool} {s : List Nat} {a b p : Nat} (hab : s.length = a * b) (hp : p < s.length) : Spread so s a p (spread so s a p) :=
  spLoop_spread hab _ _ _ (sp0_I hp) (by omega) (by simp [sp0]) (fun j hj => absurd hj (by omega))
end Go.Proofs.Ytefjliblaeadfaa
