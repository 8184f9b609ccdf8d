import Derived.Test.YtcibkchfdiijfaaHxP
/- hex.Shortest, plain: rounds of places by how many signs they take; no conditions. -/
namespace Go.Proofs.Ytcibkchfdiijfaa

def costS (s : List Nat) (p : Nat) : Nat := 1 - min (st s p) 1
theorem cost_le (s : List Nat) (p : Nat) : costS s p ≤ 1 := by unfold costS; omega
/-- a way from the first side to a place takes so many signs. -/
inductive Rc (n who : Nat) (s : List Nat) : Nat → Nat → Prop
  | start {p : Nat} : p < n * n → alongS n who p = 0 → st s p ≠ 3 - who → Rc n who s p (costS s p)
  | step {p q c : Nat} : Rc n who s p c → Nx n p q → st s q ≠ 3 - who → Rc n who s q (c + costS s q)
theorem Rc.ok {n who : Nat} {s : List Nat} {p c : Nat} (h : Rc n who s p c) : p < n * n ∧ st s p ≠ 3 - who := by
  cases h with
  | start h1 h2 h3 => exact ⟨h1, h3⟩
  | step h1 h2 h3 => exact ⟨h2.2.1, h3⟩
def Rm (R : List (List Nat)) (m : Nat) : List Nat := R[m]?.getD []
/-- a place is put into a round. -/
def addR (R : List (List Nat)) (m p : Nat) : List (List Nat) := (R ++ List.replicate (m + 1 - R.length) []).set m (Rm R m ++ [p])
def fupd (far : Nat → Int) (p : Nat) (v : Int) : Nat → Int := fun q => if q = p then v else far q
theorem ext_get (R : List (List Nat)) (k m : Nat) : (R ++ List.replicate k [])[m]?.getD [] = Rm R m := by
  unfold Rm
  by_cases h : m < R.length
  · rw [List.getElem?_append_left h]
  · rw [List.getElem?_append_right (by omega), List.getElem?_replicate, List.getElem?_eq_none (by omega : R.length ≤ m)]
    split <;> rfl
theorem addR_len (R : List (List Nat)) (m p : Nat) : (addR R m p).length = max R.length (m + 1) := by
  unfold addR; simp; omega
theorem Rm_addR (R : List (List Nat)) (m p j : Nat) : Rm (addR R m p) j = if j = m then Rm R m ++ [p] else Rm R j := by
  unfold addR
  show ((R ++ List.replicate (m + 1 - R.length) []).set m (Rm R m ++ [p]))[j]?.getD [] = _
  rw [List.getElem?_set]
  by_cases e : m = j
  · subst e
    rw [if_pos rfl, if_pos rfl, if_pos (by simp; omega)]; rfl
  · rw [if_neg e, if_neg (fun h => e h.symm)]; exact ext_get _ _ _
def cntN (N : Nat) (far : Nat → Int) : Nat := (List.range N).countP fun p => decide (far p < 0)
theorem cntN_le (N : Nat) (far : Nat → Int) : cntN N far ≤ N := by
  unfold cntN
  have := List.countP_le_length (p := fun p => decide (far p < 0)) (l := List.range N)
  simpa using this
theorem cntN_mono {far : Nat → Int} {p : Nat} {v : Int} (hv : 0 ≤ v) : ∀ N, cntN N (fupd far p v) + (if p < N ∧ far p < 0 then 1 else 0) = cntN N far
  | 0 => by simp [cntN]
  | N + 1 => by
    have ih := cntN_mono (far := far) (p := p) hv N
    unfold cntN at *
    rw [List.range_succ, List.countP_append, List.countP_append]
    simp only [List.countP_cons, List.countP_nil]
    have e : (fupd far p v) N = if N = p then v else far N := rfl
    rw [e]
    by_cases h1 : N = p
    · subst h1
      have h2 : ¬ (N < N ∧ far N < 0) := by omega
      rw [if_neg h2] at ih
      rw [if_pos rfl]
      have h3 : decide (v < 0) = false := decide_eq_false (by omega)
      rw [h3]
      by_cases h4 : far N < 0
      · simp [h4]; omega
      · simp [h4]; omega
    · rw [if_neg h1]
      have : (p < N + 1 ∧ far p < 0) ↔ (p < N ∧ far p < 0) := by omega
      simp only [this]
      omega
/-- what the search keeps: x the round, Dn the places done. -/
structure Sv (n who : Nat) (s : List Nat) (x : Nat) (far : Nat → Int) (R : List (List Nat)) : Prop where
  snd : ∀ p, 0 ≤ far p → p < n * n ∧ ∃ c : Nat, far p = c ∧ Rc n who s p c
  ent : ∀ m p, p ∈ Rm R m → 0 ≤ far p ∧ far p ≤ m ∧ p < n * n
  inR : ∀ p, 0 ≤ far p → p ∈ Rm R (far p).toNat
  nd : ∀ m, (Rm R m).Nodup
  top : ∀ p, far p ≤ x + 1
  rl : R.length ≤ x + 2
  phi : R.length + cntN (n * n) far ≤ n * n + 2
  lx : x = 0 ∨ x < R.length
theorem Rm_lt {R : List (List Nat)} {m p : Nat} (h : p ∈ Rm R m) : m < R.length := by
  unfold Rm at h
  rcases Nat.lt_or_ge m R.length with h1 | h1
  · exact h1
  · rw [List.getElem?_eq_none h1] at h; cases h
theorem Sv.len {n who : Nat} {s : List Nat} {x : Nat} {far : Nat → Int} {R : List (List Nat)} (h : Sv n who s x far R) (m : Nat) : (Rm R m).length ≤ n * n := by
  have := nodup_le (K := List.range (n * n)) (h.nd m) fun p hp => List.mem_range.2 (h.ent m p hp).2.2
  simpa using this
theorem Sv.start (n who : Nat) (s : List Nat) : Sv n who s 0 (fun _ => -1) [] := by
  refine ⟨fun p h => by omega, fun m p h => by simp [Rm] at h, fun p h => by omega, fun m => by simp [Rm], fun p => by omega, by simp, ?_, .inl rfl⟩
  have := cntN_le (n * n) fun _ => -1
  simp; omega
/-- a place that is put. -/
theorem Sv.put {n who : Nat} {s : List Nat} {x : Nat} {far : Nat → Int} {R : List (List Nat)} (h : Sv n who s x far R) {q m : Nat} (hq : Rc n who s q m) (hm : m ≤ x + 1) (hno : ¬ (0 ≤ far q ∧ far q ≤ m)) : Sv n who s x (fupd far q m) (addR R m q) := by
  have hqn := hq.ok.1
  have hfe : ∀ p, (fupd far q m) p = if p = q then (m : Int) else far p := fun _ => rfl
  refine ⟨fun p hp => ?_, fun j p hp => ?_, fun p hp => ?_, fun j => ?_, fun p => ?_, ?_, ?_, ?_⟩
  · rw [hfe] at hp ⊢
    split
    · rename_i e; subst e; exact ⟨hqn, m, rfl, hq⟩
    · rename_i e; rw [if_neg e] at hp; exact h.snd p hp
  · rw [Rm_addR] at hp
    rw [hfe]
    split at hp
    · rename_i e; subst e
      rcases List.mem_append.1 hp with hp | hp
      · by_cases e : p = q
        · subst e; rw [if_pos rfl]; exact ⟨by omega, by omega, hqn⟩
        · rw [if_neg e]; exact h.ent j p hp
      · obtain rfl := List.mem_singleton.1 hp
        rw [if_pos rfl]; exact ⟨by omega, by omega, hqn⟩
    · rename_i hj
      have he := h.ent j p hp
      by_cases e : p = q
      · subst e; rw [if_pos rfl]; exact ⟨by omega, by omega, hqn⟩
      · rw [if_neg e]; exact he
  · rw [hfe] at hp ⊢
    rw [Rm_addR]
    by_cases e : p = q
    · subst e; simp
    · rw [if_neg e] at hp ⊢
      have hi := h.inR p hp
      split
      · rename_i hj; rw [hj] at hi; exact List.mem_append_left _ hi
      · exact hi
  · rw [Rm_addR]
    split
    · rename_i e
      rw [List.nodup_append]
      refine ⟨h.nd m, by simp, fun a ha b hb e2 => ?_⟩
      obtain rfl := List.mem_singleton.1 hb
      subst e2
      have := h.ent m a ha
      exact hno ⟨this.1, this.2.1⟩
    · exact h.nd j
  · rw [hfe]
    split
    · omega
    · exact h.top p
  · rw [addR_len]; have := h.rl; omega
  · have hc := cntN_mono (far := far) (p := q) (v := (m : Int)) (by omega) (n * n)
    have hle := cntN_le (n * n) (fupd far q m)
    rw [addR_len]
    have hphi := h.phi
    have hrl := h.rl
    by_cases hg : m + 1 ≤ R.length
    · rw [Nat.max_eq_left hg]
      omega
    · rcases h.lx with h0 | h0
      · omega
      · have hneg : far q < 0 := by
          by_cases h1 : far q < 0
          · exact h1
          · have := h.top q
            omega
        rw [if_pos ⟨hqn, hneg⟩] at hc
        omega
  · rcases h.lx with h0 | h0
    · exact .inl h0
    · right; rw [addR_len]; omega
/-- the places done: of earlier rounds, and the first i of round x. -/
def Dn (x i : Nat) (far : Nat → Int) (R : List (List Nat)) (p : Nat) : Prop := 0 ≤ far p ∧ (far p < x ∨ p ∈ (Rm R x).take i)
/-- what is known of a place done. -/
def Kn (n who : Nat) (s : List Nat) (far : Nat → Int) (p : Nat) : Prop := alongS n who p ≠ n - 1 ∧ ∀ q, Nx n p q → st s q ≠ 3 - who → 0 ≤ far q ∧ far q ≤ far p + costS s q
/-- the search at place i of round x. -/
structure Sr (n who : Nat) (s : List Nat) (x i : Nat) (far : Nat → Int) (R : List (List Nat)) : Prop where
  sv : Sv n who s x far R
  st0 : ∀ p, p < n * n → alongS n who p = 0 → st s p ≠ 3 - who → 0 ≤ far p ∧ far p ≤ costS s p
  kn : ∀ p, Dn x i far R p → Kn n who s far p
/-- a place that is put leaves all that is known. -/
theorem Sr.put {n who : Nat} {s : List Nat} {x i : Nat} {far : Nat → Int} {R : List (List Nat)} (h : Sr n who s x i far R) (hi : i ≤ (Rm R x).length) {q m : Nat} (hq : Rc n who s q m) (hm : m ≤ x + 1) (hmx : x ≤ m) (hno : ¬ (0 ≤ far q ∧ far q ≤ m)) : Sr n who s x i (fupd far q m) (addR R m q) := by
  have hle : ∀ p, 0 ≤ far p → 0 ≤ (fupd far q m) p ∧ (fupd far q m) p ≤ far p := fun p hp => by
    unfold fupd
    split
    · rename_i e; subst e; exact ⟨by omega, by omega⟩
    · exact ⟨hp, Int.le_refl _⟩
  refine ⟨h.sv.put hq hm hno, fun p h1 h2 h3 => ?_, fun p hp => ?_⟩
  · obtain ⟨a, b⟩ := h.st0 p h1 h2 h3
    obtain ⟨c, d⟩ := hle p a
    exact ⟨c, by omega⟩
  · obtain ⟨h1, h2⟩ := hp
    have hpq : p ≠ q := fun e => by
      subst e
      have hf : (fupd far p m) p = m := by simp [fupd]
      rw [hf] at h2
      rcases h2 with h2 | h2
      · omega
      · rw [Rm_addR] at h2
        split at h2
        · rename_i e; subst e
          rw [List.take_append_of_le_length hi] at h2
          have := h.sv.ent x p (List.mem_of_mem_take h2)
          exact hno ⟨this.1, this.2.1⟩
        · have := h.sv.ent x p (List.mem_of_mem_take h2)
          exact hno ⟨this.1, by omega⟩
    have hf : (fupd far q m) p = far p := by simp [fupd, hpq]
    rw [hf] at h1 h2
    have hd : Dn x i far R p := ⟨h1, h2.imp id fun h2 => by
      rw [Rm_addR] at h2
      split at h2
      · rename_i e; subst e
        rwa [List.take_append_of_le_length hi] at h2
      · exact h2⟩
    obtain ⟨k1, k2⟩ := h.kn p hd
    refine ⟨k1, fun r hr hs => ?_⟩
    obtain ⟨a, b⟩ := k2 r hr hs
    obtain ⟨c, d⟩ := hle r a
    rw [hf]
    exact ⟨c, by omega⟩
/-- on to the next place of the round. -/
theorem Sr.on {n who : Nat} {s : List Nat} {x i : Nat} {far : Nat → Int} {R : List (List Nat)} (h : Sr n who s x i far R) {p : Nat} (hp : (Rm R x)[i]? = some p) (hk : far p < x ∨ Kn n who s far p) : Sr n who s x (i + 1) far R := by
  refine ⟨h.sv, h.st0, fun r hr => ?_⟩
  obtain ⟨h1, h2⟩ := hr
  by_cases e : far r < x
  · exact h.kn r ⟨h1, .inl e⟩
  · rcases h2 with h2 | h2
    · exact absurd h2 e
    · rw [List.take_add_one, hp] at h2
      rcases List.mem_append.1 h2 with h2 | h2
      · exact h.kn r ⟨h1, .inr h2⟩
      · simp at h2
        subst h2
        exact hk.resolve_left e
/-- on to the next round. -/
theorem Sr.next {n who : Nat} {s : List Nat} {x i : Nat} {far : Nat → Int} {R : List (List Nat)} (h : Sr n who s x i far R) (hi : (Rm R x).length ≤ i) (hx : x + 1 < R.length) : Sr n who s (x + 1) 0 far R := by
  refine ⟨⟨h.sv.snd, h.sv.ent, h.sv.inR, h.sv.nd, fun p => by have := h.sv.top p; omega, by have := h.sv.rl; omega, h.sv.phi, .inr hx⟩, h.st0, fun r hr => ?_⟩
  obtain ⟨h1, h2⟩ := hr
  refine h.kn r ⟨h1, ?_⟩
  rcases h2 with h2 | h2
  · by_cases e : far r < x
    · exact .inl e
    · right
      have hin := h.sv.inR r h1
      rw [show (far r).toNat = x by omega] at hin
      rw [List.take_of_length_le hi]; exact hin
  · simp at h2
/-- all ways shorter than the round are found, and none comes to the last side. -/
theorem Sr.min {n who : Nat} {s : List Nat} {x i : Nat} {far : Nat → Int} {R : List (List Nat)} (h : Sr n who s x i far R) {p c : Nat} (hc : Rc n who s p c) : (c < x → 0 ≤ far p ∧ far p ≤ c) ∧ (c < x → alongS n who p ≠ n - 1) := by
  have key : c < x → 0 ≤ far p ∧ far p ≤ c := by
    induction hc with
    | start h1 h2 h3 => exact fun _ => h.st0 _ h1 h2 h3
    | step h1 h2 h3 ih =>
      intro hx
      obtain ⟨a, b⟩ := ih (by omega)
      obtain ⟨_, k2⟩ := h.kn _ ⟨a, .inl (by omega)⟩
      obtain ⟨e, f⟩ := k2 _ h2 h3
      exact ⟨e, by omega⟩
  refine ⟨key, fun hx => ?_⟩
  obtain ⟨a, b⟩ := key hx
  exact (h.kn _ ⟨a, .inl (by omega)⟩).1
/-- where no round is left, no way comes to the last side. -/
theorem Sr.none {n who : Nat} {s : List Nat} {x i : Nat} {far : Nat → Int} {R : List (List Nat)} (h : Sr n who s x i far R) (hi : (Rm R x).length ≤ i) (hx : R.length ≤ x + 1) {p c : Nat} (hc : Rc n who s p c) : alongS n who p ≠ n - 1 := by
  have dn : ∀ r, 0 ≤ far r → Dn x i far R r := fun r hr => by
    refine ⟨hr, ?_⟩
    by_cases e : far r < x
    · exact .inl e
    · right
      have hin := h.sv.inR r hr
      have := Rm_lt hin
      rw [show (far r).toNat = x by omega] at hin
      rw [List.take_of_length_le hi]; exact hin
  have key : 0 ≤ far p := by
    induction hc with
    | start h1 h2 h3 => exact (h.st0 _ h1 h2 h3).1
    | step h1 h2 h3 ih => exact ((h.kn _ (dn _ ih)).2 _ h2 h3).1
  exact (h.kn _ (dn _ key)).1
/-- what is told: the least number of signs that join, or none do. -/
def ShortI (n who : Nat) (s : List Nat) (r : Int) : Prop :=
  (r = -1 ∧ ∀ p c, Rc n who s p c → alongS n who p ≠ n - 1) ∨ ∃ c : Nat, r = c ∧ (∃ p, Rc n who s p c ∧ alongS n who p = n - 1) ∧ ∀ p c', Rc n who s p c' → alongS n who p = n - 1 → c ≤ c'
theorem Sr.found {n who : Nat} {s : List Nat} {x i : Nat} {far : Nat → Int} {R : List (List Nat)} (h : Sr n who s x i far R) {p : Nat} (hp : p ∈ Rm R x) (hf : ¬ far p < x) (hl : alongS n who p = n - 1) : ShortI n who s x := by
  obtain ⟨a, b, c⟩ := h.sv.ent x p hp
  obtain ⟨_, c0, e, hR⟩ := h.sv.snd p a
  obtain rfl : c0 = x := by omega
  refine .inr ⟨c0, rfl, ⟨p, hR, hl⟩, fun q c' hq hl' => ?_⟩
  rcases Nat.lt_or_ge c' c0 with h1 | h1
  · exact absurd hl' ((h.min hq).2 h1)
  · exact h1
end Go.Proofs.Ytcibkchfdiijfaa
