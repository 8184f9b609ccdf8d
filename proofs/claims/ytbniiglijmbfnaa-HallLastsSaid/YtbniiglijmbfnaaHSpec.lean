/- A book's bytes as lists of numbers: entries, reading them again, and what a cut or one other byte does; no program in sight, no conditions. -/
namespace Go.Proofs.Ytbniiglijmbfnaa

def at_ (l : List Nat) (i : Nat) : Nat := l[i]?.getD 0
def sub (l : List Nat) (i n : Nat) : List Nat := (l.drop i).take n
def wsum : List Nat → Nat → Nat
  | [], _ => 0
  | x :: l, k => k * x + wsum l (k + 1)
def chk (l : List Nat) : Nat := wsum l 1 % 65521
def enc (l : List Nat) : List Nat := [l.length, 255 - l.length] ++ l ++ [chk l / 256, chk l % 256]
theorem enc_len (l : List Nat) : (enc l).length = l.length + 4 := by simp [enc]
def hall : List Nat := [72, 65, 76, 76]
def flat : List (List Nat) → List Nat
  | [] => []
  | x :: r => enc x ++ flat r
def book (ls : List (List Nat)) : List Nat := hall ++ flat ls
def stepP (l : List Nat) (i : Nat) : Option (List Nat) :=
  if i + 4 ≤ l.length ∧ at_ l (i + 1) = 255 - at_ l i ∧ i + 4 + at_ l i ≤ l.length ∧ enc (sub l (i + 2) (at_ l i)) = sub l i (4 + at_ l i) then some (sub l (i + 2) (at_ l i)) else none
def parse : Nat → List Nat → Nat → List (List Nat) × Nat
  | 0, _, i => ([], i)
  | f + 1, l, i =>
    match stepP l i with
    | none => ([], i)
    | some x => (x :: (parse f l (i + 4 + x.length)).1, (parse f l (i + 4 + x.length)).2)
def opened (l : List Nat) : List (List Nat) × Nat := parse l.length l 4

theorem stepP_len {l x : List Nat} {i : Nat} (h : stepP l i = some x) : x.length = at_ l i ∧ i + 4 + x.length ≤ l.length := by
  unfold stepP at h
  split at h
  · rename_i hc
    injection h with h
    subst h
    obtain ⟨h1, h2, h3, h4⟩ := hc
    have : (sub l (i + 2) (at_ l i)).length = at_ l i := by unfold sub; rw [List.length_take, List.length_drop]; omega
    omega
  · cases h
/-- fuel: as much as there is to read is enough. -/
theorem parse_fuel : ∀ (f g : Nat) (l : List Nat) (i : Nat), l.length ≤ f + i → l.length ≤ g + i → parse f l i = parse g l i := by
  intro f
  induction f with
  | zero =>
    intro g l i h1 h2
    cases g with
    | zero => rfl
    | succ g =>
      have : stepP l i = none := by unfold stepP; rw [if_neg (by omega)]
      simp only [parse, this]
  | succ f ih =>
    intro g l i h1 h2
    cases g with
    | zero =>
      have : stepP l i = none := by unfold stepP; rw [if_neg (by omega)]
      simp only [parse, this]
    | succ g =>
      simp only [parse]
      cases hs : stepP l i with
      | none => rfl
      | some x =>
        have := stepP_len hs
        simp only
        rw [ih g l (i + 4 + x.length) (by omega) (by omega)]
theorem parse_none (f : Nat) (l : List Nat) (i : Nat) (h : stepP l i = none) : parse f l i = ([], i) := by
  cases f with
  | zero => rfl
  | succ f => simp only [parse, h]
theorem parse_some (f : Nat) (l : List Nat) (i : Nat) {x : List Nat} (hf : l.length ≤ f + i) (h : stepP l i = some x) : parse f l i = (x :: (parse f l (i + 4 + x.length)).1, (parse f l (i + 4 + x.length)).2) := by
  have hl := stepP_len h
  cases f with
  | zero => omega
  | succ f =>
    rw [parse, h]
    simp only
    rw [parse_fuel f (f + 1) l (i + 4 + x.length) (by omega) (by omega)]

/-- where entry m begins, counted from 'from' on. -/
def off : List (List Nat) → Nat → Nat → Nat
  | [], i, _ => i
  | _, i, 0 => i
  | x :: r, i, m + 1 => off r (i + 4 + x.length) m
theorem off_ge : ∀ (ls : List (List Nat)) (i m : Nat), i ≤ off ls i m
  | [], i, m => by cases m <;> exact Nat.le_refl i
  | x :: r, i, 0 => Nat.le_refl i
  | x :: r, i, m + 1 => by have := off_ge r (i + 4 + x.length) m; simp only [off]; omega
theorem flat_len (ls : List (List Nat)) : ∀ i, i + (flat ls).length = off ls i ls.length := by
  induction ls with
  | nil => intro i; simp [flat, off]
  | cons x r ih =>
    intro i
    have := ih (i + 4 + x.length)
    simp only [flat, List.length_append, enc_len, List.length_cons, off]
    omega
/-- entries of l from i on are those of ls up to the m-th, and there none is: so it is read. -/
theorem parse_upto (f : Nat) (l : List Nat) (hf : l.length ≤ f) : ∀ (ls : List (List Nat)) (i m : Nat), m ≤ ls.length → (∀ j x, j < m → ls[j]? = some x → stepP l (off ls i j) = some x) → stepP l (off ls i m) = none → parse f l i = (ls.take m, off ls i m) := by
  intro ls
  induction ls with
  | nil =>
    intro i m hm hs hn
    have : m = 0 := by simpa using hm
    subst this
    exact parse_none f l i hn
  | cons x r ih =>
    intro i m hm hs hn
    cases m with
    | zero => simp only [off] at hn ⊢; rw [parse_none f l i hn]; rfl
    | succ m =>
      have h0 := hs 0 x (by omega) rfl
      simp only [off] at h0 hn ⊢
      rw [parse_some f l i (by omega) h0]
      rw [ih (i + 4 + x.length) m (by simpa using hm) (fun j y hj hy => by have := hs (j + 1) y (by omega) (by simpa using hy); simpa only [off] using this) hn]
      rfl
/-- a whole entry is read. -/
theorem step_whole {l x : List Nat} {i : Nat} (hx : x.length ≤ 255) (h : sub l i (4 + x.length) = enc x) : stepP l i = some x := by
  have hlen : i + 4 + x.length ≤ l.length := by
    have := congrArg List.length h
    rw [enc_len] at this
    unfold sub at this
    rw [List.length_take, List.length_drop] at this
    omega
  have hg : ∀ j, j < 4 + x.length → at_ l (i + j) = at_ (enc x) j := by
    intro j hj
    unfold at_
    rw [← h]
    unfold sub
    rw [List.getElem?_take_of_lt hj, List.getElem?_drop]
  have g0 : at_ l i = x.length := by have := hg 0 (by omega); simpa [enc, at_] using this
  have g1 : at_ l (i + 1) = 255 - x.length := by have := hg 1 (by omega); simpa [enc, at_] using this
  have hs : sub l (i + 2) x.length = x := by
    have : sub l (i + 2) x.length = ((sub l i (4 + x.length)).drop 2).take x.length := by
      unfold sub
      rw [List.drop_take, List.drop_drop, List.take_take, show min x.length (4 + x.length - 2) = x.length by omega]
    rw [this, h]
    simp [enc]
  unfold stepP
  rw [g0, g1, hs, h, if_pos ⟨by omega, rfl, by omega, rfl⟩]
theorem step_cut {l x : List Nat} {i : Nat} (h : i + 4 + x.length > l.length) (h0 : i + 4 ≤ l.length → at_ l i = x.length) : stepP l i = none := by
  unfold stepP
  rw [if_neg]
  rintro ⟨h1, _, h3, _⟩
  rw [h0 h1] at h3
  omega
theorem wsum_set (l : List Nat) : ∀ (k q v : Nat), q < l.length → wsum (l.set q v) k + (k + q) * at_ l q = wsum l k + (k + q) * v := by
  induction l with
  | nil => intro k q v h; simp at h
  | cons x l ih =>
    intro k q v h
    cases q with
    | zero => simp [wsum, at_]; omega
    | succ q =>
      have := ih (k + 1) q v (by simpa using h)
      have e : at_ (x :: l) (q + 1) = at_ l q := by simp [at_]
      rw [show k + 1 + q = k + (q + 1) by omega] at this
      simp only [List.set_cons_succ, wsum, e]
      omega
theorem mul_small {a d : Nat} (ha : 1 ≤ a) (ha2 : a ≤ 255) (hd : 1 ≤ d) (hd2 : d ≤ 255) : 0 < a * d ∧ a * d < 65521 := by
  have h1 := Nat.mul_le_mul ha hd
  have h2 := Nat.mul_le_mul ha2 hd2
  omega
theorem chk_set {x : List Nat} {q v : Nat} (hx : x.length ≤ 255) (hq : q < x.length) (hv : v < 256) (ho : at_ x q < 256) (hne : v ≠ at_ x q) : chk (x.set q v) ≠ chk x := by
  have h := wsum_set x 1 q v hq
  intro e
  unfold chk at e
  generalize wsum (x.set q v) 1 = A at *
  generalize wsum x 1 = B at *
  generalize at_ x q = o at *
  rcases Nat.lt_or_gt_of_ne hne with hlt | hlt
  · obtain ⟨h1, h2⟩ := mul_small (a := 1 + q) (d := o - v) (by omega) (by omega) (by omega) (by omega)
    have h3 : (1 + q) * o = (1 + q) * v + (1 + q) * (o - v) := by rw [← Nat.mul_add]; congr 1; omega
    omega
  · obtain ⟨h1, h2⟩ := mul_small (a := 1 + q) (d := v - o) (by omega) (by omega) (by omega) (by omega)
    have h3 : (1 + q) * v = (1 + q) * o + (1 + q) * (v - o) := by rw [← Nat.mul_add]; congr 1; omega
    omega
theorem enc_get_low (x : List Nat) (j : Nat) (h : j < x.length) : at_ (enc x) (j + 2) = at_ x j := by
  unfold at_ enc
  simp [h, List.getElem?_append_left h]
/-- an entry with one other byte is none. -/
theorem step_other {l x : List Nat} {i q v : Nat} (hx : x.length ≤ 255) (hb : ∀ j, at_ x j < 256) (hq : q < 4 + x.length) (hv : v < 256) (hne : v ≠ at_ (enc x) q) (h : sub l i (4 + x.length) = (enc x).set q v) : stepP l i = none := by
  have hlen : i + 4 + x.length ≤ l.length := by
    have := congrArg List.length h
    rw [List.length_set, enc_len] at this
    unfold sub at this
    rw [List.length_take, List.length_drop] at this
    omega
  have hel := enc_len x
  have hg : ∀ j, j < 4 + x.length → at_ l (i + j) = if j = q then v else at_ (enc x) j := by
    intro j hj
    have : at_ l (i + j) = at_ (sub l i (4 + x.length)) j := by
      unfold at_ sub
      rw [List.getElem?_take_of_lt hj, List.getElem?_drop]
    rw [this, h]
    unfold at_
    by_cases e : j = q
    · subst e; rw [if_pos rfl, List.getElem?_set_self (by omega)]; rfl
    · rw [if_neg e, List.getElem?_set_ne (by omega)]
  have e0 : at_ (enc x) 0 = x.length := rfl
  have e1 : at_ (enc x) 1 = 255 - x.length := rfl
  have g0 := hg 0 (by omega)
  have g1 := hg 1 (by omega)
  rw [Nat.add_zero, e0] at g0
  rw [e1] at g1
  unfold stepP
  rw [if_neg]
  rintro ⟨h1, h2, h3, h4⟩
  by_cases hq0 : q = 0
  · subst hq0
    rw [if_pos rfl] at g0
    rw [if_neg (by omega)] at g1
    rw [e0] at hne
    omega
  · rw [if_neg (by omega)] at g0
    by_cases hq1 : q = 1
    · subst hq1
      rw [if_pos rfl] at g1
      rw [e1] at hne
      omega
    · rw [g0, h] at h4
      have hs : sub l (i + 2) x.length = (((enc x).set q v).drop 2).take x.length := by
        rw [← h]
        unfold sub
        rw [List.drop_take, List.drop_drop, List.take_take, show min x.length (4 + x.length - 2) = x.length by omega]
      by_cases hqn : q < 2 + x.length
      · have hs2 : sub l (i + 2) x.length = x.set (q - 2) v := by
          rw [hs]
          obtain ⟨q2, rfl⟩ : ∃ q2, q = q2 + 2 := ⟨q - 2, by omega⟩
          have : (enc x).set (q2 + 2) v = [x.length, 255 - x.length] ++ (x.set q2 v ++ [chk x / 256, chk x % 256]) := by
            unfold enc
            simp only [List.cons_append, List.nil_append, List.set_cons_succ]
            rw [List.set_append_left _ _ (by omega)]
          rw [this]
          simp
        rw [hs2] at h4
        have hl : (x.set (q - 2) v).length = x.length := by simp
        have hvne : v ≠ at_ x (q - 2) := by
          have := enc_get_low x (q - 2) (by omega)
          rw [show q - 2 + 2 = q by omega] at this
          rw [← this]; exact hne
        have hck := chk_set hx (show q - 2 < x.length by omega) hv (hb _) hvne
        apply hck
        have k1 : at_ (enc (x.set (q - 2) v)) (x.length + 2) = chk (x.set (q - 2) v) / 256 := by unfold at_ enc; simp
        have k2 : at_ (enc (x.set (q - 2) v)) (x.length + 3) = chk (x.set (q - 2) v) % 256 := by
          unfold at_ enc
          rw [List.append_assoc, List.getElem?_append_right (by simp), List.getElem?_append_right (by simp)]
          simp
        have m1 : at_ (enc x) (x.length + 2) = chk x / 256 := by unfold at_ enc; simp
        have m2 : at_ (enc x) (x.length + 3) = chk x % 256 := by
          unfold at_ enc
          rw [List.append_assoc, List.getElem?_append_right (by simp), List.getElem?_append_right (by simp)]
          simp
        have n1 : at_ ((enc x).set q v) (x.length + 2) = at_ (enc x) (x.length + 2) := by unfold at_; rw [List.getElem?_set_ne (by omega)]
        have n2 : at_ ((enc x).set q v) (x.length + 3) = at_ (enc x) (x.length + 3) := by unfold at_; rw [List.getElem?_set_ne (by omega)]
        rw [h4] at k1 k2
        have d1 := Nat.div_add_mod (chk x) 256
        have d2 := Nat.div_add_mod (chk (x.set (q - 2) v)) 256
        omega
      · have hs2 : sub l (i + 2) x.length = x := by
          rw [hs]
          have : ((enc x).set q v).drop 2 = ((enc x).drop 2).set (q - 2) v := by
            rw [List.drop_set]; rw [if_neg (by omega)]
          rw [this, List.take_set_of_le (by omega)]
          simp [enc]
        rw [hs2] at h4
        have := congrArg (fun l => at_ l q) h4
        unfold at_ at this
        rw [List.getElem?_set_self (by omega)] at this
        exact hne this.symm
end Go.Proofs.Ytbniiglijmbfnaa
