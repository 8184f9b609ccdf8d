/- What is read of a whole book, of its beginning, and of one with another byte; conditions: lines of at most 255 bytes. -/
import Derived.Test.YtbniiglijmbfnaaHSpec
namespace Go.Proofs.Ytbniiglijmbfnaa

theorem sub_take (b : List Nat) (k i n : Nat) (h : i + n ≤ k) : sub (b.take k) i n = sub b i n := by
  unfold sub
  rw [List.drop_take, List.take_take, show min n (k - i) = n by omega]
theorem sub_set_out (b : List Nat) (p v i n : Nat) (h : p < i ∨ i + n ≤ p) : sub (b.set p v) i n = sub b i n := by
  unfold sub
  rcases h with h | h
  · rw [List.drop_set, if_pos h]
  · rw [List.drop_set, if_neg (by omega), List.take_set_of_le (by omega)]
theorem sub_set_in (b : List Nat) (p v i n : Nat) (h1 : i ≤ p) : sub (b.set p v) i n = (sub b i n).set (p - i) v := by
  unfold sub
  rw [List.drop_set, if_neg (by omega), List.take_set]
theorem off_succ : ∀ (ls : List (List Nat)) (i m : Nat) (x : List Nat), ls[m]? = some x → off ls i (m + 1) = off ls i m + 4 + x.length := by
  intro ls
  induction ls with
  | nil => intro i m x h; simp at h
  | cons y r ih =>
    intro i m x h
    cases m with
    | zero =>
      simp at h; subst h
      cases r with
      | nil => simp [off]
      | cons z r => simp [off]
    | succ m =>
      have := ih (i + 4 + y.length) m x (by simpa using h)
      simp only [off] at this ⊢
      exact this
theorem sub_flat : ∀ (ls : List (List Nat)) (pre : List Nat) (m : Nat) (x : List Nat), ls[m]? = some x → sub (pre ++ flat ls) (off ls pre.length m) (4 + x.length) = enc x := by
  intro ls
  induction ls with
  | nil => intro pre m x h; simp at h
  | cons y r ih =>
    intro pre m x h
    cases m with
    | zero =>
      simp at h; subst h
      simp only [off, flat]
      unfold sub
      rw [List.drop_left' rfl, List.take_append_of_le_length (by rw [enc_len]; omega), List.take_of_length_le (by rw [enc_len]; omega)]
    | succ m =>
      have := ih (pre ++ enc y) m x (by simpa using h)
      simp only [off, flat]
      rw [List.length_append, enc_len] at this
      rw [← List.append_assoc, ← this]
      congr 2
      omega
theorem find_off : ∀ (ls : List (List Nat)) (i k : Nat), i ≤ k → k ≤ off ls i ls.length → ∃ m, m ≤ ls.length ∧ off ls i m ≤ k ∧ (m < ls.length → k < off ls i (m + 1)) ∧ (k < off ls i ls.length → m < ls.length) := by
  intro ls
  induction ls with
  | nil => intro i k h1 h2; simp only [off] at h2; exact ⟨0, Nat.le_refl _, by simp [off]; omega, fun h => by simp at h, fun h => by simp [off] at h; omega⟩
  | cons x r ih =>
    intro i k h1 h2
    by_cases hk : k < i + 4 + x.length
    · refine ⟨0, Nat.zero_le _, by simpa [off] using h1, fun _ => ?_, fun _ => by simp⟩
      have e : off (x :: r) i (0 + 1) = i + 4 + x.length := by
        cases r with
        | nil => simp [off]
        | cons z r => simp [off]
      rw [e]; exact hk
    · obtain ⟨m, a1, a2, a3, a4⟩ := ih (i + 4 + x.length) k (by omega) (by simpa [off] using h2)
      exact ⟨m + 1, by simp; omega, by simpa [off] using a2, fun h => by simpa [off] using a3 (by simpa using h), fun h => by have := a4 (by simpa [off] using h); simp; omega⟩
theorem off_mono : ∀ (ls : List (List Nat)) (i m k : Nat), m ≤ k → off ls i m ≤ off ls i k := by
  intro ls
  induction ls with
  | nil => intro i m k h; cases m <;> cases k <;> simp [off]
  | cons x r ih =>
    intro i m k h
    cases m with
    | zero => exact off_ge _ _ _
    | succ m =>
      cases k with
      | zero => omega
      | succ k => simp only [off]; exact ih _ _ _ (by omega)
theorem book_len (ls : List (List Nat)) : (book ls).length = off ls 4 ls.length := by
  have := flat_len ls 4
  unfold book hall
  rw [List.length_append]
  simpa using this
theorem book_sub (ls : List (List Nat)) (m : Nat) (x : List Nat) (h : ls[m]? = some x) : sub (book ls) (off ls 4 m) (4 + x.length) = enc x := sub_flat ls hall m x h
def Lines (ls : List (List Nat)) : Prop := ∀ x ∈ ls, x.length ≤ 255 ∧ ∀ j, at_ x j < 256
theorem book_all (ls : List (List Nat)) (hl : Lines ls) : opened (book ls) = (ls, (book ls).length) := by
  unfold opened
  rw [parse_upto _ _ (Nat.le_refl _) ls 4 ls.length (Nat.le_refl _) (fun j x hj hx => step_whole (hl x (List.mem_of_getElem? hx)).1 (book_sub ls j x hx)) (by
    unfold stepP
    rw [if_neg (by rw [book_len]; omega)])]
  rw [List.take_length, book_len]
theorem book_cut (ls : List (List Nat)) (hl : Lines ls) (k : Nat) (h1 : 4 ≤ k) (h2 : k ≤ (book ls).length) :
    ∃ m, m ≤ ls.length ∧ opened ((book ls).take k) = (ls.take m, off ls 4 m) ∧ off ls 4 m ≤ k ∧ (k < (book ls).length → m < ls.length) := by
  rw [book_len] at h2
  obtain ⟨m, a1, a2, a3, a4⟩ := find_off ls 4 k h1 h2
  refine ⟨m, a1, ?_, a2, by rw [book_len]; exact a4⟩
  have hlen : ((book ls).take k).length = k := by rw [List.length_take, book_len]; omega
  unfold opened
  refine parse_upto _ _ (Nat.le_refl _) ls 4 m a1 (fun j x hj hx => step_whole (hl x (List.mem_of_getElem? hx)).1 ?_) ?_
  · have := off_succ ls 4 j x hx
    have h3 := off_mono ls 4 (j + 1) m (by omega)
    rw [sub_take _ _ _ _ (by omega)]
    exact book_sub ls j x hx
  · by_cases hm : m < ls.length
    · obtain ⟨x, hx⟩ : ∃ x, ls[m]? = some x := ⟨_, List.getElem?_eq_getElem hm⟩
      have e1 := off_succ ls 4 m x hx
      have e2 := a3 hm
      refine step_cut (x := x) (by rw [hlen]; omega) (fun h => ?_)
      rw [hlen] at h
      have e3 := book_sub ls m x hx
      have e4 : at_ ((book ls).take k) (off ls 4 m) = at_ (sub (book ls) (off ls 4 m) (4 + x.length)) 0 := by
        unfold at_ sub
        rw [List.getElem?_take_of_lt (by omega), List.getElem?_take_of_lt (by omega), List.getElem?_drop, Nat.add_zero]
      rw [e4, e3]; rfl
    · unfold stepP
      rw [if_neg (by
        have : m = ls.length := by omega
        subst this
        omega)]
theorem book_add (ls : List (List Nat)) (m : Nat) (x : List Nat) (hx : ls[m]? = some x) : (book ls).take (off ls 4 m) ++ enc x = (book ls).take (off ls 4 m + 4 + x.length) ∧ off ls 4 m + 4 + x.length ≤ (book ls).length := by
  have hm : m < ls.length := (List.getElem?_eq_some_iff.1 hx).1
  have e1 := off_succ ls 4 m x hx
  have e2 := off_mono ls 4 (m + 1) ls.length (by omega)
  refine ⟨?_, by rw [book_len]; omega⟩
  rw [← book_sub ls m x hx]
  unfold sub
  rw [Nat.add_assoc, List.take_add (i := off ls 4 m)]
theorem book_set (ls : List (List Nat)) (hl : Lines ls) (p v : Nat) (h1 : 4 ≤ p) (h2 : p < (book ls).length) (hv : v < 256) (hne : v ≠ at_ (book ls) p) :
    ∃ m, m < ls.length ∧ opened ((book ls).set p v) = (ls.take m, off ls 4 m) := by
  rw [book_len] at h2
  obtain ⟨m, a1, a2, a3, a4⟩ := find_off ls 4 p h1 (by omega)
  have hm := a4 h2
  refine ⟨m, hm, ?_⟩
  obtain ⟨x, hx⟩ : ∃ x, ls[m]? = some x := ⟨_, List.getElem?_eq_getElem hm⟩
  have e1 := off_succ ls 4 m x hx
  have e2 := a3 hm
  unfold opened
  refine parse_upto _ _ (Nat.le_refl _) ls 4 m a1 (fun j y hj hy => step_whole (hl y (List.mem_of_getElem? hy)).1 ?_) ?_
  · have := off_succ ls 4 j y hy
    have h3 := off_mono ls 4 (j + 1) m (by omega)
    rw [sub_set_out _ _ _ _ _ (by right; omega)]
    exact book_sub ls j y hy
  · have hxl := hl x (List.mem_of_getElem? hx)
    have e3 := book_sub ls m x hx
    refine step_other (x := x) (q := p - off ls 4 m) (v := v) hxl.1 hxl.2 (by omega) hv ?_ ?_
    · rw [← e3]
      unfold at_ sub
      rw [List.getElem?_take_of_lt (by omega), List.getElem?_drop, show off ls 4 m + (p - off ls 4 m) = p by omega]
      exact hne
    · rw [sub_set_in _ _ _ _ _ a2, e3]
end Go.Proofs.Ytbniiglijmbfnaa
