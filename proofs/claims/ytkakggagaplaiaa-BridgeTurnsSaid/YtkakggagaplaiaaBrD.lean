/- The deal of four hands: who has which card; moved on by one player it is the deal moved on; no program in sight. -/
import Derived.Test.YtkakggagaplaiaaBrG
namespace Go.Proofs.Ytkakggagaplaiaa

/-- who has a card; 4: nobody. -/
def ow (a b c e : List Nat) (x : Nat) : Nat := if x ∈ a then 0 else if x ∈ b then 1 else if x ∈ c then 2 else if x ∈ e then 3 else 4
def dealS (a b c e : List Nat) : List Nat := (List.range 52).map (ow a b c e)
theorem st_deal (a b c e : List Nat) {x : Nat} (h : x < 52) : st (dealS a b c e) x = ow a b c e x := by unfold st dealS; simp [h]
theorem deal_len (a b c e : List Nat) : (dealS a b c e).length = 52 := by simp [dealS]
/-- no card is in two hands. -/
structure Dj (a b c e : List Nat) : Prop where
  ab : ∀ x ∈ a, x ∉ b
  ac : ∀ x ∈ a, x ∉ c
  ae : ∀ x ∈ a, x ∉ e
  bc : ∀ x ∈ b, x ∉ c
  be : ∀ x ∈ b, x ∉ e
  ce : ∀ x ∈ c, x ∉ e
theorem ow_rot {a b c e : List Nat} (h : Dj a b c e) (x : Nat) : ow e a b c x = rt (ow a b c e x) := by
  unfold ow
  by_cases h1 : x ∈ a
  · simp [h1, h.ae x h1, rt]
  · by_cases h2 : x ∈ b
    · simp [h1, h2, h.be x h2, rt]
    · by_cases h3 : x ∈ c
      · simp [h1, h2, h3, h.ce x h3, rt]
      · by_cases h4 : x ∈ e
        · simp [h1, h2, h3, h4, rt]
        · simp [h1, h2, h3, h4, rt]
theorem deal_rot {a b c e : List Nat} (h : Dj a b c e) : dealS e a b c = rot (dealS a b c e) := by
  unfold dealS rot
  rw [List.map_map]
  exact List.map_congr_left fun x _ => ow_rot h x
theorem ow_mem {a b c e : List Nat} (h : Dj a b c e) (x : Nat) : (ow a b c e x = 0 ↔ x ∈ a) ∧ (ow a b c e x = 1 ↔ x ∈ b) ∧ (ow a b c e x = 2 ↔ x ∈ c) ∧ (ow a b c e x = 3 ↔ x ∈ e) := by
  unfold ow
  by_cases h1 : x ∈ a
  · simp [h1, h.ab x h1, h.ac x h1, h.ae x h1]
  · by_cases h2 : x ∈ b
    · simp [h1, h2, h.bc x h2, h.be x h2]
    · by_cases h3 : x ∈ c
      · simp [h1, h2, h3, h.ce x h3]
      · by_cases h4 : x ∈ e
        · simp [h1, h2, h3, h4]
        · simp [h1, h2, h3, h4]
theorem hnd_of {d : List Nat} {k : Nat} {a : List Nat} (hn : a.Nodup) (hl : ∀ x ∈ a, x < 52) (h : ∀ x, x < 52 → (st d x = k ↔ x ∈ a)) : (hnd d k).length = a.length := by
  have hnd1 : (hnd d k).Nodup := List.Pairwise.filter _ List.nodup_range
  refine Nat.le_antisymm (nodup_lenB _ _ hnd1 fun x hx => ?_) (nodup_lenB _ _ hn fun x hx => ?_)
  · unfold hnd at hx
    obtain ⟨h1, h2⟩ := List.mem_filter.1 hx
    exact (h x (by simpa using h1)).1 (by simpa using h2)
  · unfold hnd
    exact List.mem_filter.2 ⟨by simpa using hl x hx, by simpa using (h x (hl x hx)).2 hx⟩
theorem crd_sum (d : List Nat) (n : Nat) : ((List.range n).filter fun c => decide (st d c < 4)).length = ((List.range n).filter fun c => st d c == 0).length + ((List.range n).filter fun c => st d c == 1).length + ((List.range n).filter fun c => st d c == 2).length + ((List.range n).filter fun c => st d c == 3).length := by
  induction n with
  | zero => rfl
  | succ n ih =>
    simp only [List.range_succ, List.filter_append, List.length_append, ih]
    have key : ([n].filter fun c => decide (st d c < 4)).length = ([n].filter fun c => st d c == 0).length + ([n].filter fun c => st d c == 1).length + ([n].filter fun c => st d c == 2).length + ([n].filter fun c => st d c == 3).length := by
      simp only [List.filter_cons, List.filter_nil]
      generalize st d n = x
      rcases (show x = 0 ∨ x = 1 ∨ x = 2 ∨ x = 3 ∨ 4 ≤ x by omega) with h | h | h | h | h
      · subst h; simp
      · subst h; simp
      · subst h; simp
      · subst h; simp
      · rw [decide_eq_false (by omega), show (x == 0) = false by simp; omega, show (x == 1) = false by simp; omega, show (x == 2) = false by simp; omega, show (x == 3) = false by simp; omega]; simp
    omega
/-- what is wanted of a deal of four hands of n cards. -/
theorem deal_facts {a b c e : List Nat} {n : Nat} (h : Dj a b c e) (la : a.length = n) (lb : b.length = n) (lc : c.length = n) (le : e.length = n) (na : a.Nodup) (nb : b.Nodup) (nc : c.Nodup) (ne : e.Nodup)
    (ba : ∀ x ∈ a, x < 52) (bb : ∀ x ∈ b, x < 52) (bc : ∀ x ∈ c, x < 52) (be : ∀ x ∈ e, x < 52) {ld : Nat} :
    Rd (dealS a b c e) ld [] n ∧ crd (dealS a b c e) = 4 * n ∧ DlB (dealS a b c e) (dealS a b c e) := by
  have h0 : (hnd (dealS a b c e) 0).length = n := by rw [← la]; exact hnd_of na ba fun x hx => by rw [st_deal _ _ _ _ hx]; exact (ow_mem h x).1
  have h1 : (hnd (dealS a b c e) 1).length = n := by rw [← lb]; exact hnd_of nb bb fun x hx => by rw [st_deal _ _ _ _ hx]; exact (ow_mem h x).2.1
  have h2 : (hnd (dealS a b c e) 2).length = n := by rw [← lc]; exact hnd_of nc bc fun x hx => by rw [st_deal _ _ _ _ hx]; exact (ow_mem h x).2.2.1
  have h3 : (hnd (dealS a b c e) 3).length = n := by rw [← le]; exact hnd_of ne be fun x hx => by rw [st_deal _ _ _ _ hx]; exact (ow_mem h x).2.2.2
  refine ⟨⟨deal_len _ _ _ _, by simp, fun j hj => ?_⟩, ?_, ⟨deal_len _ _ _ _, deal_len _ _ _ _, fun x hx => ?_, fun x hx => .inr rfl⟩⟩
  · rw [if_neg (by simp)]
    rcases (show (ld + j) % 4 = 0 ∨ (ld + j) % 4 = 1 ∨ (ld + j) % 4 = 2 ∨ (ld + j) % 4 = 3 by omega) with g | g | g | g <;> rw [g] <;> assumption
  · have := crd_sum (dealS a b c e) 52
    unfold hnd at h0 h1 h2 h3
    unfold crd; omega
  · rw [st_deal _ _ _ _ hx]; unfold ow; (repeat' split) <;> omega
end Go.Proofs.Ytkakggagaplaiaa
