import Derived.Test.YtcibkchfdiijfaaHxO
import Derived.Test.YtcibkchfdiijfaaHxN
/- Hex: the groups of a player's places, plain; no conditions. -/
namespace Go.Proofs.Ytcibkchfdiijfaa

theorem mem_upN {n x y z : Nat} : ∀ k, z ∈ upN n x y k ↔ ∃ j, j < k ∧ 0 ≤ (x : Int) + dx6 j ∧ (x : Int) + dx6 j < n ∧ 0 ≤ (y : Int) + dy6 j ∧ (y : Int) + dy6 j < n ∧ z = (((y : Int) + dy6 j) * n + ((x : Int) + dx6 j)).toNat
  | 0 => by simp [upN]
  | k + 1 => by
    unfold upN
    rw [List.mem_append, mem_upN k]
    constructor
    · rintro (⟨j, h1, h2⟩ | h)
      · exact ⟨j, by omega, h2⟩
      · split at h
        · rename_i hc
          simp only [List.mem_singleton] at h
          exact ⟨k, by omega, hc.1, hc.2.1, hc.2.2.1, hc.2.2.2, h⟩
        · cases h
    · rintro ⟨j, h1, h2, h3, h4, h5, h6⟩
      by_cases e : j = k
      · subst e
        right
        rw [if_pos ⟨h2, h3, h4, h5⟩, h6]; simp
      · exact .inl ⟨j, by omega, h2, h3, h4, h5, h6⟩
theorem at_nat {n : Nat} {a b : Int} (ha : 0 ≤ a) (hb : 0 ≤ b) : (b * n + a).toNat = b.toNat * n + a.toNat := by
  obtain ⟨a, rfl⟩ := Int.eq_ofNat_of_zero_le ha
  obtain ⟨b, rfl⟩ := Int.eq_ofNat_of_zero_le hb
  norm_cast
theorem mem_near {n p z : Nat} (hp : p < n * n) : z ∈ nearL n p ↔ Nx n p z := by
  obtain ⟨m1, m2⟩ := mod_le hp
  unfold nearL
  rw [mem_upN]
  constructor
  · rintro ⟨j, hj, h1, h2, h3, h4, rfl⟩
    rw [at_nat h1 h3]
    have hx : ((p % n : Nat) + dx6 j).toNat < n := by omega
    have hy : ((p / n : Nat) + dy6 j).toNat < n := by omega
    refine ⟨hp, at_lt hx hy, ?_⟩
    rw [(at_div hx).1, (at_div hx).2]
    rcases (show j = 0 ∨ j = 1 ∨ j = 2 ∨ j = 3 ∨ j = 4 ∨ j = 5 by omega) with rfl | rfl | rfl | rfl | rfl | rfl <;> simp only [dx6, dy6] at * <;> omega
  · rintro ⟨_, hz, h⟩
    obtain ⟨k1, k2⟩ := mod_le hz
    have hzz := at_self (n := n) (a := z)
    have mk : ∀ j, j < 6 → ((z % n : Nat) : Int) = (p % n : Nat) + dx6 j → ((z / n : Nat) : Int) = (p / n : Nat) + dy6 j → ∃ j, j < 6 ∧ 0 ≤ ((p % n : Nat) : Int) + dx6 j ∧ ((p % n : Nat) : Int) + dx6 j < n ∧ 0 ≤ ((p / n : Nat) : Int) + dy6 j ∧ ((p / n : Nat) : Int) + dy6 j < n ∧ z = ((((p / n : Nat) : Int) + dy6 j) * n + (((p % n : Nat) : Int) + dx6 j)).toNat := by
      intro j hj e1 e2
      generalize z % n = zx at *
      generalize z / n = zy at *
      refine ⟨j, hj, by omega, by omega, by omega, by omega, ?_⟩
      rw [← e1, ← e2, at_nat (by omega) (by omega), Int.toNat_natCast, Int.toNat_natCast]
      exact hzz.symm
    rcases h with ⟨e, e' | e'⟩ | ⟨e, e' | e'⟩ | ⟨e, e' | e'⟩
    · exact mk 0 (by omega) (by simp only [dx6]; omega) (by simp only [dy6]; omega)
    · exact mk 1 (by omega) (by simp only [dx6]; omega) (by simp only [dy6]; omega)
    · exact mk 2 (by omega) (by simp only [dx6]; omega) (by simp only [dy6]; omega)
    · exact mk 3 (by omega) (by simp only [dx6]; omega) (by simp only [dy6]; omega)
    · exact mk 5 (by omega) (by simp only [dx6]; omega) (by simp only [dy6]; omega)
    · exact mk 4 (by omega) (by simp only [dx6]; omega) (by simp only [dy6]; omega)

theorem nodup_le {l K : List Nat} (hn : l.Nodup) (hs : ∀ x ∈ l, x ∈ K) : l.length ≤ K.length := by
  induction l generalizing K with
  | nil => simp
  | cons a l ih =>
    have ha : a ∈ K := hs a (by simp)
    have h := ih (K := K.erase a) hn.tail (fun x hx => (List.mem_erase_of_ne (by rintro rfl; exact (List.nodup_cons.1 hn).1 hx)).2 (hs x (by simp [hx])))
    rw [List.length_erase_of_mem ha] at h
    have := List.length_pos_of_mem ha
    simp only [List.length_cons]; omega
/-- a whole group. -/
structure Grp (n : Nat) (A : Nat → Prop) (G : List Nat) : Prop where
  ok : ∀ a ∈ G, a < n * n ∧ A a
  con : ∃ r ∈ G, ∀ a ∈ G, Pt A n r a
  cl : ∀ a ∈ G, ∀ c, Nx n a c → A c → c ∈ G
  nd : G.Nodup
theorem Grp.perm {n : Nat} {A : Nat → Prop} {G H : List Nat} (h : Grp n A G) (k : H.Perm G) : Grp n A H := by
  refine ⟨fun a ha => h.ok a (k.mem_iff.1 ha), ?_, fun a ha c h1 h2 => k.mem_iff.2 (h.cl a (k.mem_iff.1 ha) c h1 h2), k.nodup_iff.2 h.nd⟩
  obtain ⟨r, h1, h2⟩ := h.con
  exact ⟨r, k.mem_iff.2 h1, fun a ha => h2 a (k.mem_iff.1 ha)⟩
theorem Grp.len {n : Nat} {A : Nat → Prop} {G : List Nat} (h : Grp n A G) : G.length ≤ n * n := by
  have := nodup_le (K := List.range (n * n)) h.nd fun x hx => List.mem_range.2 (h.ok x hx).1
  simpa using this
theorem Grp.pt {n : Nat} {A : Nat → Prop} {G : List Nat} (h : Grp n A G) {a b : Nat} (ha : a ∈ G) (hb : b ∈ G) : Pt A n a b := by
  obtain ⟨r, h1, h2⟩ := h.con
  exact (h2 a ha).symm.trans (h2 b hb)
theorem Grp.of_pt {n : Nat} {A : Nat → Prop} {G : List Nat} (h : Grp n A G) {a b : Nat} (ha : a ∈ G) (hp : Pt A n a b) : b ∈ G := by
  induction hp with
  | refl _ _ => exact ha
  | step h1 h2 h3 ih => exact h.cl _ ih _ h2 h3
def fset (f : Nat → Bool) (x : Nat) : Nat → Bool := fun a => if a = x then true else f a
/-- what has come of a group so far. -/
structure Sp (n : Nat) (A : Nat → Prop) (f0 : Nat → Bool) (G : List Nat) (f : Nat → Bool) : Prop where
  mem : ∀ a, f a = true ↔ f0 a = true ∨ a ∈ G
  new : ∀ a ∈ G, f0 a = false
  nd : G.Nodup
  ok : ∀ a ∈ G, a < n * n ∧ A a
  con : ∃ r ∈ G, ∀ a ∈ G, Pt A n r a
theorem Sp.len {n : Nat} {A : Nat → Prop} {f0 f : Nat → Bool} {G : List Nat} (h : Sp n A f0 G f) : G.length ≤ n * n := by
  have := nodup_le (K := List.range (n * n)) h.nd fun x hx => List.mem_range.2 (h.ok x hx).1
  simpa using this
theorem Sp.start {n : Nat} {A : Nat → Prop} {f0 : Nat → Bool} {x : Nat} (h0 : f0 x = false) (hx : x < n * n) (hA : A x) : Sp n A f0 [x] (fset f0 x) := by
  refine ⟨fun a => ?_, by simpa using h0, by simp, by simpa using ⟨hx, hA⟩, ⟨x, by simp, by simpa using Pt.refl hA hx⟩⟩
  unfold fset
  by_cases e : a = x <;> simp [e]
theorem Sp.add {n : Nat} {A : Nat → Prop} {f0 f : Nat → Bool} {G : List Nat} (h : Sp n A f0 G f) {p x : Nat} (hp : p ∈ G) (hx : Nx n p x) (hA : A x) (hf : f x = false) : Sp n A f0 (G ++ [x]) (fset f x) := by
  have hn : ¬ (f0 x = true ∨ x ∈ G) := fun k => by rw [(h.mem x).2 k] at hf; cases hf
  refine ⟨fun a => ?_, fun a ha => ?_, ?_, fun a ha => ?_, ?_⟩
  · unfold fset
    by_cases e : a = x
    · simp [e]
    · simp [e, h.mem a]
  · rcases List.mem_append.1 ha with ha | ha
    · exact h.new a ha
    · obtain rfl := List.mem_singleton.1 ha
      cases hq : f0 a with
      | false => rfl
      | true => exact absurd (.inl hq) hn
  · rw [List.nodup_append]
    refine ⟨h.nd, by simp, fun a ha b hb e => hn (.inr ?_)⟩
    obtain rfl := List.mem_singleton.1 hb
    rw [← e]; exact ha
  · rcases List.mem_append.1 ha with ha | ha
    · exact h.ok a ha
    · obtain rfl := List.mem_singleton.1 ha
      exact ⟨hx.2.1, hA⟩
  · obtain ⟨r, h1, h2⟩ := h.con
    refine ⟨r, List.mem_append_left _ h1, fun a ha => ?_⟩
    rcases List.mem_append.1 ha with ha | ha
    · exact h2 a ha
    · obtain rfl := List.mem_singleton.1 ha
      exact (h2 p hp).step hx hA
/-- the places of whole groups. -/
def Whole (n : Nat) (A : Nat → Prop) (L : List (List Nat)) (f : Nat → Bool) : Prop := (∀ G ∈ L, Grp n A G) ∧ ∀ a, f a = true ↔ ∃ G ∈ L, a ∈ G
theorem Whole.nil (n : Nat) (A : Nat → Prop) : Whole n A [] (fun _ => false) := ⟨by simp, by simp⟩
theorem Whole.cl {n : Nat} {A : Nat → Prop} {L : List (List Nat)} {f : Nat → Bool} (h : Whole n A L f) {a c : Nat} (hf : f a = true) (hx : Nx n a c) (hA : A c) : f c = true := by
  obtain ⟨G, hG, ha⟩ := (h.2 a).1 hf
  exact (h.2 c).2 ⟨G, hG, (h.1 G hG).cl a ha c hx hA⟩
theorem Whole.more {n : Nat} {A : Nat → Prop} {L : List (List Nat)} {f0 f : Nat → Bool} {G H : List Nat} (h : Whole n A L f0) (hS : Sp n A f0 G f) (hcl : ∀ a ∈ G, ∀ c, Nx n a c → A c → f c = true) (hH : H.Perm G) : Whole n A (L ++ [H]) f := by
  have hg : Grp n A G := ⟨hS.ok, hS.con, fun a ha c hx hA => by
    rcases (hS.mem c).1 (hcl a ha c hx hA) with h1 | h1
    · have := h.cl h1 hx.symm (hS.ok a ha).2
      rw [hS.new a ha] at this; cases this
    · exact h1, hS.nd⟩
  refine ⟨fun K hK => ?_, fun a => ?_⟩
  · rcases List.mem_append.1 hK with hK | hK
    · exact h.1 K hK
    · obtain rfl := List.mem_singleton.1 hK
      exact hg.perm hH
  · rw [hS.mem a, h.2 a]
    constructor
    · rintro (⟨K, h1, h2⟩ | h1)
      · exact ⟨K, List.mem_append_left _ h1, h2⟩
      · exact ⟨H, by simp, hH.mem_iff.2 h1⟩
    · rintro ⟨K, h1, h2⟩
      rcases List.mem_append.1 h1 with h1 | h1
      · exact .inl ⟨K, h1, h2⟩
      · obtain rfl := List.mem_singleton.1 h1
        exact .inr (hH.mem_iff.1 h2)
end Go.Proofs.Ytcibkchfdiijfaa
