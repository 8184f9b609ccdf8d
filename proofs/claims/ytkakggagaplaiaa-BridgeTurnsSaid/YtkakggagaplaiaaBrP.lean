/- Plain law of bridge's best tricks: with all hands moved on by one player, the other side wins as many; no program in sight. -/
import Derived.Test.YtkakggagaplaiaaSlP
namespace Go.Proofs.Ytkakggagaplaiaa

/-- the power of a card in a trick that was led by a suit. -/
def bpw (s led c : Nat) : Nat := if c % 4 = s then 200 + c else if c % 4 = led % 4 then 100 + c else 0
/-- who of the first i cards wins. -/
def wnS (s : Nat) (l : List Nat) : Nat → Nat
  | 0 => 0
  | i + 1 => if bpw s (st l 0) (st l (wnS s l i)) < bpw s (st l 0) (st l i) then i else wnS s l i
theorem wnS_lt (s : Nat) (l : List Nat) : ∀ i, wnS s l i ≤ i
  | 0 => Nat.le_refl _
  | i + 1 => by have := wnS_lt s l i; rw [wnS]; split <;> omega
/-- a player's cards, in order. -/
def hnd (d : List Nat) (who : Nat) : List Nat := (List.range 52).filter fun c => st d c == who
/-- may a card be put to what lies. -/
def lgl (hand l : List Nat) (c : Nat) : Bool := l.isEmpty || c % 4 == st l 0 % 4 || !(hand.any fun x => x % 4 == st l 0 % 4)
def stp (mx : Bool) (top n : Int) : Int := if top < 0 ∨ (mx = true ∧ top < n) ∨ (mx = false ∧ n < top) then n else top
/-- the best that is left where t cards are still there. -/
def gS (s : Nat) : Nat → List Nat → Nat → List Nat → Int
  | 0, _, _, _ => 0
  | t + 1, d, ld, l =>
    let who := (ld + l.length) % 4
    ((hnd d who).filter (lgl (hnd d who) l)).foldl (fun top c => stp (who % 2 == 0) top
      (let l' := l ++ [c]
       if l'.length = 4 then
         let w := (ld + wnS s l' 4) % 4
         (if w % 2 = 0 then 1 else 0) + gS s t (d.set c 4) w []
       else gS s t (d.set c 4) ld l')) (-1)
theorem stp_flip (mx : Bool) {M top n : Int} (h0 : 0 ≤ top) (h1 : top ≤ M) : stp (!mx) (M - top) (M - n) = M - stp mx top n := by
  unfold stp
  cases mx <;> simp <;> (repeat' split) <;> omega
theorem stp_bd (mx : Bool) {M top n : Int} (h0 : 0 ≤ top) (h1 : top ≤ M) (h2 : 0 ≤ n) (h3 : n ≤ M) : 0 ≤ stp mx top n ∧ stp mx top n ≤ M := by
  unfold stp; split <;> omega
theorem fold_flip (mx : Bool) (M : Int) (f g : Nat → Int) : ∀ (L : List Nat) (top : Int), 0 ≤ top → top ≤ M → (∀ c ∈ L, 0 ≤ f c ∧ f c ≤ M ∧ g c = M - f c) →
    (L.foldl (fun t c => stp (!mx) t (g c)) (M - top) = M - L.foldl (fun t c => stp mx t (f c)) top) ∧ 0 ≤ L.foldl (fun t c => stp mx t (f c)) top ∧ L.foldl (fun t c => stp mx t (f c)) top ≤ M
  | [], top, h0, h1, _ => ⟨rfl, h0, h1⟩
  | c :: L, top, h0, h1, h => by
    obtain ⟨a1, a2, a3⟩ := h c (by simp)
    obtain ⟨b1, b2⟩ := stp_bd mx h0 h1 a1 a2
    simp only [List.foldl_cons]
    rw [a3, stp_flip mx h0 h1]
    exact fold_flip mx M f g L _ b1 b2 fun x hx => h x (by simp [hx])
theorem fold_first (mx : Bool) (M : Int) (f g : Nat → Int) {L : List Nat} (hne : L ≠ []) (h : ∀ c ∈ L, 0 ≤ f c ∧ f c ≤ M ∧ g c = M - f c) :
    (L.foldl (fun t c => stp (!mx) t (g c)) (-1) = M - L.foldl (fun t c => stp mx t (f c)) (-1)) ∧ 0 ≤ L.foldl (fun t c => stp mx t (f c)) (-1) ∧ L.foldl (fun t c => stp mx t (f c)) (-1) ≤ M := by
  cases L with
  | nil => exact absurd rfl hne
  | cons c L =>
    obtain ⟨a1, a2, a3⟩ := h c (by simp)
    simp only [List.foldl_cons]
    have e1 : stp (!mx) (-1) (g c) = M - f c := by unfold stp; rw [if_pos (.inl (by omega)), a3]
    have e2 : stp mx (-1) (f c) = f c := by unfold stp; rw [if_pos (.inl (by omega))]
    rw [e1, e2]
    exact fold_flip mx M f g L _ a1 a2 fun x hx => h x (by simp [hx])
/-- all hands moved on by one player. -/
def rt (x : Nat) : Nat := if x < 4 then (x + 1) % 4 else x
def rot (d : List Nat) : List Nat := d.map rt
theorem st_rot {d : List Nat} {c : Nat} (h : c < d.length) : st (rot d) c = rt (st d c) := by unfold st rot; simp [h]
theorem rt_inj {x w : Nat} (hw : w < 4) : rt x = (w + 1) % 4 ↔ x = w := by unfold rt; split <;> omega
theorem hnd_rot {d : List Nat} (hl : d.length = 52) {w : Nat} (hw : w < 4) : hnd (rot d) ((w + 1) % 4) = hnd d w := by
  unfold hnd
  refine List.filter_congr fun c hc => ?_
  have hc2 : c < 52 := by simpa using hc
  rw [st_rot (by omega), Bool.eq_iff_iff, beq_iff_eq, beq_iff_eq, rt_inj hw]
theorem rot_set (d : List Nat) (c : Nat) : rot (d.set c 4) = (rot d).set c 4 := by unfold rot; rw [List.map_set]; rfl
/-- so many tricks are left, the one that lies among them: each player has his cards. -/
structure Rd (d : List Nat) (ld : Nat) (l : List Nat) (q : Nat) : Prop where
  len : d.length = 52
  ll : l.length < 4
  cnt : ∀ j, j < 4 → (hnd d ((ld + j) % 4)).length = if j < l.length then q - 1 else q
theorem flt_one (p q : Nat → Bool) (c : Nat) (hp : p c = false) (he : ∀ x, x ≠ c → p x = q x) :
    ∀ n, ((List.range n).filter p).length + (if c < n ∧ q c = true then 1 else 0) = ((List.range n).filter q).length
  | 0 => rfl
  | n + 1 => by
    have ih := flt_one p q c hp he n
    rw [List.range_succ, List.filter_append, List.filter_append, List.length_append, List.length_append, ← ih]
    by_cases hn : n = c
    · subst hn
      cases hq : q n <;> simp [hp, hq]
    · have h3 := he n hn
      have h4 : (c < n + 1 ∧ q c = true) ↔ (c < n ∧ q c = true) := by
        constructor
        · rintro ⟨a, b⟩; exact ⟨by omega, b⟩
        · rintro ⟨a, b⟩; exact ⟨by omega, b⟩
      simp only [h4]
      simp only [List.filter_cons, List.filter_nil, h3]
      omega
theorem hnd_set {d : List Nat} (hl : d.length = 52) {c w : Nat} (hc : c < 52) (hw : w < 4) : (hnd (d.set c 4) w).length + (if st d c = w then 1 else 0) = (hnd d w).length := by
  have h := flt_one (fun x => st (d.set c 4) x == w) (fun x => st d x == w) c
    (by show (st (d.set c 4) c == w) = false
        rw [show st (d.set c 4) c = 4 by unfold st; simp [hl, hc]]; simp; omega)
    (fun x hx => by show (st (d.set c 4) x == w) = (st d x == w); rw [show st (d.set c 4) x = st d x by unfold st; simp [Ne.symm hx]]) 52
  simp only [beq_iff_eq, hc, true_and] at h
  exact h
theorem gS_rot (s : Nat) : ∀ (t : Nat) (d : List Nat) (ld : Nat) (l : List Nat) (q : Nat), ld < 4 → 1 ≤ q → t + l.length = 4 * q → Rd d ld l q →
    gS s t (rot d) ((ld + 1) % 4) l = q - gS s t d ld l ∧ 0 ≤ gS s t d ld l ∧ gS s t d ld l ≤ q
  | 0, d, ld, l, q, _, hq, ht, hR => by have := hR.ll; omega
  | t + 1, d, ld, l, q, hld, hq, ht, hR => by
    have hll := hR.ll
    have hlen := hR.len
    obtain ⟨who, hwho⟩ : ∃ who, who = (ld + l.length) % 4 := ⟨_, rfl⟩
    have hw4 : who < 4 := by omega
    have hwr : ((ld + 1) % 4 + l.length) % 4 = (who + 1) % 4 := by omega
    have hcn := hR.cnt l.length hll
    rw [← hwho, if_neg (by omega)] at hcn
    simp only [gS]
    rw [hwr, ← hwho, hnd_rot hlen hw4]
    have hpar : ((who + 1) % 4 % 2 == 0) = !(who % 2 == 0) := by
      rcases (show who = 0 ∨ who = 1 ∨ who = 2 ∨ who = 3 by omega) with h | h | h | h <;> rw [h] <;> rfl
    rw [hpar]
    refine fold_first (who % 2 == 0) q _ _ ?_ ?_
    · have hne : hnd d who ≠ [] := by intro h; rw [h] at hcn; simp at hcn; omega
      obtain ⟨y, hy⟩ := List.exists_mem_of_ne_nil _ hne
      intro hnil
      have hno := List.filter_eq_nil_iff.1 hnil
      have h1 := hno y hy
      unfold lgl at h1
      simp only [Bool.or_eq_true, not_or, Bool.not_eq_true, Bool.not_eq_false'] at h1
      have h2 := h1.2
      obtain ⟨x, hx, hxs⟩ := List.any_eq_true.1 h2
      refine hno x hx ?_
      unfold lgl; rw [hxs]; simp
    · intro c hc
      have hc1 := (List.mem_filter.1 hc).1
      unfold hnd at hc1
      obtain ⟨hc2, hc3⟩ := List.mem_filter.1 hc1
      have hc4 : c < 52 := by simpa using hc2
      have hc5 : st d c = who := by simpa using hc3
      have hl2 : (d.set c 4).length = 52 := by rw [List.length_set]; exact hlen
      have hcs : ∀ j, j < 4 → (hnd (d.set c 4) ((ld + j) % 4)).length = if j < l.length + 1 then q - 1 else q := by
        intro j hj
        have a := hR.cnt j hj
        have b := hnd_set hlen hc4 (w := (ld + j) % 4) (by omega)
        rw [hc5, hwho, a] at b
        by_cases hjl : j = l.length
        · rw [if_pos (by rw [hjl]), if_neg (by omega)] at b
          rw [if_pos (by omega)]; omega
        · rw [if_neg (by omega)] at b
          by_cases hjl2 : j < l.length
          · rw [if_pos hjl2] at b; rw [if_pos (by omega)]; omega
          · rw [if_neg hjl2] at b; rw [if_neg (by omega)]; omega
      have hl1 : (l ++ [c]).length = l.length + 1 := by simp
      simp only [hl1, ← rot_set]
      by_cases h3 : l.length + 1 = 4
      · simp only [h3, if_true]
        obtain ⟨w, hw⟩ : ∃ w, w = (ld + wnS s (l ++ [c]) 4) % 4 := ⟨_, rfl⟩
        have hw4' : w < 4 := by omega
        have e : ((ld + 1) % 4 + wnS s (l ++ [c]) 4) % 4 = (w + 1) % 4 := by omega
        rw [e, ← hw]
        have key : gS s t (rot (d.set c 4)) ((w + 1) % 4) [] = ((q - 1 : Nat) : Int) - gS s t (d.set c 4) w [] ∧ 0 ≤ gS s t (d.set c 4) w [] ∧ gS s t (d.set c 4) w [] ≤ ((q - 1 : Nat) : Int) := by
          by_cases hq1 : q = 1
          · have ht0 : t = 0 := by omega
            subst ht0; subst hq1
            simp [gS]
          · refine gS_rot s t _ w [] (q - 1) hw4' (by omega) (by simp; omega) ⟨hl2, by simp, ?_⟩
            intro j hj
            have a := hcs ((w + j + 4 - ld) % 4) (by omega)
            rw [show (ld + (w + j + 4 - ld) % 4) % 4 = (w + j) % 4 by omega, if_pos (by omega)] at a
            rw [a]; simp
        obtain ⟨k1, k2, k3⟩ := key
        rw [k1]
        have hpw : ((w + 1) % 4 % 2 = 0) ↔ ¬ (w % 2 = 0) := by omega
        by_cases hwp : w % 2 = 0
        · rw [if_pos hwp, if_neg (by omega)]; omega
        · rw [if_neg hwp, if_pos (by omega)]; omega
      · simp only [if_neg h3]
        have key := gS_rot s t (d.set c 4) ld (l ++ [c]) q hld hq (by rw [hl1]; omega) ⟨hl2, by rw [hl1]; omega, fun j hj => by rw [hl1]; exact hcs j hj⟩
        obtain ⟨k1, k2, k3⟩ := key
        exact ⟨k2, k3, k1⟩
end Go.Proofs.Ytkakggagaplaiaa
