import Derived.Test.YtcibkchfdiijfaaHxMd
/- hex, plain: the example board, and a sign more; conditions stand in each. -/
namespace Go.Proofs.Ytcibkchfdiijfaa

theorem j2_01 {A : Nat → Prop} (h0 : A 0) (h1 : A 1) : JW 2 2 A := by
  unfold JW
  rw [if_neg (by decide)]
  exact ⟨0, 1, (Pt.refl h0 (by decide)).step ⟨by decide, by decide, by decide⟩ h1, by decide, by decide⟩
theorem j2_21 {A : Nat → Prop} (h2 : A 2) (h1 : A 1) : JW 2 2 A := by
  unfold JW
  rw [if_neg (by decide)]
  exact ⟨2, 1, (Pt.refl h2 (by decide)).step ⟨by decide, by decide, by decide⟩ h1, by decide, by decide⟩
theorem last2 {t u : List Nat} {k : Nat} (hb : Bd 2 u) (hm : ∀ a, st t a = 1 → st u a = 1) (hu : t.set k 2 = u) (hk : k < 2 * 2) (h0 : st t k = 0) (h2 : JW 2 2 (fun a => st u a = 2)) (h : Wn 2 1 2 t 2) : False := by
  have hn := fun h1 => jw_not hb (.inl rfl) h1 h2
  rcases h with h | ⟨_, ⟨h, _⟩ | ⟨_, h⟩⟩
  · exact hn (jw_mono hm h)
  · cases h
  · have a := h k hk h0
    rw [show 3 - 1 = 2 from rfl, hu] at a
    rcases a with a | ⟨a, _⟩
    · exact hn a
    · exact a h2
theorem more_empty {v : Nat} (h : Vl 2 (List.replicate 4 0) 2 v) : v = 2 := by
  rcases h.1 with rfl | rfl
  · exfalso
    have hw : Wn 2 1 4 [0, 0, 0, 0] 2 := by
      have := h.2
      rw [show opn 2 (List.replicate 4 0) = 4 by decide] at this
      exact this
    have bd : ∀ a b c d : Nat, a ≤ 2 → b ≤ 2 → c ≤ 2 → d ≤ 2 → Bd 2 [a, b, c, d] := fun a b c d ha hb hc hd => ⟨by decide, rfl, fun j => by
      rcases j with _ | _ | _ | _ | j
      · simpa [st] using ha
      · simpa [st] using hb
      · simpa [st] using hc
      · simpa [st] using hd
      · simp [st]⟩
    have no0 : ∀ t : List Nat, (∀ a, st t a ≠ 1) → ¬ JW 2 1 (fun a => st t a = 1) := fun t ht hj => by
      unfold JW at hj
      rw [if_pos rfl] at hj
      obtain ⟨a, _, hp, _⟩ := hj
      exact ht a hp.left.1
    rcases hw with h | ⟨_, ⟨h, _⟩ | ⟨_, h⟩⟩
    · exact no0 _ (fun a => by rcases a with _ | _ | _ | _ | a <;> simp [st]) h
    · cases h
    · have a : Wn 2 1 3 [0, 2, 0, 0] 1 := h 1 (by decide) (by decide)
      rcases a with h | ⟨_, ⟨_, k, hk, h0, h⟩ | ⟨h, _⟩⟩
      · exact no0 _ (fun a => by rcases a with _ | _ | _ | _ | a <;> simp [st]) h
      · rcases k with _ | _ | _ | _ | k
        · exact last2 (k := 2) (u := [1, 2, 2, 0]) (bd 1 2 2 0 (by decide) (by decide) (by decide) (by decide)) (fun a => by rcases a with _ | _ | _ | _ | a <;> simp [st]) rfl (by decide) rfl (j2_21 rfl rfl) h
        · cases h0
        · exact last2 (k := 0) (u := [2, 2, 1, 0]) (bd 2 2 1 0 (by decide) (by decide) (by decide) (by decide)) (fun a => by rcases a with _ | _ | _ | _ | a <;> simp [st]) rfl (by decide) rfl (j2_01 rfl rfl) h
        · exact last2 (k := 0) (u := [2, 2, 0, 1]) (bd 2 2 0 1 (by decide) (by decide) (by decide) (by decide)) (fun a => by rcases a with _ | _ | _ | _ | a <;> simp [st]) rfl (by decide) rfl (j2_01 rfl rfl) h
        · omega
      · cases h
  · rfl
theorem join_empty : JoinI 2 (List.replicate 4 0) 0 := by
  have hz : ∀ j, st (List.replicate 4 0) j = 0 := fun j => by unfold st; rw [List.getElem?_replicate]; split <;> rfl
  refine .inr (.inr ⟨rfl, ?_, ?_⟩)
  · rintro ⟨a, _, hp, _⟩
    have := hp.left.1
    rw [hz] at this; cases this
  · rintro ⟨a, _, hp, _⟩
    have := hp.left.1
    rw [hz] at this; cases this
/-- who wins on the move wins with a sign more. -/
theorem vl_more {n k w b : Nat} {s : List Nat} (hb : Bd n s) (hk : k < n * n) (h0 : st s k = 0) (h : Vl n s w w) (h2 : Vl n (s.set k w) w b) : b = w := by
  have hw := h.1
  have ho := opn_set (v := w) hb.len hk h0 (by omega)
  have h1 := h.2
  rw [ho] at h1
  have h3 := wn_more hw (opn n (s.set k w)) s w k hb ho hw hk h0 h1
  by_cases e : b = w
  · exact e
  · exfalso
    have eb : b = 3 - w := by have := h2.1; omega
    have h4 := h2.2
    rw [eb] at h4
    exact (wn_one hw hw _ _ (hb.set hk (by omega)) rfl).1 h3 h4
theorem cnt_less {n k w : Nat} {s : List Nat} (hb : Bd n s) (hk : k < n * n) (h0 : st s k = 0) (hw : w = 1 ∨ w = 2) (h : s.countP (· == 0) ≤ 9) : (s.set k w).countP (· == 0) ≤ 9 := by
  have ho := opn_set (v := w) hb.len hk h0 (by omega)
  rw [opn_list hb.len, opn_list (by rw [List.length_set]; exact hb.len)] at ho
  omega
end Go.Proofs.Ytcibkchfdiijfaa
