import Derived.Test.YtcibkchfdiijfaaHxG
import Derived.Test.YtcibkchfdiijfaaHxL
/- What hex.joined's groups tell, plain; no conditions. -/
namespace Go.Proofs.Ytcibkchfdiijfaa

def JW (n who : Nat) (A : Nat → Prop) : Prop := if who = 1 then J1 A n else J2 A n
theorem along_step {n who a b : Nat} (h : Nx n a b) : alongS n who b ≤ alongS n who a + 1 := by
  obtain ⟨_, _, h⟩ := h
  unfold alongS
  split <;> omega
theorem along_lt {n who a : Nat} (h : a < n * n) : alongS n who a + 1 ≤ n := by
  obtain ⟨h1, h2⟩ := mod_le h
  unfold alongS
  split <;> assumption
theorem jw_pt {n who : Nat} {A : Nat → Prop} : JW n who A ↔ ∃ a b, Pt A n a b ∧ alongS n who a = 0 ∧ alongS n who b = n - 1 := by
  unfold JW alongS J1 J2
  split <;> simp
theorem pt_mid {n who : Nat} {A : Nat → Prop} {a b : Nat} (h : Pt A n a b) : ∀ y, alongS n who a ≤ y → y ≤ alongS n who b → ∃ c, Pt A n a c ∧ alongS n who c = y := by
  induction h with
  | refl h1 h2 => exact fun y h3 h4 => ⟨_, .refl h1 h2, by omega⟩
  | step h1 h2 h3 ih =>
    rename_i b c
    intro y h4 h5
    by_cases h6 : y ≤ alongS n who b
    · exact ih y h4 h6
    · have := along_step (who := who) h2
      exact ⟨_, h1.step h2 h3, by omega⟩
/-- a group that has both sides. -/
def good (n who : Nat) (G : List Nat) : Bool := (G.any fun a => alongS n who a == 0) && (G.any fun a => alongS n who a == n - 1)
theorem good_len {n who : Nat} {A : Nat → Prop} {G : List Nat} (h : Grp n A G) (hg : good n who G = true) : n ≤ G.length := by
  simp only [good, Bool.and_eq_true, List.any_eq_true, beq_iff_eq] at hg
  obtain ⟨⟨a, ha, ha0⟩, b, hb, hb0⟩ := hg
  have hp := h.pt ha hb
  have := nodup_le (l := List.range n) (K := G.map (alongS n who)) List.nodup_range fun y hy => by
    have hy := List.mem_range.1 hy
    obtain ⟨c, hc, hcy⟩ := pt_mid (who := who) hp y (by omega) (by omega)
    exact List.mem_map.2 ⟨c, h.of_pt ha hc, hcy⟩
  simpa using this
theorem good_iff {n who : Nat} {A : Nat → Prop} {L : List (List Nat)} {f : Nat → Bool} (h : Whole n A L f) (hf : ∀ a, a < n * n → A a → f a = true) : (∃ G ∈ L, good n who G = true) ↔ JW n who A := by
  rw [jw_pt]
  constructor
  · rintro ⟨G, hG, hg⟩
    simp only [good, Bool.and_eq_true, List.any_eq_true, beq_iff_eq] at hg
    obtain ⟨⟨a, ha, ha0⟩, b, hb, hb0⟩ := hg
    exact ⟨a, b, (h.1 G hG).pt ha hb, ha0, hb0⟩
  · rintro ⟨a, b, hp, ha, hb⟩
    obtain ⟨G, hG, haG⟩ := (h.2 a).1 (hf a hp.left.2 hp.left.1)
    have hbG := (h.1 G hG).of_pt haG hp
    refine ⟨G, hG, ?_⟩
    simp only [good, Bool.and_eq_true, List.any_eq_true, beq_iff_eq]
    exact ⟨⟨a, haG, ha⟩, b, hbG, hb⟩
/-- the places of the good groups among the first i. -/
def accL (n who : Nat) (L : List (List Nat)) (i : Nat) : List Nat := ((L.take i).filter (good n who)).flatten
theorem accL_zero (n who : Nat) (L : List (List Nat)) : accL n who L 0 = [] := by simp [accL]
theorem accL_succ {n who : Nat} {L : List (List Nat)} {i : Nat} {G : List Nat} (h : L[i]? = some G) : accL n who L (i + 1) = accL n who L i ++ if good n who G = true then G else [] := by
  unfold accL
  rw [List.take_add_one, h]
  simp only [Option.toList_some, List.filter_append, List.flatten_append]
  congr 1
  split
  · rename_i hg; simp [hg]
  · rename_i hg; simp [hg]
theorem accL_len {n who : Nat} {A : Nat → Prop} {L : List (List Nat)} (h : ∀ G ∈ L, Grp n A G) : ∀ i, (accL n who L i).length ≤ i * (n * n)
  | 0 => by rw [accL_zero]; simp
  | i + 1 => by
    have ih := accL_len (who := who) h i
    cases hG : L[i]? with
    | none =>
      have : accL n who L (i + 1) = accL n who L i := by unfold accL; rw [List.take_add_one, hG]; simp
      rw [this, Nat.succ_mul]; omega
    | some G =>
      rw [accL_succ hG, List.length_append, Nat.succ_mul]
      have := (h G (List.mem_of_getElem? hG)).len
      split
      · omega
      · simp; omega
theorem accL_all {n who : Nat} {A : Nat → Prop} {L : List (List Nat)} {f : Nat → Bool} (h : Whole n A L f) (hf : ∀ a, a < n * n → A a → f a = true) : (JW n who A → n ≤ (accL n who L L.length).length) ∧ (¬ JW n who A → accL n who L L.length = []) := by
  rw [← good_iff h hf]
  unfold accL
  rw [List.take_of_length_le (Nat.le_refl _)]
  constructor
  · rintro ⟨G, hG, hg⟩
    have h1 := good_len (h.1 G hG) hg
    have h2 : G.Sublist ((L.filter (good n who)).flatten) := List.sublist_flatten_of_mem (List.mem_filter.2 ⟨hG, hg⟩)
    exact Nat.le_trans h1 h2.length_le
  · intro hno
    have : L.filter (good n who) = [] := by
      rw [List.filter_eq_nil_iff]
      intro G hG hg
      exact hno ⟨G, hG, hg⟩
    rw [this]; rfl
/-- who has joined. -/
def JoinI (n : Nat) (s : List Nat) (j : Nat) : Prop := (j = 1 ∧ J1 (fun a => st s a = 1) n) ∨ (j = 2 ∧ ¬ J1 (fun a => st s a = 1) n ∧ J2 (fun a => st s a = 2) n) ∨ (j = 0 ∧ ¬ J1 (fun a => st s a = 1) n ∧ ¬ J2 (fun a => st s a = 2) n)
end Go.Proofs.Ytcibkchfdiijfaa
