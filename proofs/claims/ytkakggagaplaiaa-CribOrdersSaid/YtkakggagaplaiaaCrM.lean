/- Plain law of crib's show: no five unlike cards bring more than 29; no program in sight. -/
import Derived.Test.YtkakggagaplaiaaCrQ
namespace Go.Proofs.Ytkakggagaplaiaa

def rp (p : Nat) : Nat := 4 * ((p + 11) % 13)
theorem rp_pip {p : Nat} (h1 : 1 ≤ p) (h2 : p ≤ 13) : pipN (rp p) = p := by
  have : ∀ p, p ≤ 13 → 1 ≤ p → pipN (rp p) = p := by decide
  exact this p h2 h1
/-- what pips bring, the quick way. -/
def pv (l : List Nat) : Nat := 2 * gl (l.map ptN) 15 + 2 * pS l 5 + (rnS (mny l) 14).2
def okV (l : List Nat) (a e : Nat) : Bool := let v := pv l; (a == e || decide (v ≤ 28)) && (!decide (pS l 5 ≤ 1) || decide (v ≤ 23))
def r13 (a : Nat) : List Nat := (List.range 14).filter fun x => decide (a ≤ x)
def okA (a : Nat) : Bool := (r13 a).all fun b => (r13 b).all fun c => (r13 c).all fun d => (r13 d).all fun e => okV [rp a, rp b, rp c, rp d, rp e] a e
theorem ok1 : okA 1 = true := by decide +kernel
theorem ok2 : okA 2 = true := by decide +kernel
theorem ok3 : okA 3 = true := by decide +kernel
theorem ok4 : okA 4 = true := by decide +kernel
theorem ok5 : okA 5 = true := by decide +kernel
theorem ok6 : okA 6 = true := by decide +kernel
theorem ok7 : okA 7 = true := by decide +kernel
theorem ok8 : okA 8 = true := by decide +kernel
theorem ok9 : okA 9 = true := by decide +kernel
theorem ok10 : okA 10 = true := by decide +kernel
theorem ok11 : okA 11 = true := by decide +kernel
theorem ok12 : okA 12 = true := by decide +kernel
theorem ok13 : okA 13 = true := by decide +kernel
theorem okA_all {a : Nat} (h1 : 1 ≤ a) (h2 : a ≤ 13) : okA a = true := by
  rcases (show a = 1 ∨ a = 2 ∨ a = 3 ∨ a = 4 ∨ a = 5 ∨ a = 6 ∨ a = 7 ∨ a = 8 ∨ a = 9 ∨ a = 10 ∨ a = 11 ∨ a = 12 ∨ a = 13 by omega) with rfl | rfl | rfl | rfl | rfl | rfl | rfl | rfl | rfl | rfl | rfl | rfl | rfl
  · exact ok1
  · exact ok2
  · exact ok3
  · exact ok4
  · exact ok5
  · exact ok6
  · exact ok7
  · exact ok8
  · exact ok9
  · exact ok10
  · exact ok11
  · exact ok12
  · exact ok13
theorem mem_r13 {a x : Nat} (h1 : a ≤ x) (h2 : x ≤ 13) : x ∈ r13 a := by unfold r13; simp; omega
theorem ok_at {a b c d e : Nat} (h1 : 1 ≤ a) (h2 : a ≤ b) (h3 : b ≤ c) (h4 : c ≤ d) (h5 : d ≤ e) (h6 : e ≤ 13) : okV [rp a, rp b, rp c, rp d, rp e] a e = true := by
  have h := okA_all h1 (by omega : a ≤ 13)
  unfold okA at h
  rw [List.all_eq_true] at h
  have g1 := h b (mem_r13 h2 (by omega))
  rw [List.all_eq_true] at g1
  have g2 := g1 c (mem_r13 h3 (by omega))
  rw [List.all_eq_true] at g2
  have g3 := g2 d (mem_r13 h4 (by omega))
  rw [List.all_eq_true] at g3
  exact g3 e (mem_r13 h5 h6)
theorem eP_congr {l k : List Nat} (h : ∀ i, i < 5 → pipN (st l i) = pipN (st k i)) {i : Nat} (hi : i < 5) : ∀ j, j ≤ 5 → eP l i j = eP k i j
  | 0, _ => rfl
  | j + 1, hj => by rw [eP, eP, eP_congr h hi j (by omega), h i hi, h j (by omega)]
theorem pS_congr {l k : List Nat} (h : ∀ i, i < 5 → pipN (st l i) = pipN (st k i)) : ∀ j, j ≤ 5 → pS l j = pS k j
  | 0, _ => rfl
  | j + 1, hj => by rw [pS, pS, pS_congr h j (by omega), eP_congr h (by omega) j (by omega)]
theorem pv_congr {l k : List Nat} (h : l.map pipN = k.map pipN) (hl : l.length = 5) : pv l = pv k ∧ pS l 5 = pS k 5 := by
  have hk : k.length = 5 := by have := congrArg List.length h; simpa [hl] using this.symm
  have hi : ∀ i, i < 5 → pipN (st l i) = pipN (st k i) := fun i hi => by
    have := congrArg (fun z => z[i]?) h
    simp only [List.getElem?_map] at this
    unfold st
    rw [List.getElem?_eq_getElem (by omega), List.getElem?_eq_getElem (by omega)] at this ⊢
    simpa using this
  have hp : l.map ptN = k.map ptN := by
    have h2 : ∀ z : List Nat, z.map ptN = (z.map pipN).map fun p => min p 10 := fun z => by rw [List.map_map]; rfl
    rw [h2, h2, h]
  have hm : mny l = mny k := by
    funext q
    have h2 : ∀ z : List Nat, mny z q = (z.map pipN).countP fun p => p == q := fun z => by unfold mny; rw [List.countP_map]; rfl
    rw [h2, h2, h]
  have hs := pS_congr hi 5 (Nat.le_refl _)
  unfold pv
  rw [hp, hm, hs]
  exact ⟨rfl, rfl⟩
theorem pipV_pv {l : List Nat} (hl : l.length = 5) : pipV l = pv l := by unfold pipV pv; rw [fif_eq hl]
/-- the bounds that pips give. -/
theorem pip_bd {l : List Nat} (hl : l.length = 5) : ((∃ p, ∀ x ∈ l, pipN x = p) ∨ pipV l ≤ 28) ∧ (pS l 5 ≤ 1 → pipV l ≤ 23) := by
  obtain ⟨qs, hqs⟩ : ∃ qs, qs = (l.map pipN).mergeSort (fun x y => decide (x ≤ y)) := ⟨_, rfl⟩
  have hp : qs.Perm (l.map pipN) := by rw [hqs]; exact List.mergeSort_perm _ _
  have hs : qs.Pairwise fun x y => x ≤ y := by
    rw [hqs]
    have := List.pairwise_mergeSort (le := fun x y : Nat => decide (x ≤ y)) (fun a b c h1 h2 => by simp at *; omega) (fun a b => by simp; omega) (l.map pipN)
    exact this.imp fun h => by simpa using h
  have hql : qs.length = 5 := by rw [hp.length_eq]; simp [hl]
  have hbd : ∀ q ∈ qs, 1 ≤ q ∧ q ≤ 13 := fun q hq => by
    obtain ⟨x, _, rfl⟩ := List.mem_map.1 (hp.mem_iff.1 hq)
    exact pipN_bd x
  have hmr : (qs.map rp).map pipN = qs := by
    rw [List.map_map]
    conv => rhs; rw [← List.map_id qs]
    exact List.map_congr_left fun q hq => rp_pip (hbd q hq).1 (hbd q hq).2
  have hmr2 : ((l.map pipN).map rp).map pipN = l.map pipN := by
    rw [List.map_map]
    conv => rhs; rw [← List.map_id (l.map pipN)]
    exact List.map_congr_left fun q hq => by
      obtain ⟨x, _, rfl⟩ := List.mem_map.1 hq
      exact rp_pip (pipN_bd x).1 (pipN_bd x).2
  obtain ⟨c1, c2⟩ := pv_congr (l := l) (k := (l.map pipN).map rp) hmr2.symm hl
  have hpp : (qs.map rp).Perm ((l.map pipN).map rp) := hp.map rp
  have e1 : pipV l = pv (qs.map rp) := by
    rw [pipV_pv hl, c1, ← pipV_pv (by simp [hl]), ← pipV_perm hpp (by simp [hql]), pipV_pv (by simp [hql])]
  have e2 : pS l 5 = pS (qs.map rp) 5 := by
    have h2 := pS_perm hpp
    rw [show (qs.map rp).length = 5 by simp [hql], show ((l.map pipN).map rp).length = 5 by simp [hl]] at h2
    rw [c2, h2]
  obtain ⟨a, b, c, d, e, rfl⟩ : ∃ a b c d e, qs = [a, b, c, d, e] := by
    match qs, hql with
    | [a, b, c, d, e], _ => exact ⟨a, b, c, d, e, rfl⟩
  simp only [List.pairwise_cons, List.mem_cons, List.not_mem_nil, or_false, forall_eq_or_imp, forall_eq] at hs
  have ha := hbd a (by simp)
  have he := hbd e (by simp)
  have hok := ok_at (a := a) (b := b) (c := c) (d := d) (e := e) ha.1 (by omega) (by omega) (by omega) (by omega) he.2
  unfold okV at hok
  simp only [Bool.and_eq_true, Bool.or_eq_true, decide_eq_true_eq, beq_iff_eq, Bool.not_eq_true', decide_eq_false_iff_not] at hok
  rw [e1, e2]
  refine ⟨?_, fun h => ?_⟩
  · rcases hok.1 with h | h
    · left
      refine ⟨a, fun x hx => ?_⟩
      have := hp.mem_iff.2 (List.mem_map_of_mem (f := pipN) hx)
      simp only [List.mem_cons, List.not_mem_nil, or_false] at this
      omega
    · right; exact h
  · rcases hok.2 with h2 | h2
    · exact absurd h h2
    · exact h2
end Go.Proofs.Ytkakggagaplaiaa
