/- Plain laws of a search that remembers what was tried: all boards that jumps lead to are met; no program in sight. -/
import Derived.Test.YtapoimadiiheaaaGrd
namespace Go.Proofs.Ytapoimadiiheaaa

abbrev Jm := Nat × Nat × Nat
def canJ (s : List Nat) (j : Jm) : Bool := st s j.1 == 1 && st s j.2.1 == 1 && st s j.2.2 == 0
def doJ (s : List Nat) (j : Jm) : List Nat := ((s.set j.1 0).set j.2.1 0).set j.2.2 1
def wfJ (n : Nat) (j : Jm) : Prop := j.1 < n ∧ j.2.1 < n ∧ j.2.2 < n ∧ j.1 ≠ j.2.1 ∧ j.1 ≠ j.2.2 ∧ j.2.1 ≠ j.2.2
def cnt1 (s : List Nat) : Nat := s.countP (· == 1)
theorem st_set (s : List Nat) (i v k : Nat) (hi : i < s.length) : st (s.set i v) k = if k = i then v else st s k := by
  unfold st
  by_cases e : k = i
  · subst e; rw [List.getElem?_set_self hi]; simp
  · rw [List.getElem?_set_ne (fun h => e h.symm)]; simp [e]
theorem cnt_off {s : List Nat} {i : Nat} (hi : i < s.length) (h : st s i = 1) : cnt1 (s.set i 0) + 1 = cnt1 s := by
  have e : s[i] = st s i := by unfold st; rw [List.getElem?_eq_getElem hi]; rfl
  have h2 := List.countP_set (p := (· == 1)) (a := 0) hi
  have hpos : 0 < s.countP (· == 1) := List.countP_pos_iff.2 ⟨s[i], List.getElem_mem hi, by rw [e, h]; rfl⟩
  rw [e, h] at h2
  unfold cnt1
  simp at h2
  omega
theorem cnt_on {s : List Nat} {i : Nat} (hi : i < s.length) (h : st s i = 0) : cnt1 (s.set i 1) = cnt1 s + 1 := by
  have e : s[i] = st s i := by unfold st; rw [List.getElem?_eq_getElem hi]; rfl
  have h2 := List.countP_set (p := (· == 1)) (a := 1) hi
  rw [e, h] at h2
  unfold cnt1
  simpa using h2
theorem can_iff {s : List Nat} {j : Jm} : canJ s j = true ↔ st s j.1 = 1 ∧ st s j.2.1 = 1 ∧ st s j.2.2 = 0 := by
  unfold canJ; simp [and_assoc]
theorem doJ_len (s : List Nat) (j : Jm) : (doJ s j).length = s.length := by simp [doJ]
/-- a jump takes one peg. -/
theorem doJ_cnt {s : List Nat} {j : Jm} (hw : wfJ s.length j) (hc : canJ s j = true) : cnt1 (doJ s j) + 1 = cnt1 s := by
  obtain ⟨h1, h2, h3, h4, h5, h6⟩ := hw
  obtain ⟨c1, c2, c3⟩ := can_iff.1 hc
  unfold doJ
  have e1 := cnt_off h1 c1
  have e2 := cnt_off (s := s.set j.1 0) (i := j.2.1) (by simpa using h2) (by rw [st_set _ _ _ _ h1, if_neg (Ne.symm h4)]; exact c2)
  have e3 := cnt_on (s := (s.set j.1 0).set j.2.1 0) (i := j.2.2) (by simpa using h3) (by rw [st_set _ _ _ _ (by simpa using h2), if_neg (Ne.symm h6), st_set _ _ _ _ h1, if_neg (Ne.symm h5)]; exact c3)
  omega
/-- a board that jumps lead to. -/
inductive Rch (J : List Jm) (s : List Nat) : List Nat → Prop where
  | refl : Rch J s s
  | step {t : List Nat} {j : Jm} : Rch J s t → j ∈ J → canJ t j = true → Rch J s (doJ t j)

section
variable {α : Type}
def runL (R : List Nat → List Jm → List (List Nat) × α → (List (List Nat) × α) × Bool) (s : List Nat) (row : List Jm) : List Jm → List (List Nat) × α → (List (List Nat) × α) × Bool
  | [], z => (z, false)
  | j :: l, z => if canJ s j then (if (R (doJ s j) (row ++ [j]) z).2 then ((R (doJ s j) (row ++ [j]) z).1, true) else runL R s row l (R (doJ s j) (row ++ [j]) z).1) else runL R s row l z
/-- the search, f jumps deep at most. -/
def runS (D : List Nat → List Jm → α → α × Bool) (J : List Jm) : Nat → List Nat → List Jm → List (List Nat) × α → (List (List Nat) × α) × Bool
  | 0, _, _, z => (z, false)
  | f + 1, s, row, z => if (D s row z.2).2 then ((z.1, (D s row z.2).1), true) else if s ∈ z.1 then ((z.1, (D s row z.2).1), false) else runL (runS D J f) s row J (s :: z.1, (D s row z.2).1)
def Cl (J : List Jm) (T : List (List Nat)) (k : Nat) : Prop := ∀ t ∈ T, cnt1 t ≤ k → ∀ j ∈ J, canJ t j = true → doJ t j ∈ T
/-- what a search leaves. -/
structure Lft (J : List Jm) (Q : α → Prop) (V : List Nat → α → Prop) (k : Nat) (T : List (List Nat)) (z : List (List Nat) × α) : Prop where
  q : Q z.2
  sub : ∀ t ∈ T, t ∈ z.1
  new : ∀ t ∈ z.1, t ∈ T ∨ cnt1 t ≤ k
  v : ∀ t ∈ z.1, V t z.2
theorem runS_F {J : List Jm} {n N : Nat} (hJ : ∀ j ∈ J, wfJ n j) {s0 : List Nat} (D : List Nat → List Jm → α → α × Bool) (Q : α → Prop) (V : List Nat → α → Prop)
    (hD : ∀ s row acc, Rch J s0 s → row.length + cnt1 s = N → Q acc → (D s row acc).2 = false → Q (D s row acc).1 ∧ V s (D s row acc).1 ∧ ∀ t, V t acc → V t (D s row acc).1) :
    ∀ f s row (z : List (List Nat) × α), cnt1 s < f → s.length = n → row.length + cnt1 s = N → Rch J s0 s → Q z.2 → Cl J z.1 (cnt1 s) → (∀ t ∈ z.1, V t z.2) → (runS D J f s row z).2 = false →
      Lft J Q V (cnt1 s) z.1 (runS D J f s row z).1 ∧ s ∈ (runS D J f s row z).1.1 ∧ Cl J (runS D J f s row z).1.1 (cnt1 s) := by
  intro f
  induction f with
  | zero => intro s row z h; omega
  | succ f ih =>
    intro s row z hf hs hrow hR hq hcl hv hres
    rw [runS] at hres ⊢
    by_cases hb : (D s row z.2).2 = true
    · rw [if_pos hb] at hres; simp at hres
    · rw [if_neg hb] at hres ⊢
      obtain ⟨d1, d2, d3⟩ := hD s row z.2 hR hrow hq (by simpa using hb)
      generalize (D s row z.2).1 = acc at *
      by_cases hm : s ∈ z.1
      · rw [if_pos hm]
        exact ⟨⟨d1, fun t ht => ht, fun t ht => .inl ht, fun t ht => d3 t (hv t ht)⟩, hm, hcl⟩
      · rw [if_neg hm] at hres ⊢
        have key : ∀ (l : List Jm) (y : List (List Nat) × α), (∀ j ∈ l, j ∈ J) → Q y.2 → (∀ t ∈ z.1, t ∈ y.1) → s ∈ y.1 → (∀ t ∈ y.1, t ∈ z.1 ∨ t = s ∨ cnt1 t + 1 ≤ cnt1 s) → (∀ t ∈ y.1, cnt1 t + 1 ≤ cnt1 s → ∀ j ∈ J, canJ t j = true → doJ t j ∈ y.1) → (∀ t ∈ y.1, V t y.2) → (runL (runS D J f) s row l y).2 = false →
            Q (runL (runS D J f) s row l y).1.2 ∧ (∀ t ∈ y.1, t ∈ (runL (runS D J f) s row l y).1.1) ∧ (∀ t ∈ (runL (runS D J f) s row l y).1.1, t ∈ z.1 ∨ t = s ∨ cnt1 t + 1 ≤ cnt1 s) ∧ (∀ t ∈ (runL (runS D J f) s row l y).1.1, cnt1 t + 1 ≤ cnt1 s → ∀ j ∈ J, canJ t j = true → doJ t j ∈ (runL (runS D J f) s row l y).1.1) ∧
              (∀ t ∈ (runL (runS D J f) s row l y).1.1, V t (runL (runS D J f) s row l y).1.2) ∧ (∀ j ∈ l, canJ s j = true → doJ s j ∈ (runL (runS D J f) s row l y).1.1) := by
          intro l
          induction l with
          | nil => intro y _ h1 h2 h3 h4 h5 h6 _; exact ⟨h1, fun t ht => ht, h4, h5, h6, fun j hj => by simp at hj⟩
          | cons j l ihl =>
            intro y hl h1 h2 h3 h4 h5 h6 h7
            rw [runL] at h7 ⊢
            by_cases hc : canJ s j = true
            · rw [if_pos hc] at h7 ⊢
              have hjJ := hl j (by simp)
              have hcn := doJ_cnt (by rw [hs]; exact hJ j hjJ) hc
              by_cases hr : (runS D J f (doJ s j) (row ++ [j]) y).2 = true
              · rw [if_pos hr] at h7; simp at h7
              · rw [if_neg hr] at h7 ⊢
                obtain ⟨L, hin, hcl2⟩ := ih (doJ s j) (row ++ [j]) y (by omega) (by rw [doJ_len]; exact hs) (by simp; omega) (hR.step hjJ hc) h1 (fun t ht hk => h5 t ht (by omega)) h6 (by simpa using hr)
                generalize (runS D J f (doJ s j) (row ++ [j]) y).1 = y2 at *
                obtain ⟨k1, k2, k3, k4, k5, k6⟩ := ihl y2 (fun x hx => hl x (by simp [hx])) L.q (fun t ht => L.sub t (h2 t ht)) (L.sub s h3) (fun t ht => by
                  rcases L.new t ht with h | h
                  · exact h4 t h
                  · exact .inr (.inr (by omega))) (fun t ht hk => hcl2 t ht (by omega)) L.v h7
                refine ⟨k1, fun t ht => k2 t (L.sub t ht), k3, k4, k5, fun x hx hcx => ?_⟩
                rcases List.mem_cons.1 hx with rfl | hx
                · exact k2 _ hin
                · exact k6 x hx hcx
            · rw [if_neg hc] at h7 ⊢
              obtain ⟨k1, k2, k3, k4, k5, k6⟩ := ihl y (fun x hx => hl x (by simp [hx])) h1 h2 h3 h4 h5 h6 h7
              refine ⟨k1, k2, k3, k4, k5, fun x hx hcx => ?_⟩
              rcases List.mem_cons.1 hx with rfl | hx
              · exact absurd hcx hc
              · exact k6 x hx hcx
        obtain ⟨k1, k2, k3, k4, k5, k6⟩ := key J (s :: z.1, acc) (fun j hj => hj) d1 (fun t ht => by simp [ht]) (by simp) (fun t ht => by
          rcases List.mem_cons.1 ht with rfl | h
          · exact .inr (.inl rfl)
          · exact .inl h) (fun t ht hk j hj hc => by
          rcases List.mem_cons.1 ht with rfl | h
          · omega
          · exact List.mem_cons.2 (.inr (hcl t h (by omega) j hj hc))) (fun t ht => by
          rcases List.mem_cons.1 ht with rfl | h
          · exact d2
          · exact d3 t (hv t h)) hres
        refine ⟨⟨k1, fun t ht => k2 t (by simp [ht]), fun t ht => ?_, k5⟩, k2 s (by simp), fun t ht hk j hj hc => ?_⟩
        · rcases k3 t ht with h | rfl | h
          · exact .inl h
          · exact .inr (Nat.le_refl _)
          · exact .inr (by omega)
        · rcases k3 t ht with h | rfl | h
          · exact k2 _ (by simp [hcl t h hk j hj hc])
          · exact k6 j hj hc
          · exact k4 t ht h j hj hc
end
end Go.Proofs.Ytapoimadiiheaaa
