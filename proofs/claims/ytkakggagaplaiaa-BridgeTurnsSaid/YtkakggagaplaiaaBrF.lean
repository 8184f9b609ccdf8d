/- What the memo of tables holds, and what table.best and table.play are asked; conditions stand in each. -/
import Derived.Test.YtkakggagaplaiaaBrA
namespace Go.Proofs.Ytkakggagaplaiaa
open Go.RowKit

/-- a deal of which cards may have been played. -/
structure DlB (d0 d : List Nat) : Prop where
  l0 : d0.length = 52
  len : d.length = 52
  bd : ∀ c, c < 52 → st d0 c ≤ 4
  of : ∀ c, c < 52 → st d c = 4 ∨ st d c = st d0 c
theorem DlB.le {d0 d : List Nat} (h : DlB d0 d) : ∀ c, c < 52 → st d c ≤ 4 := fun c hc => by
  have := h.bd c hc
  rcases h.of c hc with e | e <;> omega
theorem DlB.set {d0 d : List Nat} (h : DlB d0 d) (c : Nat) : DlB d0 (d.set c 4) := by
  refine ⟨h.l0, by rw [List.length_set]; exact h.len, h.bd, fun x hx => ?_⟩
  by_cases e : x = c
  · subst e; left; unfold st; simp [h.len, hx]
  · rw [show st (d.set c 4) x = st d x by unfold st; simp [Ne.symm e]]; exact h.of x hx
theorem DlB.uniq {d0 d d' : List Nat} (h : DlB d0 d) (h' : DlB d0 d') (hm : msk d 52 = msk d' 52) : d = d' := by
  refine List.ext_getElem (by rw [h.len, h'.len]) fun c h1 h2 => ?_
  have hc : c < 52 := by rw [h.len] at h1; exact h1
  have hiff := msk_eq 52 hm c hc
  have e1 : st d c = d[c] := by unfold st; simp [h1]
  have e2 : st d' c = d'[c] := by unfold st; simp [h2]
  rw [← e1, ← e2]
  have b1 := h.le c hc
  have b2 := h'.le c hc
  have b0 := h.bd c hc
  rcases h.of c hc with a | a <;> rcases h'.of c hc with b | b <;> omega
/-- how many cards are there yet. -/
def crd (d : List Nat) : Nat := ((List.range 52).filter fun c => decide (st d c < 4)).length
theorem crd_set {d : List Nat} (hl : d.length = 52) {c : Nat} (hc : c < 52) (h : st d c < 4) : crd (d.set c 4) + 1 = crd d := by
  have h1 := flt_one (fun x => decide (st (d.set c 4) x < 4)) (fun x => decide (st d x < 4)) c
    (by show decide (st (d.set c 4) c < 4) = false
        rw [show st (d.set c 4) c = 4 by unfold st; simp [hl, hc]]; simp)
    (fun x hx => by show decide (st (d.set c 4) x < 4) = decide (st d x < 4); rw [show st (d.set c 4) x = st d x by unfold st; simp [Ne.symm hx]]) 52
  simp only [decide_eq_true_eq, hc, h, and_self, if_true] at h1
  exact h1
theorem crd_zero {d : List Nat} : msk d 52 = 0 ↔ crd d = 0 := by
  constructor
  · intro h
    unfold crd
    rw [List.length_eq_zero_iff, List.filter_eq_nil_iff]
    intro c hc
    have := msk_zero 52 h c (by simpa using hc)
    simpa using this
  · intro h
    unfold crd at h
    rw [List.length_eq_zero_iff, List.filter_eq_nil_iff] at h
    have : ∀ i, i ≤ 52 → msk d i = 0 := by
      intro i
      induction i with
      | zero => intro _; rfl
      | succ i ih =>
        intro hi
        have := h i (by simp; omega)
        rw [msk, ih (by omega), if_neg (by simpa using this)]
    exact this 52 (Nat.le_refl _)
open Classical in
/-- the memo's value of a key. -/
noncomputable def FB (s : Nat) (d0 : List Nat) (p : Nat × Nat) : Nat :=
  if h : ∃ d, DlB d0 d ∧ msk d 52 = p.1 then (gS s (crd h.choose) h.choose p.2 []).toNat else 0
theorem FB_eq (s : Nat) {d0 d : List Nat} (h : DlB d0 d) (ld : Nat) : FB s d0 (msk d 52, ld) = (gS s (crd d) d ld []).toNat := by
  have hex : ∃ d', DlB d0 d' ∧ msk d' 52 = (msk d 52, ld).1 := ⟨d, h, rfl⟩
  unfold FB
  rw [dif_pos hex]
  have e := hex.choose_spec.1.uniq h hex.choose_spec.2
  rw [e]
/-- the table, the deal and the memo as they lie. -/
structure Wd (s : Nat) (d0 : List Nat) (tb mb db : Nat) (d : List Nat) (w : World) : Prop where
  tab : w.heap[tb]? = some (.cells #[.int .i64 (s : Int), .map (some mb)] 85)
  nums : Nums w db 82 (asI d)
  map : MapOk (FB s d0) w mb
theorem Wd.grown {s tb mb db : Nat} {d0 d : List Nat} {w w' : World} (h : Wd s d0 tb mb db d w) (hg : w.grownBy w' (some mb)) (hm : MapOk (FB s d0) w' mb) : Wd s d0 tb mb db d w' := by
  obtain ⟨ks, D, ⟨es, clock, hb, _⟩, _⟩ := h.map
  have h1 : tb ≠ mb := by intro e; have := h.tab; rw [e, hb] at this; cases this
  have h2 : db ≠ mb := by intro e; have := h.nums; unfold Nums at this; rw [e, hb] at this; cases this
  exact ⟨(hg.block tb (lt_of_heap h.tab) (by intro e; injection e with e; exact h1 e)).trans h.tab, (hg.block db h.nums.lt (by intro e; injection e with e; exact h2 e)).trans h.nums, hm⟩
theorem Wd.below {s tb mb db : Nat} {d0 d : List Nat} {w w' : World} (h : Wd s d0 tb mb db d w) (hb : Below w.heap.size w w') : Wd s d0 tb mb db d w' :=
  h.grown (grown_below hb _) (h.map.below hb)
/-- what table.best is asked where t cards are there yet. -/
def BestAt (s : Nat) (d0 : List Nat) (tb mb db t : Nat) : Prop := ∀ (d : List Nat) (ld q : Nat) (w : World), crd d = t → t = 4 * q → (1 ≤ q → Rd d ld [] q) → DlB d0 d → ld < 4 → Wd s d0 tb mb db d w →
  Calls Try.prog 50 #[.pointer (some ⟨tb, 0, none⟩), .pointer (some ⟨db, 0, none⟩), .int .i64 ld] w fun e w' => e = .returned (.int .i64 (gS s t d ld [])) ∧ MapOk (FB s d0) w' mb ∧ w.grownBy w' (some mb)
/-- what table.play is asked within a trick. -/
def PlayAt (s : Nat) (d0 : List Nat) (tb mb db t : Nat) : Prop := ∀ (d : List Nat) (ld q : Nat) (l : List Nat) (p : Option Addr) (c : Nat) (w : World), crd d = t → t + l.length = 4 * q → 1 ≤ q → Rd d ld l q → DlB d0 d → ld < 4 → (∀ i, i < l.length → st l i < 52) → l.length ≤ c →
  (p = none ↔ l = []) → (p = none → c = 0) → (∀ a, p = some a → a.block ≠ db) → IntsIn w p l.length (asI l) → Wd s d0 tb mb db d w →
  Calls Try.prog 70 #[.pointer (some ⟨tb, 0, none⟩), .pointer (some ⟨db, 0, none⟩), .int .i64 ld, .slice p l.length c] w fun e w' => e = .returned (.int .i64 (gS s t d ld l)) ∧ MapOk (FB s d0) w' mb ∧ w.grownBy w' (some mb)
end Go.Proofs.Ytkakggagaplaiaa
