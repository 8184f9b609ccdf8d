/- How many boards the map of rings holds, and what two boxes apart lasts; plain. -/
import Derived.Test.YtkakggagaplaiaaShR
namespace Go.Proofs.Ytkakggagaplaiaa
open Go.RowKit

theorem stD_len (a b : Nat) (t : List Nat) (acc : List (List Nat × Int) × List (List Nat)) (d : Nat) : (stD a b t acc d).1.length + acc.2.length = acc.1.length + (stD a b t acc d).2.length ∧ (stD a b t acc d).1.length ≤ acc.1.length + 1 := by
  unfold stD
  cases mvB a b t d with
  | none => exact ⟨rfl, by simp⟩
  | some u =>
    simp only
    split
    · exact ⟨by omega, by omega⟩
    · simp; omega
theorem fold_len (a b : Nat) (t : List Nat) (ds : List Nat) : ∀ acc : List (List Nat × Int) × List (List Nat), (ds.foldl (stD a b t) acc).1.length + acc.2.length = acc.1.length + (ds.foldl (stD a b t) acc).2.length ∧ (ds.foldl (stD a b t) acc).1.length ≤ acc.1.length + ds.length := by
  induction ds with
  | nil => intro acc; exact ⟨rfl, by simp⟩
  | cons d ds ih =>
    intro acc
    have h1 := stD_len a b t acc d
    have h2 := ih (stD a b t acc d)
    simp only [List.foldl_cons, List.length_cons]
    omega
theorem foldT_len (a b : Nat) (ts : List (List Nat)) : ∀ acc : List (List Nat × Int) × List (List Nat), (ts.foldl (stT a b) acc).1.length + acc.2.length = acc.1.length + (ts.foldl (stT a b) acc).2.length ∧ (ts.foldl (stT a b) acc).1.length ≤ acc.1.length + 4 * ts.length := by
  induction ts with
  | nil => intro acc; exact ⟨rfl, by simp⟩
  | cons t ts ih =>
    intro acc
    have h1 := fold_len a b t (List.range 4) acc
    have h2 := ih (stT a b acc t)
    have e : stT a b acc t = (List.range 4).foldl (stD a b t) acc := rfl
    rw [e] at h2
    simp only [List.foldl_cons, List.length_cons]
    rw [e]
    rw [List.length_range] at h1
    omega
theorem cm_len (a b : Nat) : ∀ d, (stg a b d).1.length = smR a b (d + 1) sg0
  | 0 => rfl
  | d + 1 => by
    have h := cm_len a b d
    have h2 := foldT_len a b (stg a b d).2 ((stg a b d).1, [])
    rw [smR, ← h]
    have e : itR a b (d + 1) sg0 = stg a b (d + 1) := rfl
    rw [e, stg_succ]
    unfold rgS
    simp only [List.length_nil] at h2
    omega
theorem smR_mono (a b : Nat) {d e : Nat} (h : d ≤ e) : smR a b d sg0 ≤ smR a b e sg0 := by
  induction e with
  | zero => obtain rfl : d = 0 := by omega
            exact Nat.le_refl _
  | succ e ih =>
    rcases Nat.lt_or_ge d (e + 1) with h1 | h1
    · rw [smR]; have := ih (by omega); omega
    · obtain rfl : d = e + 1 := by omega
      exact Nat.le_refl _
theorem cm_le {a b d : Nat} (h : a = 2 ∧ b = 3 ∨ a = 3 ∧ b = 2) (hd : d ≤ 21) : (stg a b d).1.length ≤ 360 ∧ (stg a b d).2.length ≤ 360 := by
  have h1 := cm_len a b d
  have h2 := smR_mono a b (d := d + 1) (e := 22) (by omega)
  rw [(stages h).2.2] at h2
  refine ⟨by omega, ?_⟩
  have h3 : smR a b (d + 1) sg0 = smR a b d sg0 + (stg a b d).2.length := rfl
  omega
theorem TwS.refl (x1 x2 : Nat) (A : World) : TwS x1 x2 A A := ⟨rfl, rfl, rfl, Nat.le_refl _, fun _ _ _ _ => rfl⟩
theorem TwS.trans {x1 x2 : Nat} {A B C : World} (h : TwS x1 x2 A B) (k : TwS x1 x2 B C) : TwS x1 x2 A C :=
  ⟨k.os.trans h.os, k.tape.trans h.tape, k.output.trans h.output, Nat.le_trans h.size k.size, fun i hi h1 h2 => (k.block i (Nat.lt_of_lt_of_le hi h.size) h1 h2).trans (h.block i hi h1 h2)⟩
theorem TwS.low {x1 x2 R : Nat} {A B C : World} (h : TwS x1 x2 A B) (k : Below R B C) (hR : A.heap.size ≤ R) : TwS x1 x2 A C :=
  ⟨k.os.trans h.os, k.tape.trans h.tape, k.output.trans h.output, Nat.le_trans h.size k.size, fun i hi h1 h2 => (k.block i (by omega)).trans (h.block i hi h1 h2)⟩
theorem RgM.len {R0 : Nat} {W : World} {a b m c : Nat} {q : Option Addr} {ts : List (List Nat)} (h : RgM R0 W a b q m c ts) : ts.length = m := by obtain ⟨vs, _, h2, _⟩ := h; exact h2
/-- a ring of one. -/
theorem RgM.one {R0 : Nat} {W : World} {a b tb : Nat} {u : List Nat} (ht : TrR R0 W a b tb u) (hR : R0 ≤ W.heap.size) : RgM R0 (W.alloc (.cells #[.pointer (some ⟨tb, 0, none⟩)] 77)) a b (some ⟨W.heap.size, 0, none⟩) 1 1 [u] := by
  refine ⟨[.pointer (some ⟨tb, 0, none⟩)], ⟨rfl, .inr ⟨W.heap.size, 1, _, rfl, hR, heap_alloc_new W _, Nat.le_refl _, by unfold maxLen; omega, rfl, rfl⟩⟩, rfl, fun i hi => ?_⟩
  obtain rfl : i = 0 := by omega
  exact ⟨tb, rfl, ht.below ((Below.refl _ _).alloc (Nat.le_refl _) _)⟩
/-- the i-th tray of a ring. -/
theorem RgM.at {R0 : Nat} {W : World} {a b m c : Nat} {q : Option Addr} {ts : List (List Nat)} (h : RgM R0 W a b q m c ts) {i : Nat} (hi : i < m) : ∃ g tb, q = some ⟨g, 0, none⟩ ∧ g < W.heap.size ∧ W.cell? ⟨g, i, none⟩ = some (.pointer (some ⟨tb, 0, none⟩)) ∧ TrR R0 W a b tb (ts[i]?.getD []) := by
  obtain ⟨vs, h1, h2, h3⟩ := h
  obtain ⟨tb, h4, h5⟩ := h3 i hi
  obtain ⟨g, rfl, _, hg, _⟩ := OwnC.where (k := 1) h1 (by omega)
  exact ⟨g, tb, rfl, hg, (OwnC.cell (k := 1) h1 (by omega)).trans h4, h5⟩
end Go.Proofs.Ytkakggagaplaiaa
