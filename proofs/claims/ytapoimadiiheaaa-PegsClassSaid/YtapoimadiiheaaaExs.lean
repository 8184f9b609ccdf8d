/- The small example of pegs (three places in a row), and what does not hang on a row's order; conditions: none. -/
import Derived.Test.YtapoimadiiheaaaSol
import Derived.Test.YtapoimadiiheaaaMir
import Derived.Test.YtapoimadiiheaaaDoW
namespace Go.Proofs.Ytapoimadiiheaaa
open Go.RowKit

theorem rch_ext {J J' : List Jm} {s t : List Nat} (h : ∀ j, j ∈ J ↔ j ∈ J') (hr : Rch J s t) : Rch J' s t := by
  induction hr with
  | refl => exact .refl
  | step h1 h2 h3 ih => exact ih.step ((h _).1 h2) h3
theorem most_ext {J J' : List Jm} {s : List Nat} (h : ∀ j, j ∈ J ↔ j ∈ J') (hJ : ∀ j ∈ J, wfJ s.length j) : mostS J s = mostS J' s := by
  obtain ⟨⟨t, a1, a2⟩, a3⟩ := most_law hJ
  obtain ⟨⟨t', b1, b2⟩, b3⟩ := most_law (J := J') (s := s) fun j hj => hJ j ((h j).2 hj)
  have e1 := b3 _ (rch_ext h a1)
  have e2 := a3 _ (rch_ext (fun j => (h j).symm) b1)
  omega
theorem last_none (N : Nat) : lastD N (-1) = solD N := by
  funext s row acc
  unfold lastD solD
  by_cases e : row.length + 1 = N
  · rw [if_pos ⟨e, .inl (by decide)⟩, if_pos e]
  · rw [if_neg (fun h => e h.1), if_neg e]
theorem perm_two {α : Type} {J : List α} {u v : α} (hne : u ≠ v) (h : J.Perm [u, v]) : J = [u, v] ∨ J = [v, u] := by
  have hl := h.length_eq
  match J, hl with
  | [x, y], _ =>
    have hx : x ∈ [u, v] := h.mem_iff.1 (by simp)
    have hy : y ∈ [u, v] := h.mem_iff.1 (by simp)
    have hnd : [x, y].Nodup := h.nodup_iff.2 (by simp [hne])
    simp at hx hy hnd
    rcases hx with rfl | rfl <;> rcases hy with rfl | rfl
    · exact absurd rfl hnd
    · exact .inl rfl
    · exact .inr rfl
    · exact absurd rfl hnd
theorem ex_all : allJ 3 1 [1, 1, 0] (3 * 1) = [(0, 1, 2), (2, 1, 0)] := by decide +kernel
theorem ex_run {J : List Jm} (h : J.Perm (allJ 3 1 [1, 1, 0] (3 * 1))) : (runS (lastD (cnt1 [1, 1, 0]) 2) J (cnt1 [1, 1, 0] + 1) [1, 1, 0] [] ([], [])).2 = true ∧ (runS (lastD (cnt1 [1, 1, 0]) 2) J (cnt1 [1, 1, 0] + 1) [1, 1, 0] [] ([], [])).1.2 = [(0, 1, 2)] := by
  rw [ex_all] at h
  rcases perm_two (by decide) h with rfl | rfl <;> decide +kernel
theorem ex_st (j : Nat) : st [1, 1, 0] j ≤ 2 := by
  unfold st
  match j with
  | 0 => decide
  | 1 => decide
  | 2 => decide
  | j + 3 => simp
/-- the example's solution: one jump from 0 to 2. -/
theorem ex_sol (b c : Nat) (w : World) (hb : w.heap[b]? = some (.cells #[.int .i64 1, .int .i64 1, .int .i64 0] 3 (0, 0))) :
    Calls Try.prog 6 #[.agg #[.int .i64 3, .int .i64 1, .slice (some ⟨b, 0, none⟩) 3 c], .int .i64 2] w fun e w' => (∃ g cm, e = .returned (.tuple #[.slice (some ⟨g, 0, none⟩) 1 cm, .int .i64 0]) ∧ w'.cell? ⟨g, 0, none⟩ = some (.int .i64 0) ∧ w'.cell? ⟨g, 1, none⟩ = some (.int .i64 2)) ∧ Bw w w' := by
  have hx : IntsIn w (some ⟨b, 0, none⟩) 3 (asI [1, 1, 0]) := IntsIn.mk' rfl (lt_of_heap hb) fun j hj => by
    rcases (show j = 0 ∨ j = 1 ∨ j = 2 by omega) with rfl | rfl | rfl
    · exact wcell (cs := [_, _, _]) hb 0
    · exact wcell (cs := [_, _, _]) hb 1
    · exact wcell (cs := [_, _, _]) hb 2
  refine (sol_yes 3 1 3 c (some ⟨b, 0, none⟩) [1, 1, 0] 2 w (by omega) (by omega) (by omega) (by omega) rfl hx ex_st (by omega) (by omega) (fun _ => by decide) (by decide)).mono ?_
  rintro e w' ⟨⟨J, hp, _, h⟩, hB⟩
  obtain ⟨r1, r2⟩ := ex_run hp
  rcases h with ⟨h1, _⟩ | ⟨_, p, m, cm, rfl, hO⟩
  · rw [r1] at h1; cases h1
  · rw [r2] at hO
    have hm : m = 1 := by have := OwnC.len hO; rw [mvals_len] at this; simp at this; omega
    subst hm
    obtain ⟨g, rfl, _⟩ := OwnC.where hO (by omega)
    exact ⟨⟨g, cm, rfl, OwnC.cell hO (i := 0) (by omega), OwnC.cell hO (i := 1) (by omega)⟩, hB⟩
theorem mvals_at {J : List Jm} {i : Nat} {j : Jm} (h : J[i]? = some j) : (mvals J)[3 * i]? = some (.int .i64 (j.1 : Int)) ∧ (mvals J)[3 * i + 1]? = some (.int .i64 (j.2.2 : Int)) ∧ (mvals J)[3 * i + 2]? = some (.int .i64 0) := by
  induction J generalizing i with
  | nil => simp at h
  | cons x l ih =>
    have e : mvals (x :: l) = mvv x ++ mvals l := rfl
    have hl : (mvv x).length = 3 := rfl
    rw [e]
    cases i with
    | zero => simp at h; subst h; simp [mvv]
    | succ i =>
      simp at h
      obtain ⟨a, b, c⟩ := ih h
      rw [List.getElem?_append_right (by omega), List.getElem?_append_right (by omega), List.getElem?_append_right (by omega), hl, show 3 * (i + 1) - 3 = 3 * i by omega, show 3 * (i + 1) + 1 - 3 = 3 * i + 1 by omega, show 3 * (i + 1) + 2 - 3 = 3 * i + 2 by omega]
      exact ⟨a, b, c⟩
theorem OwnM.in {B : Nat} {w : World} {p : Option Addr} {n c : Nat} {J : List Jm} (h : OwnM B w p n c J) : MvIn w p n J := by
  have hl : J.length = n := by have := OwnC.len h; rw [mvals_len] at this; omega
  refine ⟨hl, fun i hi => ?_⟩
  obtain ⟨g, rfl, hB, hg, _⟩ := OwnC.where h (by omega)
  have hj : J[i]? = some J[i] := List.getElem?_eq_getElem (by omega)
  obtain ⟨a, b, c⟩ := mvals_at hj
  exact ⟨g, J[i], rfl, hg, hj, (OwnC.cell h (by omega)).trans a, (OwnC.cell h (by omega)).trans b, (OwnC.cell h (by omega)).trans c⟩
end Go.Proofs.Ytapoimadiiheaaa
