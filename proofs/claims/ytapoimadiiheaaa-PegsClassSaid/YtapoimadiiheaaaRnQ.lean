/- What a run of the search leaves, and how it is put together; no program in sight but its memory. -/
import Derived.Test.YtapoimadiiheaaaRnP
namespace Go.Proofs.Ytapoimadiiheaaa
open Go.RowKit Go.Maps

theorem bd_do {n : Nat} {s : List Nat} {j : Jm} (h : Bd n s) (hw : wfJ n j) : Bd n (doJ s j) := by
  refine ⟨by rw [doJ_len]; exact h.1, fun k => ?_⟩
  have hl := h.1
  obtain ⟨h1, h2, h3, _⟩ := hw
  unfold doJ
  rw [st_set _ _ _ _ (by simp; omega), st_set _ _ _ _ (by simp; omega), st_set _ _ _ _ (by omega)]
  have := h.2 k
  split <;> (try split) <;> (try split) <;> omega
theorem can_le {s : List Nat} {j : Jm} (hc : canJ s j = true) : st s j.1 ≤ 1 ∧ st s j.2.1 ≤ 1 ∧ st s j.2.2 ≤ 1 := by
  obtain ⟨a, b, c⟩ := can_iff.1 hc; omega
theorem do_le {n : Nat} {s : List Nat} {j : Jm} (h : s.length = n) (hw : wfJ n j) : st (doJ s j) j.1 ≤ 1 ∧ st (doJ s j) j.2.1 ≤ 1 ∧ st (doJ s j) j.2.2 ≤ 1 := by
  obtain ⟨h1, h2, h3, h4, h5, h6⟩ := hw
  have d : ∀ k, st (doJ s j) k = if k = j.2.2 then 1 else if k = j.2.1 then 0 else if k = j.1 then 0 else st s k := fun k => by
    unfold doJ
    rw [st_set _ _ _ _ (by simp; omega), st_set _ _ _ _ (by simp; omega), st_set _ _ _ _ (by omega)]
  refine ⟨?_, ?_, ?_⟩ <;> rw [d] <;> (split <;> (try split) <;> (try split) <;> first | omega | (exfalso; simp_all))
section
variable {α : Type} (P : Pm) (eb : Nat → Prop) (env0 env1 : World → α → Prop)
/-- what a run from W to W' leaves. -/
structure PostR (W W' : World) (s : List Nat) (row : List Jm) (p : Option Addr) (nr cr : Nat) (r : (List (List Nat) × α) × Bool) : Prop where
  rs : RS0 P W' s r.1.1
  no : r.2 = false → env0 W' r.1.2 ∧ OwnJ P.R W' p nr cr row
  yes : r.2 = true → env1 W' r.1.2
  kept : Kept (FrS P eb p) W W'
/-- the round's beginning. -/
structure RndR (f : Nat) (D : List Nat → List Jm → α → α × Bool) (W W' : World) (s : List Nat) (row : List Jm) (p : Option Addr) (nr cr i L : Nat) (z0 z : List (List Nat) × α) : Prop where
  eq : runL (runS D P.J f) s row P.J z0 = runL (runS D P.J f) s row (P.J.drop i) z
  rs : RS0 P W' s z.1
  env : env0 W' z.2
  row : OwnJ P.R W' p nr cr row
  kept : Kept (FrS P eb p) W W'
  len : z.1.length ≤ L + 1 + i * Bc (cnt1 s - 1)
variable {P eb env0 env1}
theorem RndR.step {f : Nat} {D : List Nat → List Jm → α → α × Bool} {W W' : World} {s : List Nat} {row : List Jm} {p : Option Addr} {nr cr i L : Nat} {z0 z : List (List Nat) × α} (h : RndR P eb env0 f D W W' s row p nr cr i L z0 z) {j : Jm} (hj : P.J[i]? = some j) :
    runL (runS D P.J f) s row P.J z0 = if canJ s j then (if (runS D P.J f (doJ s j) (row ++ [j]) z).2 then ((runS D P.J f (doJ s j) (row ++ [j]) z).1, true) else runL (runS D P.J f) s row (P.J.drop (i + 1)) (runS D P.J f (doJ s j) (row ++ [j]) z).1) else runL (runS D P.J f) s row (P.J.drop (i + 1)) z := by
  have hi : i < P.J.length := (List.getElem?_eq_some_iff.1 hj).1
  have hg : P.J[i] = j := (List.getElem?_eq_some_iff.1 hj).2
  rw [h.eq, List.drop_eq_getElem_cons hi, hg, runL]
theorem kept_app {W0 W1 W2 : World} {p p' : Option Addr} (hg : W0.grownBy W1 (p.map (·.block))) (hor : p' = p ∨ (W0.grownBy W1 none ∧ ∀ a', p' = some a' → W0.heap.size ≤ a'.block)) (hk : Kept (FrS P eb p') W1 W2) : Kept (FrS P eb p) W0 W2 := by
  have h1 : Kept (FrS P eb p) W0 W1 := (Kept.ofGrown hg).weak fun k _ e => .inr (.inr (.inl e))
  refine ⟨hk.os.trans h1.os, hk.tape.trans h1.tape, hk.output.trans h1.output, Nat.le_trans h1.size hk.size, fun k hlt hS => ?_⟩
  refine (hk.block k (Nat.lt_of_lt_of_le hlt h1.size) fun hS' => hS ?_).trans (h1.block k hlt hS)
  rcases hS' with e | e | e | e
  · exact .inl e
  · exact .inr (.inl e)
  · rcases hor with rfl | ⟨_, h2⟩
    · exact .inr (.inr (.inl e))
    · cases p' with
      | none => cases e
      | some x => simp at e; have := h2 x rfl; omega
  · exact .inr (.inr (.inr e))
/-- a row that was appended to for a run is as it was behind it. -/
theorem row_back {W0 W1 W2 : World} {p p' : Option Addr} {nr cr c' : Nat} {row : List Jm} {j : Jm} (ok : PmOk P eb) (h0 : OwnJ P.R W0 p nr cr row) (hor : (p' = p ∧ c' = cr) ∨ (W0.grownBy W1 none ∧ ∀ a', p' = some a' → W0.heap.size ≤ a'.block))
    (h2 : OwnJ P.R W2 p' (nr + 1) c' (row ++ [j])) (hk : Kept (FrS P eb p') W1 W2) : OwnJ P.R W2 p nr cr row := by
  rcases hor with ⟨rfl, rfl⟩ | ⟨hg, hn⟩
  · obtain ⟨g, rfl, _⟩ := OwnC.where h2 (by omega)
    exact h2.front
  · refine OwnC.keep h0 fun a ha => ?_
    have hb := OwnC.block h0 a ha
    refine (hk.block _ (Nat.lt_of_lt_of_le hb.2 hg.size) fun hS => ?_).trans (hg.block _ hb.2 (by simp))
    rcases hS with e | e | e | e
    · have := ok.gR; omega
    · have := ok.mbR; omega
    · cases p' with
      | none => cases e
      | some x => simp at e; have := hn x rfl; omega
    · have := ok.ebR _ e; omega
/-- a row lasts where its block does. -/
theorem row_kept {W W' : World} {p : Option Addr} {nr cr : Nat} {row : List Jm} {S : Nat → Prop} (h : OwnJ P.R W p nr cr row) (hk : Kept S W W') (hS : ∀ k, S k → k < P.R) : OwnJ P.R W' p nr cr row := by
  refine OwnC.keep h fun a ha => ?_
  have hb := OwnC.block h a ha
  exact hk.block _ hb.2 fun hs => by have := hS _ hs; omega
theorem row_grown {W W' : World} {p : Option Addr} {nr cr b : Nat} {row : List Jm} (h : OwnJ P.R W p nr cr row) (hk : W.grownBy W' (some b)) (hb : b < P.R) : OwnJ P.R W' p nr cr row :=
  row_kept h (Kept.ofGrown hk) fun k e => by injection e with e; omega
theorem row_bw {W W' : World} {p : Option Addr} {nr cr : Nat} {row : List Jm} (h : OwnJ P.R W p nr cr row) (hb : Bw W W') : OwnJ P.R W' p nr cr row := OwnC.below h hb (Nat.le_refl _)
/-- behind an append the search's own blocks are as they were. -/
theorem RS0.app (ok : PmOk P eb) {W W' : World} {s : List Nat} {ks : List (List Nat)} {p : Option Addr} {nr cr : Nat} {row : List Jm} (h : RS0 P W s ks) (hr : OwnJ P.R W p nr cr row) (hg : W.grownBy W' (p.map (·.block))) : RS0 P W' s ks :=
  h.far ok (S := fun k => some k = p.map (·.block)) (fun k e hk => by
    cases p with
    | none => cases e
    | some x => simp at e; have := (OwnC.block hr x rfl).1; omega) (Kept.ofGrown hg)
end
end Go.Proofs.Ytapoimadiiheaaa
