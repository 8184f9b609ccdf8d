/- Small lemmas: a slice value that reads as a list of ints, and how that reading lasts; no conditions. -/
import Derived.WalkKit
import Derived.WalkSpells
import Derived.WalkLawsBesides
import Derived.Lib.Hide
namespace Go.Proofs.Ytlpiejeaekfchaa
open Go.RowKit

/-- a slice value '.slice p n c' reads as the list xs of ints. -/
def IntsIn (w : World) (p : Option Addr) (n : Nat) (xs : List Int) : Prop :=
  xs.length = n ∧ ∀ j, j < n → ∃ b o, p = some ⟨b, o, none⟩ ∧ b < w.heap.size ∧ w.cell? ⟨b, o + j, none⟩ = some (.int .i64 (xs[j]?.getD 0))

theorem IntsIn.len {w : World} {p : Option Addr} {n : Nat} {xs : List Int} (h : IntsIn w p n xs) : xs.length = n := h.1
theorem IntsIn.below {w w' : World} {p : Option Addr} {n : Nat} {xs : List Int} (h : IntsIn w p n xs) (hb : Below w.heap.size w w') : IntsIn w' p n xs :=
  ⟨h.1, fun j hj => let ⟨b, o, e, hs, hc⟩ := h.2 j hj; ⟨b, o, e, Nat.lt_of_lt_of_le hs hb.size, (hb.cell (p := ⟨b, o + j, none⟩) hs).trans hc⟩⟩
theorem IntsIn.at {w : World} {p : Option Addr} {n : Nat} {xs : List Int} (h : IntsIn w p n xs) (hn : 0 < n) :
    ∃ b o, p = some ⟨b, o, none⟩ ∧ b < w.heap.size ∧ ∀ j, j < n → w.cell? ⟨b, o + j, none⟩ = some (.int .i64 (xs[j]?.getD 0)) := by
  obtain ⟨b, o, e, hs, _⟩ := h.2 0 hn
  refine ⟨b, o, e, hs, fun j hj => ?_⟩
  obtain ⟨b', o', e', _, hc⟩ := h.2 j hj
  rw [e] at e'; cases e'
  exact hc
theorem IntsIn.nil (w : World) (p : Option Addr) : IntsIn w p 0 [] := ⟨rfl, fun j hj => absurd hj (Nat.not_lt_zero j)⟩
theorem IntsIn.mk' {w : World} {b o n : Nat} {xs : List Int} (hl : xs.length = n) (hb : b < w.heap.size) (hc : ∀ j, j < n → w.cell? ⟨b, o + j, none⟩ = some (.int .i64 (xs[j]?.getD 0))) : IntsIn w (some ⟨b, o, none⟩) n xs :=
  ⟨hl, fun j hj => ⟨b, o, rfl, hb, hc j hj⟩⟩
/-- the block that was laid last. -/
theorem IntsIn.new (w : World) (c : Array Value) (t : TypeId) (b n : Nat) (xs : List Int) (hb : b = w.heap.size) (hc : c = (xs.map (Value.int .i64)).toArray) (hn : xs.length = n) :
    IntsIn (w.alloc (.cells c t)) (some ⟨b, 0, none⟩) n xs := by
  subst hb
  refine IntsIn.mk' hn (by simp) fun j hj => ?_
  have hj' : j < xs.length := by omega
  rw [World.cell?_alloc_new, hc]
  simp [hj']
theorem IntsIn.alloc {w : World} {p : Option Addr} {n : Nat} {xs : List Int} (h : IntsIn w p n xs) (o : Obj) : IntsIn (w.alloc o) p n xs := h.below ((Below.refl _ _).alloc (Nat.le_refl _) o)
end Go.Proofs.Ytlpiejeaekfchaa
