/- What slices.Sort does to a row of small numbers of the call's own: the same numbers, in order; conditions: at most a thousand of them. -/
import Derived.Test.YtcibkchfdiijfaaGrd
import Derived.Test.YtcibkchfdiijfaaShelf
namespace Go.Proofs.Ytcibkchfdiijfaa
open Go.RowKit Go.Sort

theorem asI_back {xs : List Int} {l : List Nat} (h : xs.Perm (asI l)) : ∃ l', xs = asI l' ∧ l'.Perm l := by
  refine ⟨xs.map Int.toNat, ?_, ?_⟩
  · unfold asI
    rw [List.map_map]
    have : ∀ x ∈ xs, ((fun x : Nat => (x : Int)) ∘ Int.toNat) x = x := fun x hx => by
      have := h.mem_iff.1 hx
      unfold asI at this
      obtain ⟨y, _, rfl⟩ := List.mem_map.1 this
      simp
    rw [List.map_congr_left this]; simp
  · have := h.map Int.toNat
    unfold asI at this
    rw [List.map_map] at this
    have e : (Int.toNat ∘ fun x : Nat => (x : Int)) = id := by funext x; simp
    rw [e, List.map_id] at this
    exact this

theorem sort_any (p : Option Addr) (n c B : Nat) (l : List Nat) (w : World) (hn : n ≤ 1000000) (hO : Own 3 B w p n c (asI l)) :
    Calls Try.prog 26 #[.slice p n c] w fun e w' => e = .returned (.tuple #[]) ∧ ∃ l', l'.Perm l ∧ asI l' = (asI l).mergeSort (fun x y => decide (x ≤ y)) ∧ IntsIn w' p n (asI l') ∧ w.grownBy w' (p.map (·.block)) := by
  have hl := hO.len
  rcases Nat.eq_zero_or_pos n with h0 | h0
  · subst h0
    have hl0 : l = [] := by rw [asI_len] at hl; exact List.eq_nil_of_length_eq_zero hl
    subst hl0
    refine (Sh.slices_Sort_int_none p c w).mono fun e w' ⟨he, hw⟩ => ⟨he, [], List.Perm.refl _, by simp [asI], ?_, ?_⟩
    · rw [hw]; exact IntsIn.nil _ _
    · rw [hw]; exact ⟨rfl, rfl, rfl, Nat.le_refl _, fun _ _ _ => rfl⟩
  · obtain ⟨g, rfl, _, hg, _⟩ := hO.where h0
    have hH : Holds (Value.int .i64) w g 0 (asI l).toArray := fun j hj => by
      have hj' : j < (asI l).length := by simpa using hj
      refine ⟨?_, Own.free hO _⟩
      rw [Nat.zero_add, Own.cell hO (by omega)]
      simp [hj']
    have hs := Sh.slices_Sort_int g 0 c (asI l) w hH hg (by omega)
    rw [hl] at hs
    refine hs.mono fun e w' ⟨he, k, os, hw⟩ => ⟨he, ?_⟩
    obtain ⟨l', e1, e2⟩ := asI_back (l := l) (List.mergeSort_perm (asI l) (fun x y => decide (x ≤ y)))
    rw [e1] at hw
    have hlen : (asI l').length = n := by rw [← e1, List.length_mergeSort]; exact hl
    refine ⟨l', e2, e1.symm, ?_, ?_⟩
    · generalize asI l' = S at *
      refine IntsIn.mk' hlen ?_ fun j hj => ?_
      · rw [hw]; simp [grow]; omega
      · have hc := cell?_putRow (Value.int .i64) (Sort.ahead w k) g 0 (asI l).toArray S.toArray (holds_ahead _ _ _ _ _ _ hH) (by simp [hlen, hl]) j (by simp [hlen, hj])
        rw [hw, World.cell?_of_block (a := ⟨g, 0 + j, none⟩) (w' := grow (putRow (Value.int .i64) (Sort.ahead w k) g 0 S.toArray) os) (w := putRow (Value.int .i64) (Sort.ahead w k) g 0 S.toArray) (by simp [grow]; rw [Array.getElem?_append_left (by simp; exact hg)]), hc]
        simp [show j < S.length by omega]
    · rw [hw]
      refine ⟨rfl, rfl, rfl, by simp [grow], fun b hb hne => ?_⟩
      have hbg : b ≠ g := fun e => hne (by rw [e]; rfl)
      show ((putRow (Value.int .i64) (Sort.ahead w k) g 0 (asI l').toArray).heap ++ os)[b]? = _
      rw [Array.getElem?_append_left (by simp; exact hb)]
      simp [putRow, mapBlock, Array.getElem?_modify, Ne.symm hbg]
end Go.Proofs.Ytcibkchfdiijfaa
