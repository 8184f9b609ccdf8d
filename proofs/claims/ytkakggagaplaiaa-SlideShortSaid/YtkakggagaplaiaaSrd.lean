/- slices.Sort at a row of the call's own, and slices.Sorted(slices.Values(l)); conditions: at most a million numbers. -/
import Derived.Test.YtkakggagaplaiaaSqV
import Derived.Sort.OwnSortedInts
namespace Go.Proofs.Ytkakggagaplaiaa
open Go.RowKit Go.Shelf Go.Sort

def srt (xs : List Int) : List Int := xs.mergeSort fun x y => decide (x ≤ y)
theorem srt_len (xs : List Int) : (srt xs).length = xs.length := by unfold srt; exact List.length_mergeSort _
theorem srt_perm (xs : List Int) : (srt xs).Perm xs := List.mergeSort_perm _ _

theorem sort_own (p : Option Addr) (n c B : Nat) (xs : List Int) (w : World) (hn : n ≤ 1000000) (hO : Own 3 B w p n c xs) :
    Calls Try.prog 63 #[.slice p n c] w fun e w' => e = .returned (.tuple #[]) ∧ Own 3 B w' p n c (srt xs) ∧ w.grownBy w' (p.map (·.block)) := by
  have hl := hO.len
  rcases Nat.eq_zero_or_pos n with h0 | h0
  · subst h0
    have hl0 : xs = [] := List.eq_nil_of_length_eq_zero hl
    subst hl0
    refine (Sh.slices_Sort_int_none p c w).mono fun e w' ⟨he, hw⟩ => ⟨he, ?_, ?_⟩
    · have h1 : srt [] = [] := List.eq_nil_of_length_eq_zero (by rw [srt_len]; rfl)
      rw [hw, h1]; exact hO
    · rw [hw]; exact ⟨rfl, rfl, rfl, Nat.le_refl _, fun _ _ _ => rfl⟩
  · rcases hO.2 with ⟨_, h2⟩ | ⟨g, cap, cur, hv, hb, hh, h1, h2, h3, h4⟩
    · omega
    injection hv with e1 e2 e3
    subst e1
    subst e3
    have hg : g < w.heap.size := lt_of_heap hh
    have hH : Holds (Value.int .i64) w g 0 xs.toArray := fun j hj => by
      have hj' : j < xs.length := by simpa using hj
      refine ⟨?_, OwnC.free (k := 1) hO _⟩
      rw [Nat.zero_add, OwnC.cell (k := 1) hO (by omega)]
      simp [hj']
    have hs := Sh.slices_Sort_int g 0 c xs w hH hg (by omega)
    rw [hl] at hs
    refine hs.mono fun e w' ⟨he, k, os, hw⟩ => ⟨he, ?_, ?_⟩
    · have := ownsRow_sortedI (w := w) (base := B) (g := g) (cap := c) (n := k) (e := 3) (os := os) (cur := cur) (ss := xs) (ts := srt xs) (srt_len xs) hb hh (by omega) h2 h3
      rw [hl] at this
      rw [hw]; exact this
    · rw [hw]
      refine ⟨rfl, rfl, rfl, by simp [grow], fun b hb2 hne => ?_⟩
      have hbg : b ≠ g := fun e => hne (by rw [e]; rfl)
      show ((putRow (Value.int .i64) (Sort.ahead w k) g 0 _).heap ++ os)[b]? = _
      rw [Array.getElem?_append_left (by simp; exact hb2)]
      simp [putRow, mapBlock, Array.getElem?_modify, Ne.symm hbg]

theorem appendSeq_any (Bs : Nat) (p : Option Addr) (len cap : Nat) (zs : List Int) (hreach : len ≤ 1000000) (w : World) (hx : IntsIn w p len zs)
    (hBs : Bs < w.heap.size) (hc : w.cell? ⟨Bs, 0, none⟩ = some (.slice p len cap)) :
    Calls Try.prog 78 #[.slice none 0 0, .func (.func 64) #[] #[.pointer (some ⟨Bs, 0, none⟩)]] w fun e W' => ∃ q c', e = .returned (.slice q len c') ∧ Own 3 w.heap.size W' q len c' zs ∧ Below w.heap.size w W' := by
  refine ((callsIn_wide (n := 3)).1 (appendSeq_in _ 3 trivial trivial rfl (by omega) Bs p len cap zs hreach w hx hBs hc)).mono ?_
  rintro e W' ⟨v, rfl, hr, hB⟩
  have hl := hx.len
  rw [hl] at hr
  rcases hr.2 with ⟨hv, h0⟩ | ⟨g, cp, cur, hv, r⟩
  · subst hv
    subst h0
    exact ⟨none, 0, rfl, hr, hB⟩
  · subst hv
    exact ⟨some ⟨g, 0, none⟩, cp, rfl, hr, hB⟩
theorem collect_any (Bs : Nat) (p : Option Addr) (len cap : Nat) (zs : List Int) (hreach : len ≤ 1000000) (w : World) (hx : IntsIn w p len zs)
    (hBs : Bs < w.heap.size) (hc : w.cell? ⟨Bs, 0, none⟩ = some (.slice p len cap)) :
    Calls Try.prog 62 #[.func (.func 64) #[] #[.pointer (some ⟨Bs, 0, none⟩)]] w fun e W' => ∃ q c', e = .returned (.slice q len c') ∧ Own 3 w.heap.size W' q len c' zs ∧ Below w.heap.size w W' := by
  have HA := Lib.hid (appendSeq_any Bs p len cap zs hreach w hx hBs hc)
  clear hx hc
  go_enter Try.func62, Try.ntmps62
  go_wp2_with fail
  refine HA.out.mono ?_
  rintro e w1 ⟨q, c', rfl, hO, hB⟩
  replace hO := Lib.hid hO; replace hB := Lib.hid hB
  go_wp2_with fail
  go_ret
  exact ⟨q, c', rfl, hO.out, hB.out⟩
theorem sorted_any (Bs : Nat) (p : Option Addr) (len cap : Nat) (zs : List Int) (hreach : len ≤ 1000000) (w : World) (hx : IntsIn w p len zs)
    (hBs : Bs < w.heap.size) (hc : w.cell? ⟨Bs, 0, none⟩ = some (.slice p len cap)) :
    Calls Try.prog 45 #[.func (.func 64) #[] #[.pointer (some ⟨Bs, 0, none⟩)]] w fun e W' => ∃ q c', e = .returned (.slice q len c') ∧ Own 3 w.heap.size W' q len c' (srt zs) ∧ Below w.heap.size w W' := by
  have HA := Lib.hid (collect_any Bs p len cap zs hreach w hx hBs hc)
  clear hx hc
  go_enter Try.func45, Try.ntmps45
  go_wp2_with fail
  refine HA.out.mono ?_
  rintro e w1 ⟨q, c', rfl, hO, hB⟩
  have HS := Lib.hid (sort_own q len c' w.heap.size zs w1 hreach hO)
  have hqb : Hid (∀ x, q.map (·.block) = some x → w.heap.size ≤ x) := fun x e => by
    cases q with
    | none => cases e
    | some a => have := (hO.block a rfl).1; simp at e; omega
  replace hB := Lib.hid hB
  clear hO
  go_wp2_with fail
  refine HS.out.mono ?_
  rintro e w2 ⟨rfl, hO2, hg⟩
  have hB2 := Lib.hid (hB.out.grown hg hB.out.size hqb.out)
  replace hO2 := Lib.hid hO2
  clear hg HS
  go_wp2_with fail
  go_ret
  exact ⟨q, c', rfl, hO2.out, hB2.out⟩
theorem values_any (p : Option Addr) (len cap : Nat) (w : World) : Calls Try.prog 46 #[.slice p len cap] w fun e w' => e = .returned (.func (.func 64) #[] #[.pointer (some ⟨w.heap.size, 0, none⟩)]) ∧ w' = w.alloc (.cells #[.slice p len cap] 22) := by
  go_enter Try.func46, Try.ntmps46
  go_wp2_with fail
  go_ret
  exact ⟨rfl, rfl⟩
/-- the two calls, one behind the other. -/
theorem sortedV_any (p : Option Addr) (len cap : Nat) (zs : List Int) (hreach : len ≤ 1000000) (w : World) (hx : IntsIn w p len zs) :
    Calls Try.prog 45 #[.func (.func 64) #[] #[.pointer (some ⟨w.heap.size, 0, none⟩)]] (w.alloc (.cells #[.slice p len cap] 22)) fun e W' => ∃ q c', e = .returned (.slice q len c') ∧ Own 3 w.heap.size W' q len c' (srt zs) ∧ Below w.heap.size w W' := by
  have hB0 : Below w.heap.size w (w.alloc (.cells #[.slice p len cap] 22)) := (Below.refl _ w).alloc (Nat.le_refl _) _
  refine (sorted_any w.heap.size p len cap zs hreach _ (hx.alloc _) (by simp) (by have := heap_alloc_new w (.cells #[.slice p len cap] 22); exact wcell (cs := [_]) this 0)).mono ?_
  rintro e W' ⟨q, c', rfl, hO, hB⟩
  exact ⟨q, c', rfl, OwnC.mono (k := 1) hO (by simp), hB0.trans (hB.mono (by simp))⟩
end Go.Proofs.Ytkakggagaplaiaa
