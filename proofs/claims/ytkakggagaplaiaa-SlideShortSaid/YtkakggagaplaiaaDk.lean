/- What deck.sorted, slices.Delete (one thing), deck.Nth compute; conditions stand in each. -/
import Derived.Test.YtkakggagaplaiaaNthP
import Derived.Lib.SliceRun
import Derived.BigQuiet
import Derived.Deep.DeepCutAuto
import Derived.Deep.RegionHeld3
import Derived.Deep.Upon
namespace Go.Proofs.Ytkakggagaplaiaa
open Go.RowKit

theorem Nums.own {B g : Nat} {w : World} {xs : List Int} (h : Nums w g 3 xs) (hB : B ≤ g) (hl : xs.length ≤ 1000000) : Own 3 B w (some ⟨g, 0, none⟩) xs.length xs.length xs :=
  ⟨by simp, .inr ⟨g, xs.length, _, rfl, hB, h, Nat.le_refl _, by unfold maxLen; omega, by simp, by rw [Nat.mul_one]; exact List.take_of_length_le (by simp)⟩⟩
set_option maxHeartbeats 1000000 in
theorem iota_any (n : Nat) (w : World) (hn : n ≤ 1000) : Calls Try.prog 32 #[.int .i64 n] w fun e w' => ∃ g, e = .returned (.slice (some ⟨g, 0, none⟩) n n) ∧ Own 3 w.heap.size w' (some ⟨g, 0, none⟩) n n (asI (List.range n)) ∧ Below w.heap.size w w' := by
  go_enter Try.func32, Try.ntmps32
  go_wp2_with (refine wp_make intG w w.heap.size rfl rfl _ _ rfl .i64 .i64 n n n rfl rfl rfl rfl (by omega) ?_; intro w1 hN hB hg; replace hN := Lib.hid hN; replace hB := Lib.hid hB)
  go_loopg [9] n (fun gk iv W' => ∃ (j : Nat) (xs : List Int), j ≤ n ∧ gk = n - j ∧ iv = .int .i64 j ∧ Nums W' w.heap.size 3 xs ∧ xs.length = n ∧ (∀ i, i < j → xs[i]?.getD 0 = (i : Int)) ∧ Below w.heap.size w W')
  case atStart => exact ⟨0, _, by omega, by omega, rfl, hN.out, by simp, fun i h => absurd h (Nat.not_lt_zero i), hB.out⟩
  case round =>
    obtain ⟨j, xs, hj, hgk, rfl, hX, hl, hv, hB1⟩ := hrel
    obtain ⟨W1, rfl⟩ : ∃ W1 : World, W1 = wr := ⟨_, rfl⟩
    replace hgk := Lib.hid hgk
    clear hN hB
    by_cases hlt : j < n
    · have d0 := hX.cell (i := j) (by omega)
      have f0 := hX.free j
      have hX2 := Lib.hid (hX.set j (j : Int))
      have hB2 := Lib.hid (hB1.setCell (p := ⟨w.heap.size, j, none⟩) (Nat.le_refl _) (.int .i64 (j : Int)))
      have hv2 : Hid (∀ i, i < j + 1 → (xs.set j (j : Int))[i]?.getD 0 = (i : Int)) := fun i hi => by
        rw [List.getElem?_set]
        by_cases e : j = i
        · subst e; simp [hl, hlt]
        · rw [if_neg e]; exact hv i (by omega)
      clear hX hB1 hv
      replace hl := Lib.hid hl
      go_wp2_with fail
      have hgk := hgk.out
      go_roundg (n - (j + 1))
      case measure => omega
      case rel => exact ⟨j + 1, _, by omega, rfl, by go_num, hX2.out, by simp [hl.out], hv2.out, hB2.out⟩
    · obtain rfl : j = n := by omega
      have he : xs = asI (List.range j) := by
        apply List.ext_getElem
        · rw [asI_len]; simpa using hl
        · intro i h1 h2
          have := hv i (by omega)
          simp [h1] at this
          rw [this]; simp [asI]
      have hO := Lib.hid (hX.own (B := w.heap.size) (Nat.le_refl _) (by omega))
      rw [hl, he] at hO
      clear hX hv
      replace hB1 := Lib.hid hB1
      go_wp2_with fail
      go_ret
      exact ⟨_, rfl, hO.out, hB1.out⟩

/-- vs with us laid over it from o on. -/
def setL (vs : List Value) : Nat → List Value → List Value
  | _, [] => vs
  | o, u :: us => setL (vs.set o u) (o + 1) us
theorem setL_eq : ∀ (us : List Value) (o : Nat) (vs : List Value), vs.length = o + us.length → setL vs o us = vs.take o ++ us
  | [], o, vs, h => by simp [setL]; exact (List.take_of_length_le (by simp at h; omega)).symm
  | u :: us, o, vs, h => by
    simp only [List.length_cons] at h
    rw [setL, setL_eq us (o + 1) _ (by simp; omega), List.take_add_one, List.getElem?_set_self (by omega), List.take_set, List.set_eq_of_length_le (by simp; omega)]
    simp
theorem OwnC.setCells {E B g n c : Nat} : ∀ (us : List Value) (o : Nat) (w : World) (vs : List Value), OwnC E 1 B w (some ⟨g, 0, none⟩) n c vs → OwnC E 1 B (w.setCells g o us) (some ⟨g, 0, none⟩) n c (setL vs o us)
  | [], _, _, _, h => h
  | u :: us, o, w, vs, h => by rw [World.setCells, setL]; exact OwnC.setCells us (o + 1) _ _ (h.set o u)
theorem OwnC.less {E B g n c m : Nat} {w : World} {vs : List Value} (h : OwnC E 1 B w (some ⟨g, 0, none⟩) n c vs) (hm : m ≤ n) : OwnC E 1 B w (some ⟨g, 0, none⟩) m c (vs.take m) := by
  have hl := h.len
  refine ⟨by simp; omega, ?_⟩
  rcases h.2 with ⟨hv, _⟩ | ⟨g', cap, cur, hv, hb, hh, h1, h2, h3, h4⟩
  · cases hv
  · injection hv with e1 e2 e3
    subst e3
    refine .inr ⟨g', c, cur, by rw [e1], hb, hh, by omega, h2, h3, ?_⟩
    rw [← h4, List.take_take]
    congr 1
    omega
theorem OwnC.capMax {E B g n c : Nat} {w : World} {vs : List Value} (h : OwnC E 1 B w (some ⟨g, 0, none⟩) n c vs) : c ≤ 9223372036854775807 := by
  rcases h.2 with ⟨hv, _⟩ | ⟨g', cap, cur, hv, hb, hh, h1, h2, _⟩
  · cases hv
  · injection hv with _ _ e3; unfold maxLen at h2; omega
theorem del_own (B g n c i : Nat) (xs : List Int) (w : World) (hn : n ≤ 1000000) (hi : i < n) (hO : Own 3 B w (some ⟨g, 0, none⟩) n c xs) (i1 : Int) (hi1 : Hid (i1 = (i + 1 : Nat))) :
    Calls Try.prog 33 #[.slice (some ⟨g, 0, none⟩) n c, .int .i64 i, .int .i64 i1] w fun e w' => e = .returned (.slice (some ⟨g, 0, none⟩) (n - 1) c) ∧ Own 3 B w' (some ⟨g, 0, none⟩) (n - 1) c (xs.eraseIdx i) ∧ w.grownBy w' (some g) := by
  have hl := hO.len
  rw [hi1.out]
  refine (Sh.slices_Delete_int_cells g 0 n c i (i + 1) xs w (by omega) (OwnC.cap (k := 1) hO) (OwnC.capMax hO) (by omega) (by omega) (fun j hj => ?_) (fun j hj => OwnC.free (k := 1) hO _)).mono ?_
  · rw [Nat.zero_add, OwnC.cell (k := 1) hO (by omega)]
    simp [List.getD_eq_getElem?_getD, hj]
  · rintro e w' ⟨rfl, q, rfl⟩
    have e1 : xs.take n = xs := List.take_of_length_le (by omega)
    rw [e1]
    have hlen : (xs.take i ++ xs.drop (i + 1) ++ List.replicate (i + 1 - i) 0).length = n := by simp; omega
    refine ⟨by rw [show n - (i + 1 - i) = n - 1 by omega], ?_, ?_⟩
    · have h2 := OwnC.setCells ((xs.take i ++ xs.drop (i + 1) ++ List.replicate (i + 1 - i) 0).map (Value.int .i64)) 0 (w.drewN q) _ hO
      rw [setL_eq _ _ _ (by simp; omega)] at h2
      have h3 := OwnC.less h2 (m := n - 1) (by omega)
      have e2 : (List.take 0 (xs.map (Value.int .i64)) ++ (xs.take i ++ xs.drop (i + 1) ++ List.replicate (i + 1 - i) 0).map (Value.int .i64)).take (n - 1) = (xs.eraseIdx i).map (Value.int .i64) := by
        rw [List.take_zero, List.nil_append, ← List.map_take, List.eraseIdx_eq_take_drop_succ]
        congr 1
        rw [List.take_append_of_le_length (by simp; omega), List.take_of_length_le (by simp; omega)]
      rw [e2] at h3
      exact h3
    · have hsz : ∀ (vs : List Value) (o : Nat) (w : World), (w.setCells g o vs).heap.size = w.heap.size := fun vs => by
        induction vs with
        | nil => intro _ _; rfl
        | cons v r ih => intro o w; rw [World.setCells, ih]; simp [World.setCell]
      have hB : Below g w ((w.drewN q).setCells g 0 ((xs.take i ++ xs.drop (i + 1) ++ List.replicate (i + 1 - i) 0).map (Value.int .i64))) := (below_drewN (Below.refl g w) q).trans (by
        have : ∀ (vs : List Value) (o : Nat) (w : World), Below g w (w.setCells g o vs) := fun vs => by
          induction vs with
          | nil => intro _ w; exact Below.refl _ _
          | cons v r ih => intro o w; rw [World.setCells]; exact ((Below.refl g w).setCell (p := ⟨g, o, none⟩) (Nat.le_refl _) v).trans (ih _ _)
        exact this _ _ _)
      exact ⟨hB.os, hB.tape, hB.output, by rw [hsz]; exact Nat.le_refl _, fun k hk hne => World.heap_setCells_other (w.drewN q) g 0 _ hk (fun e => hne (by rw [e]))⟩
end Go.Proofs.Ytkakggagaplaiaa
