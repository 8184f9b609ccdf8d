/- What stones.vital computes; conditions: a board of at most 100 places, two parts of it as they lie. -/
import Derived.Test.YtefjliblaeadfaaCon
import Derived.Test.YtefjliblaeadfaaBBn
namespace Go.Proofs.Ytefjliblaeadfaa
open Go.RowKit

theorem any_take_succ {l : List Nat} {f : Nat → Bool} {j : Nat} (h : j < l.length) : (l.take (j + 1)).any f = ((l.take j).any f || f (st l j)) := by
  have e : l[j] = st l j := by unfold st; rw [List.getElem?_eq_getElem h]; rfl
  rw [List.take_succ_eq_append_getElem h, List.any_append, e]; simp
set_option maxHeartbeats 4000000 in
theorem vital_any (a b n c : Nat) (q : Option Addr) (s : List Nat) (br bg : Nat) (r g : Pt) (B U B' U' : Nat) (x x' : Option Nat) (o o' : Bool) (w : World) (hn : n ≤ 100) (hx : IntsIn w q n (asI s)) (hr : PtB B U w x br r o) (hg : PtB B' U' w x' bg g o') (hrl : r.1.length ≤ 1000) (hgl : g.2.length ≤ 1000) (hrn : ∀ p ∈ r.1, p < n) :
    Calls Try.prog 27 #[.agg #[.int .i64 (a : Int), .int .i64 (b : Int), .slice q n c], .pointer (some ⟨br, 0, none⟩), .pointer (some ⟨bg, 0, none⟩)] w fun e w' => e = .returned (.bool (vitalS s r g)) ∧ Below w.heap.size w w' := by
  obtain ⟨q1, c1, _, _, _, _, _, hb1, hi1, _, _, _⟩ := hr
  obtain ⟨_, _, q2, c2, _, _, _, hb2, _, hi2, _, _⟩ := hg
  obtain ⟨W0, hW0⟩ : ∃ W0, W0 = w.alloc (.cells #[.int .i64 (a : Int), .int .i64 (b : Int), .slice q n c] 24) := ⟨_, rfl⟩
  have hB0 : Below w.heap.size w W0 := by rw [hW0]; exact (Below.refl _ _).alloc (Nat.le_refl _) _
  have e0 : W0.heap[w.heap.size]? = some (.cells #[.int .i64 (a : Int), .int .i64 (b : Int), .slice q n c] 24 (0, 0)) := by rw [hW0]; exact heap_alloc_new w _
  have x2 : W0.cell? ⟨w.heap.size, 2, none⟩ = some (.slice q n c) := wcell (cs := [_, _, _]) e0 2
  have r0 : W0.cell? ⟨br, 0, none⟩ = some (.slice q1 r.1.length c1) := wcell (cs := [_, _, _]) ((hB0.block _ (lt_of_heap hb1)).trans hb1) 0
  have g1 : W0.cell? ⟨bg, 1, none⟩ = some (.slice q2 g.2.length c2) := wcell (cs := [_, _, _]) ((hB0.block _ (lt_of_heap hb2)).trans hb2) 1
  have hx0 := Lib.hid (hx.below hB0)
  have hi10 := Lib.hid (hi1.below hB0)
  have HC : Hid (∀ v : Nat, Calls Try.prog 29 #[.slice q2 g.2.length c2, .int .i64 (v : Int)] W0 fun e w' => e = .returned (.bool (g.2.contains v)) ∧ W0 = w') := fun v => has_any q2 c2 g.2 v W0 hgl (hi2.below hB0)
  have hrn' := Lib.hid hrn
  replace hB0 := Lib.hid hB0
  clear hx hb1 hb2 hi1 hi2 e0 hrn
  subst hW0
  go_enter Try.func27, Try.ntmps27
  go_wp2_with fail
  go_loopg [7, 15] r.1.length (fun gk sv iv W' => ∃ j : Nat, j ≤ r.1.length ∧ gk = r.1.length - j ∧ iv = .int .i64 j ∧ sv = .bool ((r.1.take j).any fun p => st s p == 0) ∧ (∀ i, i < j → st s (st r.1 i) = 0 → g.2.contains (st r.1 i) = true) ∧ w.alloc (.cells #[.int .i64 (a : Int), .int .i64 (b : Int), .slice q n c] 24) = W')
  case atStart => exact ⟨0, Nat.zero_le _, rfl, rfl, rfl, fun i hi => absurd hi (by omega), rfl⟩
  case round =>
    obtain ⟨j, hj, hgk, rfl, rfl, hno, rfl⟩ := hrel
    replace hgk := Lib.hid hgk; replace hno := Lib.hid hno
    by_cases hlt : j < r.1.length
    · obtain ⟨b1, o1, rfl, _, hc1⟩ := hi10.out.at (by omega)
      have e1 := hc1 j hlt
      rw [asI_get] at e1
      have hmem := Lib.hid (st_mem hlt)
      have hpn := hrn'.out _ (st_mem hlt)
      have hts : Hid ((r.1.take (j + 1)).any (fun p => st s p == 0) = ((r.1.take j).any (fun p => st s p == 0) || (st s (st r.1 j) == 0))) := any_take_succ hlt
      obtain ⟨p, hp⟩ : ∃ p, p = st r.1 j := ⟨_, rfl⟩
      rw [← hp] at e1 hmem hpn hts
      have hp' := Lib.hid hp
      clear hp hc1
      obtain ⟨bq, oq, rfl, _, hcq⟩ := hx0.out.at (by omega)
      have dk := hcq p hpn
      rw [asI_at] at dk
      clear hcq
      generalize (r.1.take j).any (fun p => st s p == 0) = sm at *
      by_cases h0 : st s p = 0
      · have HC1 := Lib.hid (HC.out p)
        rw [h0] at dk
        have hts2 : Hid ((r.1.take (j + 1)).any (fun p => st s p == 0) = true) := by show _ = _; rw [hts.out, h0]; simp
        obtain ⟨z, hz⟩ : ∃ z, g.2.contains p = z := ⟨_, rfl⟩
        rw [hz] at HC1
        replace hz := Lib.hid hz
        replace h0 := Lib.hid h0
        go_wp2_with fail
        refine HC1.out.mono ?_
        rintro e w' ⟨rfl, rfl⟩
        cases z with
        | true =>
          go_wp2_with fail
          have hgk := hgk.out
          go_roundg (r.1.length - (j + 1))
          case measure => omega
          case rel => exact ⟨j + 1, hlt, rfl, by go_num, by rw [hts2.out], fun i hi hz0 => by
            by_cases e : i = j
            · rw [e, ← hp'.out]; exact hz.out
            · exact hno.out i (by omega) hz0, rfl⟩
        | false =>
          have hv : Hid (vitalS s r g = false) := by
            show _ = _
            cases h : vitalS s r g
            · rfl
            · have := (vital_iff.1 h).2 p hmem.out h0.out
              have h2 := hz.out
              simp at h2
              exact absurd this h2
          go_wp2_with fail
          go_ret
          exact ⟨ret_bool hv.out.symm, hB0.out⟩
      · have hi0 : ¬ ((st s p : Nat) : Int) = 0 := by omega
        have hts2 : Hid ((r.1.take (j + 1)).any (fun p => st s p == 0) = sm) := by show _ = _; rw [hts.out]; simp [h0]
        replace h0 := Lib.hid h0
        go_wp2_with fail
        have hgk := hgk.out
        go_roundg (r.1.length - (j + 1))
        case measure => omega
        case rel => exact ⟨j + 1, hlt, rfl, by go_num, by rw [hts2.out], fun i hi hz0 => by
          by_cases e : i = j
          · rw [e, ← hp'.out] at hz0; exact absurd hz0 h0.out
          · exact hno.out i (by omega) hz0, rfl⟩
    · have hje : j = r.1.length := by omega
      subst hje
      rw [List.take_length]
      have hv : Hid (r.1.any (fun p => st s p == 0) = vitalS s r g) := by
        show _ = _
        rw [Bool.eq_iff_iff, vital_iff, List.any_eq_true]
        constructor
        · rintro ⟨p, hp, h⟩
          refine ⟨⟨p, hp, by simpa using h⟩, fun p hp h0 => ?_⟩
          obtain ⟨i, hi, e⟩ := mem_st hp
          have := hno.out i hi (by rw [e]; exact h0)
          rw [e] at this; simpa using this
        · rintro ⟨⟨p, hp, h⟩, _⟩; exact ⟨p, hp, by simpa using h⟩
      generalize r.1.any (fun p => st s p == 0) = sm at *
      have hjj : ¬ (r.1.length : Int) < (r.1.length : Int) := by omega
      go_wp2_with fail
      go_ret
      exact ⟨ret_bool hv.out, hB0.out⟩
end Go.Proofs.Ytefjliblaeadfaa
