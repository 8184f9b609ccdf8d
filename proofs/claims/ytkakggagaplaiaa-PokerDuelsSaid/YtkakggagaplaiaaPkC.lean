/- What slices.Grow makes of no slice at all, and slices.Concat of some slices; conditions: from one to a thousand elements. -/
import Derived.Test.YtkakggagaplaiaaPkL
import Derived.Lib.AppendZerosOnto
namespace Go.Proofs.Ytkakggagaplaiaa
open Go.RowKit

set_option maxRecDepth 100000 in
set_option maxHeartbeats 2000000 in
theorem growP_any (n : Nat) (h1 : 1 ≤ n) (h2 : n ≤ 1000) (w : World) : Calls Try.prog 58 #[.slice none 0 0, .int .i64 n] w fun e w' => ∃ q c, e = .returned (.slice q 0 c) ∧ Own 3 w.heap.size w' q 0 c [] ∧ Below w.heap.size w w' := by
  obtain ⟨i0, hi, hz0, hz1, hz2⟩ := info_parts intG.info
  have hfit : Builtin.nextslicecap (0 + n) 0 * i0.bytes ≤ 281474976710656 := by
    rw [hz2]; exact growslice_fits (show 0 < 0 + n by omega) (by omega)
  have hfit2 : Builtin.nextslicecap n 0 * 8 ≤ 281474976710656 := by rw [hz2, Nat.zero_add] at hfit; exact hfit
  have hge := grownCap_ge w n 0 3
  have hcm : grownCap w n 0 3 ≤ maxLen := grownCap_le_maxLen w n 0 3 (by unfold maxLen; omega)
  have hb := (Below.refl w.heap.size w).alloc (Nat.le_refl _) (Obj.cells (Builtin.zeroCells #[.int .i64 0] n ++ Builtin.zeroCells #[.int .i64 0] (grownCap w n 0 3 - n)) 3)
  replace hge := Lib.hid hge; replace hcm := Lib.hid hcm; replace hb := Lib.hid hb
  clear hfit hi hz0 hz1 hz2
  have h3 : (n : Int) > 0 := by omega
  have h0 : ¬ ((n : Int) < 0) := by omega
  have ht3 : Try.t3.bytes = 8 := rfl
  have hn8 : ¬ (281474976710656 < (n : Int) * (Try.t3.bytes : Int)) := by rw [ht3]; omega
  have hc8 : ¬ (281474976710656 < Builtin.nextslicecap n 0 * Try.t3.bytes) := by rw [ht3]; omega
  go_enter Try.func58, Try.ntmps58
  go_wp2_with fail
  all_goals first | (exfalso; omega) | skip
  all_goals
    go_ret
    refine ⟨_, _, rfl, ⟨rfl, .inr ⟨w.heap.size, grownCap w n 0 3, _, rfl, Nat.le_refl _, heap_alloc_new w _, Nat.zero_le _, hcm.out, ?_, ?_⟩⟩, ⟨hb.out.os, hb.out.tape, hb.out.output, hb.out.size, hb.out.block⟩⟩
    · have := hge.out
      rw [Array.size_append, size_zeroCells, size_zeroCells]
      show n * 1 + (grownCap w n 0 3 - n) * 1 = grownCap w n 0 3 * 1
      omega
    · rfl
/-- the first j lists, one behind the other. -/
def catP (L : Nat → List Nat) : Nat → List Nat
  | 0 => []
  | j + 1 => catP L j ++ L j
theorem catP_le (L : Nat → List Nat) {j m : Nat} (h : j ≤ m) : (catP L j).length ≤ (catP L m).length := by
  induction m with
  | zero => obtain rfl : j = 0 := by omega
            exact Nat.le_refl _
  | succ m ih =>
    rcases Nat.lt_or_ge j (m + 1) with h1 | h1
    · rw [catP, List.length_append]; have := ih (by omega); omega
    · obtain rfl : j = m + 1 := by omega
      exact Nat.le_refl _
/-- some slices as they lie in a row. -/
structure HR (m : Nat) (w : World) (g o : Nat) (pb po ln pc : Nat → Nat) (L : Nat → List Nat) : Prop where
  row : ∀ i, i < m → g < w.heap.size ∧ w.cell? ⟨g, o + i, none⟩ = some (.slice (some ⟨pb i, po i, none⟩) (ln i) (pc i))
  ints : ∀ i, i < m → IntsIn w (some ⟨pb i, po i, none⟩) (ln i) (asI (L i))
theorem HR.below {m : Nat} {w w' : World} {g o : Nat} {pb po ln pc : Nat → Nat} {L : Nat → List Nat} (h : HR m w g o pb po ln pc L) (hb : Below w.heap.size w w') : HR m w' g o pb po ln pc L :=
  ⟨fun i hi => ⟨Nat.lt_of_lt_of_le (h.row i hi).1 hb.size, (hb.cell (p := ⟨g, o + i, none⟩) (h.row i hi).1).trans (h.row i hi).2⟩, fun i hi => (h.ints i hi).below hb⟩
theorem HR.len {m : Nat} {w : World} {g o : Nat} {pb po ln pc : Nat → Nat} {L : Nat → List Nat} (h : HR m w g o pb po ln pc L) : ∀ i, i < m → (L i).length = ln i := fun i hi => by have := (h.ints i hi).len; rwa [asI_len] at this
set_option maxHeartbeats 4000000 in
theorem concatP_any (m g o c : Nat) (pb po ln pc : Nat → Nat) (L : Nat → List Nat) (w : World) (hm : m ≤ 8) (h1 : 1 ≤ (catP L m).length) (h2 : (catP L m).length ≤ 1000) (hH : HR m w g o pb po ln pc L) :
    Calls Try.prog 34 #[.slice (some ⟨g, o, none⟩) m c] w fun e w' => ∃ q c', e = .returned (.slice q (catP L m).length c') ∧ Own 3 w.heap.size w' q (catP L m).length c' (asI (catP L m)) ∧ Below w.heap.size w w' := by
  have HG := Lib.hid (growP_any (catP L m).length h1 h2 w)
  have hL := hH.len
  have hsl : Hid (∀ j, j < m → (catP L (j + 1)).length = (catP L j).length + ln j) := fun j hj => by rw [catP, List.length_append, hL j hj]
  have hle : Hid (∀ j, j ≤ m → (catP L j).length ≤ (catP L m).length) := fun j hj => catP_le L hj
  replace hH := Lib.hid hH
  clear hL
  obtain ⟨T, hT⟩ : ∃ T, T = (catP L m).length := ⟨_, rfl⟩
  rw [← hT] at h1 h2 HG hle ⊢
  replace hT := Lib.hid hT
  have hz : (catP L 0).length = 0 := rfl
  go_enter Try.func34, Try.ntmps34
  go_wp2_with fail
  go_loopg [3, 11] m (fun gk sv iv W' => ∃ j S : Nat, j ≤ m ∧ gk = m - j ∧ iv = .int .i64 j ∧ sv = .int .i64 (S : Nat) ∧ Hid (S = (catP L j).length) ∧ w = W')
  case atStart => exact ⟨0, 0, by omega, by omega, rfl, rfl, rfl, rfl⟩
  case round =>
    obtain ⟨j, S, hj, hgk, rfl, rfl, hS, rfl⟩ := hrel
    replace hgk := Lib.hid hgk
    by_cases hlt : j < m
    · have c0 := (hH.out.row j hlt).2
      have hS2 : Hid (S + ln j = (catP L (j + 1)).length) := by show _ = _; rw [hsl.out j hlt, hS.out]
      have hb2 := hle.out (j + 1) hlt
      rw [← hS2.out] at hb2
      generalize ln j = n at *
      have d1 : decide ((S : Int) + (n : Int) < 0) = false := decide_eq_false (by omega)
      have d2 : ¬ ((S : Int) + (n : Int) < 0) := by omega
      go_wp2_with fail
      have hgk := hgk.out
      go_roundg (m - (j + 1))
      case measure => omega
      case rel => exact ⟨j + 1, S + n, by omega, rfl, by go_num, by go_num, hS2.out, rfl⟩
    · obtain rfl : j = m := by omega
      obtain rfl : S = T := by rw [hS.out, hT.out]
      go_wp2_with fail
      refine HG.out.mono ?_
      rintro e w1 ⟨q, c1, rfl, hO, hB⟩
      replace hO := Lib.hid hO; replace hB := Lib.hid hB
      clear HG
      go_wp2_with fail
      go_loopg [6, 27] j (fun gk sv iv W' => ∃ (i S : Nat) (q : Option Addr) (c1 : Nat), i ≤ j ∧ gk = j - i ∧ iv = .int .i64 i ∧ sv = .slice q S c1 ∧ Hid (S = (catP L i).length) ∧ Hid (Own 3 w.heap.size W' q S c1 (asI (catP L i))) ∧ Hid (Below w.heap.size w W'))
      case atStart => exact ⟨0, 0, q, c1, by omega, by omega, rfl, rfl, rfl, by simpa [catP, asI] using hO, hB⟩
      case round =>
        clear hO hB
        obtain ⟨i, S2, q, c1, hi, hgk, rfl, rfl, hS2, hO, hB⟩ := hrel
        obtain ⟨W1, rfl⟩ : ∃ W1 : World, W1 = wr := ⟨_, rfl⟩
        replace hgk := Lib.hid hgk
        by_cases hlt : i < j
        · have hH1 := hH.out.below hB.out
          have c0 := (hH1.row i hlt).2
          have hin := Lib.hid (hH1.ints i hlt)
          have hqb := Lib.hid hO.out.rowb
          have hsz := Lib.hid hB.out.size
          have hS3 : Hid (S2 + ln i = (catP L (i + 1)).length) := by show _ = _; rw [hsl.out i hlt, hS2.out]
          have hb3 := hle.out (i + 1) hlt
          rw [← hS3.out] at hb3
          have hcat : Hid (asI (catP L (i + 1)) = asI (catP L i) ++ asI (L i)) := by show _ = _; rw [catP, asI_app]
          go_wp2_with (at_builtin; refine wp_appendL intG _ rfl _ _ rfl w.heap.size q S2 c1 (asI (catP L i)) rfl hO.out ⟨pb i, po i, none⟩ (ln i) (pc i) (asI (L i)) rfl hin.out (by omega) hsz.out ?_; intro p' c' w2 hO2 hg2 _ hz2; replace hO2 := Lib.hid hO2; replace hg2 := Lib.hid hg2)
          have hgk := hgk.out
          go_roundg (j - (i + 1))
          case measure => omega
          case rel => exact ⟨i + 1, S2 + ln i, p', c', by omega, rfl, by go_num, rfl, hS3, by rw [hcat.out]; exact hO2, hB.out.grown hg2.out hsz.out hqb.out⟩
        · obtain rfl : i = j := by omega
          have e : S2 = S := by rw [hS2.out, hT.out]
          subst e
          go_wp2_with fail
          go_ret
          exact ⟨q, c1, rfl, hO.out, hB.out⟩
end Go.Proofs.Ytkakggagaplaiaa
