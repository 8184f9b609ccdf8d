/- What newPicture makes; conditions: one to six rows and columns, clues of at most twenty numbers, each one to twenty. -/
import Derived.Test.YtkklcfaghnfleaaNSo
import Derived.Test.YtkklcfaghnfleaaRep
namespace Go.Proofs.Ytkklcfaghnfleaa
open Go.RowKit

set_option maxRecDepth 100000 in
set_option maxHeartbeats 2000000 in
theorem grow2_any (n : Nat) (h1 : 1 ≤ n) (h2 : n ≤ 1000) (w : World) : Calls Try.prog 38 #[.slice none 0 0, .int .i64 n] w fun e w' => ∃ q c, e = .returned (.slice q 0 c) ∧ OwnC 22 1 w.heap.size w' q 0 c [] ∧ Below w.heap.size w w' := by
  obtain ⟨i0, hi, hz0, hz1, hz2⟩ := info_parts elS.info
  have hfit : Builtin.nextslicecap (0 + n) 0 * i0.bytes ≤ 281474976710656 := by
    rw [hz2]; exact growslice_fits (show 0 < 0 + n by omega) (by omega)
  have hfit2 : Builtin.nextslicecap n 0 * 24 ≤ 281474976710656 := by rw [hz2, Nat.zero_add] at hfit; exact hfit
  have hge := grownCap_ge w n 0 22
  have hcm : grownCap w n 0 22 ≤ maxLen := grownCap_le_maxLen w n 0 22 (by unfold maxLen; omega)
  have hb := (Below.refl w.heap.size w).alloc (Nat.le_refl _) (Obj.cells (Builtin.zeroCells #[.slice none 0 0] n ++ Builtin.zeroCells #[.slice none 0 0] (grownCap w n 0 22 - n)) 22)
  replace hge := Lib.hid hge; replace hcm := Lib.hid hcm; replace hb := Lib.hid hb
  clear hfit hi hz0 hz1 hz2
  have h3 : (n : Int) > 0 := by omega
  have h0 : ¬ ((n : Int) < 0) := by omega
  have ht3 : Try.t22.bytes = 24 := rfl
  have hn8 : ¬ (281474976710656 < (n : Int) * (Try.t22.bytes : Int)) := by rw [ht3]; omega
  have hc8 : ¬ (281474976710656 < Builtin.nextslicecap n 0 * Try.t22.bytes) := by rw [ht3]; omega
  go_enter Try.func38, Try.ntmps38
  go_wp2_with fail
  all_goals first | (exfalso; omega) | skip
  all_goals
    go_ret
    refine ⟨_, _, rfl, ⟨rfl, .inr ⟨w.heap.size, grownCap w n 0 22, _, rfl, Nat.le_refl _, heap_alloc_new w _, Nat.zero_le _, hcm.out, ?_, ?_⟩⟩, ⟨hb.out.os, hb.out.tape, hb.out.output, hb.out.size, hb.out.block⟩⟩
    · have := hge.out
      rw [Array.size_append, size_zeroCells, size_zeroCells]
      show n * 1 + (grownCap w n 0 22 - n) * 1 = grownCap w n 0 22 * 1
      omega
    · rfl
/-- a value that is a clue. -/
def IsClue (W : World) (v : Value) : Prop := ∃ p k c l, v = .slice p k c ∧ k ≤ 20 ∧ IntsIn W p k (asI l) ∧ ∀ x ∈ l, 1 ≤ x ∧ x ≤ 20
theorem IsClue.below {W W' : World} {v : Value} (h : IsClue W v) (hb : Below W.heap.size W W') : IsClue W' v := by
  obtain ⟨p, k, c, l, h1, h2, h3, h4⟩ := h
  exact ⟨p, k, c, l, h1, h2, h3.below hb, h4⟩
theorem Clu.vals {B : Nat} {W : World} {b o : Nat} {R : Nat → List Nat} : ∀ {n : Nat}, Clu B W (some ⟨b, o, none⟩) n R → (∀ y, y < n → ∀ k ∈ R y, 1 ≤ k ∧ k ≤ 20) →
    ∃ vs : List Value, vs.length = n ∧ (∀ (j : Nat) (u : Value), vs[j]? = some u → W.cell? ⟨b, o + j, none⟩ = some u) ∧ (∀ u ∈ vs, u.oneCell' = true) ∧ ∀ u ∈ vs, IsClue W u
  | 0, _, _ => ⟨[], rfl, (fun j u h => by simp at h), (fun u h => by cases h), (fun u h => by cases h)⟩
  | n + 1, h, hR => by
    obtain ⟨vs, h1, h2, h3, h4⟩ := Clu.vals (n := n) (fun y hy => h y (by omega)) (fun y hy => hR y (by omega))
    obtain ⟨b', o', p, k, c, e, _, hc, hk, hx, _⟩ := h n (by omega)
    cases e
    refine ⟨vs ++ [.slice p k c], by simp [h1], fun j u hj => ?_, fun u hu => ?_, fun u hu => ?_⟩
    · rcases Nat.lt_or_ge j vs.length with hl | hl
      · rw [List.getElem?_append_left hl] at hj; exact h2 j u hj
      · rw [List.getElem?_append_right hl] at hj
        have : j - vs.length = 0 := by
          have := (List.getElem?_eq_some_iff.1 hj).1
          simp at this; omega
        rw [this] at hj
        simp at hj
        obtain rfl : j = n := by omega
        rw [← hj]; exact hc
    · rcases List.mem_append.1 hu with hu | hu
      · exact h3 u hu
      · rw [List.mem_singleton] at hu; rw [hu]; rfl
    · rcases List.mem_append.1 hu with hu | hu
      · exact h4 u hu
      · rw [List.mem_singleton] at hu
        exact ⟨p, k, c, R n, hu, hk, hx, hR n (by omega)⟩
set_option maxHeartbeats 4000000 in
theorem concat2_any {B : Nat} {w : World} {b0 rb ro rc n qb qo cc m : Nat} {R C : Nat → List Nat} (hcr : Clu B w (some ⟨rb, ro, none⟩) n R) (hcc : Clu B w (some ⟨qb, qo, none⟩) m C) (hn : 1 ≤ n ∧ n ≤ 20) (hm : 1 ≤ m ∧ m ≤ 20) (hBw : B ≤ w.heap.size)
    (hR : ∀ y, y < n → ∀ k ∈ R y, 1 ≤ k ∧ k ≤ 20) (hC : ∀ x, x < m → ∀ k ∈ C x, 1 ≤ k ∧ k ≤ 20) (h0 : w.cell? ⟨b0, 0, none⟩ = some (.slice (some ⟨rb, ro, none⟩) n rc)) (h1 : w.cell? ⟨b0, 1, none⟩ = some (.slice (some ⟨qb, qo, none⟩) m cc)) :
    Calls Try.prog 30 #[.slice (some ⟨b0, 0, none⟩) 2 2] w fun e w' => ∃ (g c' : Nat) (vs : List Value), e = .returned (.slice (some ⟨g, 0, none⟩) (n + m) c') ∧ OwnC 22 1 w.heap.size w' (some ⟨g, 0, none⟩) (n + m) c' vs ∧ Below w.heap.size w w' ∧ ∀ u ∈ vs, IsClue w u := by
  obtain ⟨vs, v1, v2, v3, v4⟩ := hcr.vals hR
  obtain ⟨us, u1, u2, u3, u4⟩ := hcc.vals hC
  have hbl := World.block_lt_of_cell? w ⟨b0, 0, none⟩ h0
  have hrb : rb < w.heap.size := by obtain ⟨b, o, p, k, c, e, h, _⟩ := hcr 0 (by omega); cases e; omega
  have hqb : qb < w.heap.size := by obtain ⟨b, o, p, k, c, e, h, _⟩ := hcc 0 (by omega); cases e; omega
  obtain ⟨hn1, hn2⟩ := hn
  obtain ⟨hm1, hm2⟩ := hm
  have HG := Lib.hid (grow2_any (n + m) (by omega) (by omega) w)
  have hfin : Hid (∀ u ∈ vs ++ us, IsClue w u) := fun u hu => by
    rcases List.mem_append.1 hu with hu | hu
    · exact v4 u hu
    · exact u4 u hu
  have v2 := Lib.hid v2; have v3 := Lib.hid v3; have u2 := Lib.hid u2; have u3 := Lib.hid u3
  clear hcr hcc hR hC v4 u4 hBw
  go_enter Try.func30, Try.ntmps30
  go_wp2_with fail
  refine wp_loop_rounds 3 ?_
  rw [rounds_succ]
  go_wp2_with fail
  rw [rounds_succ]
  go_wp2_with fail
  rw [rounds_succ]
  go_wp2_with fail
  refine HG.out.mono ?_
  rintro e w1 ⟨q, c1, rfl, hO, hB⟩
  have k0 : w1.cell? ⟨b0, 0, none⟩ = some (.slice (some ⟨rb, ro, none⟩) n rc) := (hB.cell (p := ⟨b0, 0, none⟩) hbl).trans h0
  have hz1 := hB.size
  have hc1 : Hid (∀ j u, vs[j]? = some u → w1.cell? ((⟨rb, ro, none⟩ : Addr).add j) = some u) := fun j u hj => by rw [Addr.add_lit]; exact (hB.cell (p := ⟨rb, ro + j, none⟩) hrb).trans (v2.out j u hj)
  have hqo : Hid (∀ a, q = some a → w.heap.size ≤ a.block) := fun a ha => (hO.block a ha).1
  replace hO := Lib.hid hO; replace hB := Lib.hid hB
  clear HG
  go_wp2_with fail
  refine wp_loop_rounds 3 ?_
  rw [rounds_succ]
  go_wp2_with (at_builtin; refine wp_appendLV elS _ rfl _ _ rfl w.heap.size q 0 c1 [] rfl hO.out ⟨rb, ro, none⟩ n rc vs (by rw [v1]; omega) (List.all_eq_true.2 v3.out) hc1.out rfl (by omega) hz1 ?_; intro p' c' w2 hO2 hg2 hor2 hz2)
  rw [List.nil_append, Nat.zero_add] at hO2
  have hB2 := Lib.hid (hB.out.grown hg2 hz1 (fun x hx => by
    cases q with
    | none => cases hx
    | some y => simp at hx; subst hx; exact hqo.out y rfl))
  have k1 : w2.cell? ⟨b0, 1, none⟩ = some (.slice (some ⟨qb, qo, none⟩) m cc) := (hB2.out.cell (p := ⟨b0, 1, none⟩) hbl).trans h1
  have hc2 : Hid (∀ j u, us[j]? = some u → w2.cell? ((⟨qb, qo, none⟩ : Addr).add j) = some u) := fun j u hj => by rw [Addr.add_lit]; exact (hB2.out.cell (p := ⟨qb, qo + j, none⟩) hqb).trans (u2.out j u hj)
  have hz3 : w.heap.size ≤ w2.heap.size := Nat.le_trans hz1 hz2
  obtain ⟨g2, rfl, hgw2, _⟩ := hO2.where (by omega)
  replace hO2 := Lib.hid hO2
  clear hO hB hc1 hg2 hor2 hqo k0 h0
  go_wp2_with fail
  rw [rounds_succ]
  go_wp2_with (at_builtin; refine wp_appendLV elS _ rfl _ _ rfl w.heap.size (some ⟨g2, 0, none⟩) n c' vs rfl hO2.out ⟨qb, qo, none⟩ m cc us (by rw [u1]; omega) (List.all_eq_true.2 u3.out) hc2.out rfl (by omega) hz3 ?_; intro p3 c3 w3 hO3 hg3 hor3 hz4)
  have hB3 := Lib.hid (hB2.out.grown hg3 hz3 (fun x hx => by
    simp at hx; subst hx; exact hgw2))
  obtain ⟨g3, rfl, _⟩ := hO3.where (by omega)
  replace hO3 := Lib.hid hO3
  clear hO2 hB2 hc2 hg3 hor3 k1 h1
  go_wp2_with fail
  rw [rounds_succ]
  go_wp2_with fail
  go_ret
  exact ⟨g3, c3, vs ++ us, by simp, hO3.out, hB3.out, hfin.out⟩
end Go.Proofs.Ytkklcfaghnfleaa
