/- What crib.check and crib.show compute of five or six unlike cards; conditions stand in each. -/
import Derived.Test.YtkakggagaplaiaaCrJ
import Derived.Test.YtkakggagaplaiaaCf
namespace Go.Proofs.Ytkakggagaplaiaa
open Go.RowKit

theorem srt_strict {l : List Nat} (hn : l.Nodup) : (srt (asI l)).Pairwise (· < ·) := by
  have h1 := List.pairwise_mergeSort (le := fun x y : Int => decide (x ≤ y)) (fun a b c h1 h2 => by simp at *; omega) (fun a b => by simp; omega) (asI l)
  have h2 : (srt (asI l)).Nodup := ((srt_perm (asI l)).nodup_iff).2 (by
    unfold asI
    exact List.Pairwise.map _ (fun a b hab e => hab (by omega)) hn)
  exact (List.Pairwise.and h1 h2).imp fun h => by
    have := h.1
    have h3 := h.2
    simp at this
    omega
theorem compact_srt {l : List Nat} (hn : l.Nodup) : Lib.compact (srt (asI l)) = srt (asI l) := by
  refine Lib.compact_all _ fun j hj => ?_
  unfold Lib.keeps
  rcases Nat.eq_zero_or_pos j with h0 | h0
  · simp [h0]
  · have h1 := List.pairwise_iff_getElem.1 (srt_strict hn) (j - 1) j (by omega) hj (by omega)
    simp [hj, show j - 1 < (srt (asI l)).length by omega]
    omega
theorem strange_any (x : Int) (w : World) (h0 : 0 ≤ x) (h1 : x < 52) : Calls Try.prog 71 #[.int .i64 x] w fun e w' => e = .returned (.bool false) ∧ w = w' := by
  have g1 : decide (x < 0) = false := decide_eq_false (by omega)
  have g2 : decide (52 ≤ x) = false := decide_eq_false (by omega)
  go_enter Try.func71, Try.ntmps71
  go_wp2_with fail
  go_ret
  exact ⟨rfl, rfl⟩
theorem compact_own (B n c : Nat) (p : Option Addr) (xs : List Int) (w : World) (hn : n ≤ 1000) (hO : Own 3 B w p n c xs) (hc : Lib.compact xs = xs) :
    Calls Try.prog 68 #[.slice p n c] w fun e w' => e = .returned (.slice p n c) ∧ w.grownBy w' (p.map (·.block)) := by
  have hl := hO.len
  rcases Nat.eq_zero_or_pos n with h0 | h0
  · subst h0
    refine (Sh.slices_Compact_int_empty p c w).mono fun e w' ⟨h1, h2⟩ => ⟨h1, ?_⟩
    rw [h2]; exact ⟨rfl, rfl, rfl, Nat.le_refl _, fun _ _ _ => rfl⟩
  · obtain ⟨g, rfl, _, _, hnc⟩ := OwnC.where (k := 1) hO h0
    refine (Sh.slices_Compact_int_cells g 0 n c xs w (by omega) (by omega) hnc (fun j hj => ?_) (fun j hj => OwnC.free (k := 1) hO _)).mono ?_
    · rw [Nat.zero_add, OwnC.cell (k := 1) hO (by omega)]
      simp [List.getD_eq_getElem?_getD, hj]
    · rintro e w' ⟨rfl, q, rfl⟩
      rw [List.take_of_length_le (by omega), hc, hl]
      refine ⟨rfl, ?_⟩
      have hsz : ∀ (vs : List Value) (o : Nat) (w : World), (w.setCells g o vs).heap.size = w.heap.size := fun vs => by
        induction vs with
        | nil => intro _ _; rfl
        | cons v r ih => intro o w; rw [World.setCells, ih]; simp [World.setCell]
      have hB : ∀ (vs : List Value) (o : Nat) (w : World), Below g w (w.setCells g o vs) := fun vs => by
        induction vs with
        | nil => intro _ w; exact Below.refl _ _
        | cons v r ih => intro o w; rw [World.setCells]; exact ((Below.refl g w).setCell (p := ⟨g, o, none⟩) (Nat.le_refl _) v).trans (ih _ _)
      have hb := (below_drewN (Below.refl g w) q).trans (hB ((xs ++ List.replicate (n - n) 0).map (Value.int .i64)) 0 (w.drewN q))
      exact ⟨hb.os, hb.tape, hb.output, by rw [hsz]; exact Nat.le_refl _, fun k hk hne => World.heap_setCells_other (w.drewN q) g 0 _ hk (fun e => hne (by rw [e]; rfl))⟩
set_option maxHeartbeats 2000000 in
theorem check_any (p : Option Addr) (n c : Nat) (l : List Nat) (w : World) (hn : n ≤ 100) (hx : IntsIn w p n (asI l)) (hl : ∀ x ∈ l, x < 52) (hd : l.Nodup) :
    Calls Try.prog 51 #[.slice p n c] w fun e w' => e = .returned (.int .i64 0) ∧ Below w.heap.size w w' := by
  have hll : l.length = n := by have := hx.len; rwa [asI_len] at this
  have HF := Lib.hid (contains_none p n c (asI l) w (by omega) hx fun j hj W => by
    rw [asI_at]
    exact strange_any _ W (by omega) (by have := hl _ (st_mem (l := l) (i := j) (by omega)); omega))
  have HV := Lib.hid (values_any p n c w)
  have HS := Lib.hid (sortedV_any p n c (asI l) (by omega) w hx)
  have hcs := compact_srt hd
  clear hx
  go_enter Try.func51, Try.ntmps51
  go_wp2_with fail
  refine HF.out.mono ?_
  rintro e w' ⟨rfl, rfl⟩
  go_wp2_with fail
  refine HV.out.mono ?_
  rintro e w' ⟨rfl, rfl⟩
  go_wp2_with fail
  refine HS.out.mono ?_
  rintro e w1 ⟨q, c1, rfl, hO, hB⟩
  have HC := Lib.hid (compact_own w.heap.size n c1 q _ w1 (by omega) hO hcs)
  have hqb := Lib.hid hO.rowb
  replace hB := Lib.hid hB
  clear hO hcs HS HV HF
  go_wp2_with fail
  refine HC.out.mono ?_
  rintro e w2 ⟨rfl, hg⟩
  have hB2 := Lib.hid (hB.out.grown hg hB.out.size hqb.out)
  clear hg HC
  go_wp2_with fail
  go_ret
  exact ⟨rfl, hB2.out⟩
/-- a bound on what a run brings. -/
theorem rk_bd {f : Nat → Nat} (h5 : ∀ q, f q ≤ 5) (p : Nat) : ∀ n k w, (rk f p n k w).1 ≤ k + n ∧ (rk f p n k w).2 ≤ w * 5 ^ n
  | 0, k, w => by simp [rk]
  | n + 1, k, w => by
    rw [rk]
    split
    · obtain ⟨h1, h2⟩ := rk_bd h5 p n (k + 1) (w * f (p + k))
      refine ⟨by omega, Nat.le_trans h2 ?_⟩
      rw [Nat.pow_succ, Nat.mul_assoc, Nat.mul_comm (5 ^ n) 5]
      exact Nat.mul_le_mul_left w (Nat.mul_le_mul_right _ (h5 _))
    · exact ⟨by simp, Nat.le_mul_of_pos_right w (Nat.pow_pos (by omega))⟩
theorem rn_bd {f : Nat → Nat} (h5 : ∀ q, f q ≤ 5) : ∀ p, (rnS f p).2 ≤ 15 * 5 ^ 15
  | 0 => by simp [rnS]
  | p + 1 => by
    have ih := rn_bd h5 p
    obtain ⟨h1, h2⟩ := rk_bd h5 (p + 1) 15 0 1
    rw [rnS, stepR]
    split
    · exact Nat.mul_le_mul (by omega) (by omega)
    · exact ih
theorem mny_le {l : List Nat} (h : l.length = 5) (q : Nat) : mny l q ≤ 5 := by rw [← h]; exact List.countP_le_length
/-- the first rules' points together. -/
def ad (v0 v1 v2 v3 v4 : Nat) : Nat → Nat
  | 0 => 0
  | 1 => v0
  | 2 => v0 + v1
  | 3 => v0 + v1 + v2
  | 4 => v0 + v1 + v2 + v3
  | _ => v0 + v1 + v2 + v3 + v4
theorem rules_any (w : World) : Calls Try.prog 72 #[] w fun e w' => e = .returned (.slice (some ⟨w.heap.size, 0, none⟩) 5 5) ∧ w' = w.alloc (.cells #[.func (.func 84) #[] #[], .func (.func 85) #[] #[], .func (.func 86) #[] #[], .func (.func 87) #[] #[], .func (.func 88) #[] #[]] 115) := by
  go_enter Try.func72, Try.ntmps72
  go_wp2
  go_ret
  exact ⟨rfl, rfl⟩
set_option maxRecDepth 20000 in
set_option maxHeartbeats 4000000 in
theorem show_any (p : Option Addr) (c : Nat) (cr : Bool) (l : List Nat) (w : World) (hc : 5 ≤ c) (hx : IntsIn w p 5 (asI l)) (hl : ∀ i, i < 5 → st l i < 52) :
    Calls Try.prog 52 #[.slice p 5 c, .bool cr] w fun e w' => e = .returned (.int .i64 (show5 l cr : Nat)) ∧ Below w.heap.size w w' := by
  have hll : l.length = 5 := by have := hx.len; rwa [asI_len] at this
  have b0 : 2 * cS l 5 15 32 ≤ 64 := by have := cS_le l 5 15 32; omega
  have b1 : 2 * pS l 5 ≤ 50 := by have := pS_le l 5; omega
  have b2 : (rnS (mny l) 14).2 ≤ 15 * 5 ^ 15 := rn_bd (mny_le hll) 14
  have b3 : flS l cr ≤ 5 := by unfold flS; (repeat' split) <;> omega
  have b4 : jkS l ≤ 1 := by unfold jkS; split <;> omega
  have H0 : Hid (∀ W, Below w.heap.size w W → Calls Try.prog 84 #[.slice p 5 c, .bool cr] W fun e w' => e = .returned (.int .i64 (2 * cS l 5 15 32 : Nat)) ∧ Below W.heap.size W w') := fun W h => (fifteens_any p c cr l W (hx.below h) hl).mono fun e w' ⟨h1, r, h2⟩ => ⟨h1, by rw [h2]; exact below_drewN (Below.refl _ _) r⟩
  have H1 : Hid (∀ W, Below w.heap.size w W → Calls Try.prog 85 #[.slice p 5 c, .bool cr] W fun e w' => e = .returned (.int .i64 (2 * pS l 5 : Nat)) ∧ Below W.heap.size W w') := fun W h => (pairs_any p c cr l W (hx.below h) hl).mono fun e w' ⟨h1, r, h2⟩ => ⟨h1, by rw [h2]; exact below_drewN (Below.refl _ _) r⟩
  have H2 : Hid (∀ W, Below w.heap.size w W → Calls Try.prog 86 #[.slice p 5 c, .bool cr] W fun e w' => e = .returned (.int .i64 ((rnS (mny l) 14).2 : Nat)) ∧ Below W.heap.size W w') := fun W h => runs_any p c cr l W (hx.below h) hl
  have H3 : Hid (∀ W, Below w.heap.size w W → Calls Try.prog 87 #[.slice p 5 c, .bool cr] W fun e w' => e = .returned (.int .i64 (flS l cr : Nat)) ∧ Below W.heap.size W w') := fun W h => (flush_any p c cr l W hc (hx.below h) hl).mono fun e w' ⟨h1, h2⟩ => ⟨h1, by rw [← h2]; exact Below.refl _ _⟩
  have H4 : Hid (∀ W, Below w.heap.size w W → Calls Try.prog 88 #[.slice p 5 c, .bool cr] W fun e w' => e = .returned (.int .i64 (jkS l : Nat)) ∧ Below W.heap.size W w') := fun W h => jack_any p c cr l W hc (hx.below h) hl
  obtain ⟨R, hR⟩ : ∃ R, R = show5 l cr := ⟨_, rfl⟩
  rw [← hR]
  unfold show5 at hR
  clear hx hl
  generalize 2 * cS l 5 15 32 = v0 at *
  generalize 2 * pS l 5 = v1 at *
  generalize (rnS (mny l) 14).2 = v2 at *
  generalize flS l cr = v3 at *
  generalize jkS l = v4 at *
  replace hR := Lib.hid hR
  have b2' : v2 ≤ 457763671875 := by omega
  clear b2
  have HR := Lib.hid (rules_any w)
  go_enter Try.func52, Try.ntmps52
  go_wp2_with fail
  refine HR.out.mono ?_
  rintro e w' ⟨rfl, rfl⟩
  have hf := Lib.hid (heap_alloc_new w (.cells #[.func (.func 84) #[] #[], .func (.func 85) #[] #[], .func (.func 86) #[] #[], .func (.func 87) #[] #[], .func (.func 88) #[] #[]] 115))
  have hB := Lib.hid ((Below.refl w.heap.size w).alloc (Nat.le_refl _) (.cells #[.func (.func 84) #[] #[], .func (.func 85) #[] #[], .func (.func 86) #[] #[], .func (.func 87) #[] #[], .func (.func 88) #[] #[]] 115))
  have hsz : Hid (w.heap.size < (w.alloc (.cells #[.func (.func 84) #[] #[], .func (.func 85) #[] #[], .func (.func 86) #[] #[], .func (.func 87) #[] #[], .func (.func 88) #[] #[]] 115)).heap.size) := by show _ < _; simp
  generalize w.alloc (.cells #[.func (.func 84) #[] #[], .func (.func 85) #[] #[], .func (.func 86) #[] #[], .func (.func 87) #[] #[], .func (.func 88) #[] #[]] 115) = W0 at *
  clear HR
  go_wp2_with fail
  go_loopg [5, 10] 5 (fun gk nv iv W' => ∃ j A : Nat, j ≤ 5 ∧ gk = 5 - j ∧ iv = .int .i64 j ∧ nv = .int .i64 A ∧ Hid (A = ad v0 v1 v2 v3 v4 j) ∧ Below W0.heap.size W0 W')
  case atStart => exact ⟨0, 0, by omega, by omega, rfl, rfl, Lib.hid rfl, Below.refl _ _⟩
  case round =>
    obtain ⟨j, A, hj, hgk, rfl, rfl, hA, hB1⟩ := hrel
    obtain ⟨W1, rfl⟩ : ∃ W1 : World, W1 = wr := ⟨_, rfl⟩
    replace hgk := Lib.hid hgk
    have hf1 := (Below.block hB1 _ hsz.out).trans hf.out
    have hBw := hB.out.trans (hB1.mono (Nat.le_of_lt hsz.out))
    rcases (show j = 0 ∨ j = 1 ∨ j = 2 ∨ j = 3 ∨ j = 4 ∨ j = 5 by omega) with rfl | rfl | rfl | rfl | rfl | rfl
    · have c0 : W1.cell? ⟨w.heap.size, 0, none⟩ = some (.func (.func 84) #[] #[]) := wcell (cs := [_, _, _, _, _]) hf1 0
      have hA2 : A = 0 := hA.out
      subst hA2
      have HC := Lib.hid (H0.out W1 hBw)
      replace hB1 := Lib.hid hB1
      clear hf1 hBw
      go_wp2_with fail
      refine HC.out.mono ?_
      rintro e w2 ⟨rfl, hB2⟩
      have hB3 := Lib.hid (hB1.out.trans (hB2.mono hB1.out.size))
      clear hB2 hB1 HC c0
      go_wp2_with fail
      have hgk := hgk.out
      go_roundg 4
      case measure => omega
      case rel => exact ⟨1, v0, by omega, rfl, by go_num, by go_num, Lib.hid rfl, hB3.out⟩
    · have c0 : W1.cell? ⟨w.heap.size, 1, none⟩ = some (.func (.func 85) #[] #[]) := wcell (cs := [_, _, _, _, _]) hf1 1
      have hA2 : A = v0 := hA.out
      subst hA2
      have HC := Lib.hid (H1.out W1 hBw)
      replace hB1 := Lib.hid hB1
      clear hf1 hBw
      go_wp2_with fail
      refine HC.out.mono ?_
      rintro e w2 ⟨rfl, hB2⟩
      have hB3 := Lib.hid (hB1.out.trans (hB2.mono hB1.out.size))
      clear hB2 hB1 HC c0
      go_wp2_with fail
      have hgk := hgk.out
      go_roundg 3
      case measure => omega
      case rel => exact ⟨2, A + v1, by omega, rfl, by go_num, by go_num, Lib.hid rfl, hB3.out⟩
    · have c0 : W1.cell? ⟨w.heap.size, 2, none⟩ = some (.func (.func 86) #[] #[]) := wcell (cs := [_, _, _, _, _]) hf1 2
      have hAb : A ≤ 114 := by rw [hA.out]; show v0 + v1 ≤ 114; omega
      have HC := Lib.hid (H2.out W1 hBw)
      replace hB1 := Lib.hid hB1
      clear hf1 hBw
      go_wp2_with fail
      refine HC.out.mono ?_
      rintro e w2 ⟨rfl, hB2⟩
      have hB3 := Lib.hid (hB1.out.trans (hB2.mono hB1.out.size))
      clear hB2 hB1 HC c0
      go_wp2_with fail
      have hgk := hgk.out
      go_roundg 2
      case measure => omega
      case rel => exact ⟨3, A + v2, by omega, rfl, by go_num, by go_num, by show A + v2 = v0 + v1 + v2; rw [hA.out]; rfl, hB3.out⟩
    · have c0 : W1.cell? ⟨w.heap.size, 3, none⟩ = some (.func (.func 87) #[] #[]) := wcell (cs := [_, _, _, _, _]) hf1 3
      have hAb : A ≤ 457763671989 := by rw [hA.out]; show v0 + v1 + v2 ≤ _; omega
      have HC := Lib.hid (H3.out W1 hBw)
      replace hB1 := Lib.hid hB1
      clear hf1 hBw
      go_wp2_with fail
      refine HC.out.mono ?_
      rintro e w2 ⟨rfl, hB2⟩
      have hB3 := Lib.hid (hB1.out.trans (hB2.mono hB1.out.size))
      clear hB2 hB1 HC c0
      go_wp2_with fail
      have hgk := hgk.out
      go_roundg 1
      case measure => omega
      case rel => exact ⟨4, A + v3, by omega, rfl, by go_num, by go_num, by show A + v3 = v0 + v1 + v2 + v3; rw [hA.out]; rfl, hB3.out⟩
    · have c0 : W1.cell? ⟨w.heap.size, 4, none⟩ = some (.func (.func 88) #[] #[]) := wcell (cs := [_, _, _, _, _]) hf1 4
      have hAb : A ≤ 457763671999 := by rw [hA.out]; show v0 + v1 + v2 + v3 ≤ _; omega
      have HC := Lib.hid (H4.out W1 hBw)
      replace hB1 := Lib.hid hB1
      clear hf1 hBw
      go_wp2_with fail
      refine HC.out.mono ?_
      rintro e w2 ⟨rfl, hB2⟩
      have hB3 := Lib.hid (hB1.out.trans (hB2.mono hB1.out.size))
      clear hB2 hB1 HC c0
      go_wp2_with fail
      have hgk := hgk.out
      go_roundg 0
      case measure => omega
      case rel => exact ⟨5, A + v4, by omega, rfl, by go_num, by go_num, by show A + v4 = v0 + v1 + v2 + v3 + v4; rw [hA.out]; rfl, hB3.out⟩
    · have hRA : Hid (R = A) := by show _ = _; rw [hR.out, hA.out]; rfl
      replace hBw := Lib.hid hBw
      clear hf1 hB1
      go_wp2_with fail
      go_ret
      rw [hRA.out]
      exact ⟨rfl, hBw.out⟩
end Go.Proofs.Ytkakggagaplaiaa
