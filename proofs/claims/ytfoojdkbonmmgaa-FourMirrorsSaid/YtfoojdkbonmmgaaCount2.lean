/- What the closure of four.Count tells with two drops to come on an empty board; conditions: the board's struct, cells and the captured variables are known. -/
import Derived.Test.YtfoojdkbonmmgaaCount
namespace Go.Proofs.Ytfoojdkbonmmgaa
open Go.RowKit

def zs (n : Nat) : List Int := List.replicate n 0
theorem zs_at (n j : Nat) : (zs n)[j]?.getD 0 = 0 := by unfold zs; by_cases h : j < n <;> simp [h]
theorem zs_len (n : Nat) : (zs n).length = n := by simp [zs]
theorem zs_fall (n W c H : Nat) (hH : 1 ≤ H) : fallS (zs n) W c H = (((H - 1) * W + c : Nat) : Int) := by
  obtain ⟨m, rfl⟩ : ∃ m, H = m + 1 := ⟨H - 1, by omega⟩
  rw [fallS, if_pos (zs_at _ _)]; rfl
def twos (wide h k : Nat) : Nat → Nat
  | 0 => 0
  | c + 1 => twos wide h k c + if k ≤ 1 then 0 else opens ((zs (wide * h)).set ((h - 1) * wide + c) 1) wide h wide
theorem twos_le (wide h k c : Nat) : twos wide h k c ≤ c * wide := by
  induction c with
  | zero => simp [twos]
  | succ c ih =>
    simp only [twos, Nat.add_mul, Nat.one_mul]
    have := opens_le ((zs (wide * h)).set ((h - 1) * wide + c) 1) wide h wide
    split <;> omega

set_option maxHeartbeats 2000000 in
theorem count2 (kb wb cb wl g wide h k n : Nat) (w : World) (h1 : 1 ≤ wide) (h2 : wide ≤ 10) (h4 : h ≤ 10) (h6 : k ≤ 10) (hn : Hid (n = wide * h)) (h3 : 1 ≤ h)
    (hS : Hid (St w kb wb cb wl g wide h k n)) (hN : Hid (Nums w g 3 (zs n))) :
    Calls Try.prog 12 #[.int .i64 1, .int .i64 2, .pointer (some ⟨kb, 0, none⟩), .pointer (some ⟨wb, 0, none⟩), .pointer (some ⟨cb, 0, none⟩)] w fun e w' =>
      e = .returned (.int .i64 (twos wide h k wide)) ∧ Nums w' g 3 (zs n) ∧ w.grownBy w' (some g) := by
  have hl : Hid ((zs n).length = n) := zs_len n
  have ck := cell_of_one hS.out.1
  have hn100 : n ≤ 100 := by rw [hn.out]; exact Nat.mul_le_mul h2 h4
  go_enter Try.func12, Try.ntmps12
  go_wp2
  clear ck
  go_loopg [8, 14] wide (fun kk nn i W => ∃ c : Nat, c ≤ wide ∧ kk = wide - c ∧ i = .int .i64 c ∧ nn = .int .i64 (twos wide h k c) ∧ Nums W g 3 (zs n) ∧ w.grownBy W (some g))
  case atStart => exact ⟨0, by omega, by omega, rfl, rfl, hN.out, World.grownBy.refl _ _⟩
  case round =>
    obtain ⟨c, hc, hgk, rfl, rfl, hNc, hgc⟩ := hrel
    replace hgk := Lib.hid hgk
    have hSc := hS.out.grown hgc
    have hop : twos wide h k c ≤ 100 := Nat.le_trans (twos_le wide h k c) (Nat.le_trans (Nat.mul_le_mul hc h2) (by omega))
    by_cases hlt : c < wide
    · have cw := cell_of_one hSc.2.1
      have F := Lib.hid (fall_any wl g wide h k n c (zs n) wr h1 h2 h4 hlt hn hl 0 hSc.2.2.2.1 hNc)
      replace hSc := Lib.hid hSc; replace hNc := Lib.hid hNc; replace hgc := Lib.hid hgc
      rcases fall_cases (zs n) wide c h with hf | ⟨y, hy, hf, hz⟩
      · exact absurd hf (by rw [zs_fall _ _ _ _ h3]; omega)
      · have hyh : (h - 1) * wide + c = y * wide + c := by rw [zs_fall _ _ _ _ h3] at hf; omega
        have hop1 : Hid (twos wide h k (c + 1) = twos wide h k c + if k ≤ 1 then 0 else opens ((zs n).set (y * wide + c) 1) wide h wide) := by show _ = _; rw [twos, hyh, ← hn.out]
        clear hyh
        rw [hf] at F
        have hat : y * wide + c < n := by
          rw [hn.out, Nat.mul_comm wide h]
          calc y * wide + c < y * wide + wide := by omega
            _ = (y + 1) * wide := by rw [Nat.add_mul, Nat.one_mul]
            _ ≤ h * wide := Nat.mul_le_mul_right _ hy
        obtain ⟨a, ha⟩ : ∃ a, a = y * wide + c := ⟨_, rfl⟩
        rw [← ha] at F hat hz hop1
        have ca := hNc.out.cell (i := a) (by rw [hl.out]; exact hat)
        have fa := hNc.out.free a
        obtain ⟨c0, c1, c2, c3⟩ := wcells hSc.out.2.2.2.1
        have gset := grown_set (World.grownBy.refl wr (some g)) a (.int .i64 1)
        have hS1 := hSc.out.grown gset
        have hN1 := hNc.out.set a 1
        have WN := Lib.hid (won_any wl g wide h k a c y n ((zs n).set a 1) _ h1 h2 h4 hlt hy (Lib.hid ha) hn (by show _ = _; rw [List.length_set]; exact hl.out) h6 0 hS1.2.2.2.1 hN1 1 (by show _ = _; simp [hl.out, hat]) (by
          intro j hj hja
          rw [List.getElem?_set_ne (by omega), zs_at]; omega))
        have cw1 := cell_of_one hS1.2.1
        replace ha := Lib.hid ha; replace gset := Lib.hid gset; replace hS1 := Lib.hid hS1; replace hN1 := Lib.hid hN1; replace hz := Lib.hid hz
        clear hf
        go_wp2_with fail
        refine F.out.mono ?_
        rintro e w' ⟨rfl, rfl⟩
        go_wp2_with fail
        refine WN.out.mono ?_
        rintro e W2 ⟨rfl, hB2⟩
        have hS2 := hS1.out.grown (grown_below hB2 _)
        have hN2 := hN1.out.below hB2 hN1.out.lt
        have cw2 := cell_of_one hS2.2.1
        have cc2 := cell_of_one hS2.2.2.1
        obtain ⟨c0', c1', c2', c3'⟩ := wcells hS2.2.2.2.1
        have hg2 := Lib.hid (grown_below hB2 (some g))
        have ca2 := hN2.cell (i := a) (by rw [List.length_set, hl.out]; exact hat)
        have fa2 := hN2.free a
        replace hS2 := Lib.hid hS2; replace hN2 := Lib.hid hN2
        clear hB2 ca fa
        by_cases hk1 : k ≤ 1
        · have hd : decide (k ≤ 1) = true := by simpa using hk1
          go_wp2_with fail
          have hgk := hgk.out
          go_roundg (wide - (c + 1))
          case measure => omega
          case rel =>
            refine ⟨c + 1, by omega, rfl, by go_num, by rw [hop1.out, if_pos hk1]; go_num, ?_, grown_trans hgc.out (grown_set (grown_trans gset.out hg2.out) a _)⟩
            have hh := hN2.out.set a 0
            rwa [List.set_set, set_same (by rw [hl.out]; exact hat) hz.out] at hh
        · have hd : decide (k ≤ 1) = false := by simpa using hk1
          have hol := opens_le ((zs n).set a 1) wide h wide
          have C1 := Lib.hid (count1 kb wb cb wl g wide h k n ((zs n).set a 1) W2 2 h1 h2 h4 h6 hn (by show _ = _; rw [List.length_set]; exact hl.out) hS2 hN2 (by omega) (by omega) (by
            intro j hj
            by_cases hja : a = j
            · subst hja; simp [hl.out, hat]
            · rw [List.getElem?_set_ne hja, zs_at]; omega))
          clear hd
          have hd : decide (k ≤ 1) = false := by simpa using hk1
          go_wp2_with fail
          refine C1.out.mono ?_
          rintro e W3 ⟨rfl, hN3, hg3⟩
          have hS3 := hS2.out.grown hg3
          have cw3 := cell_of_one hS3.2.1
          obtain ⟨d0', d1', d2', d3'⟩ := wcells hS3.2.2.2.1
          have ca3 := hN3.cell (i := a) (by rw [List.length_set, hl.out]; exact hat)
          have fa3 := hN3.free a
          replace hg3 := Lib.hid hg3; replace hN3 := Lib.hid hN3; replace hS3 := Lib.hid hS3
          go_wp2_with fail
          have hgk := hgk.out
          go_roundg (wide - (c + 1))
          case measure => omega
          case rel =>
            refine ⟨c + 1, by omega, rfl, by go_num, by rw [hop1.out, if_neg hk1]; go_num, ?_, grown_trans hgc.out (grown_set (grown_trans (grown_trans gset.out hg2.out) hg3.out) a _)⟩
            have hh := hN3.out.set a 0
            rwa [List.set_set, set_same (by rw [hl.out]; exact hat) hz.out] at hh
    · replace hSc := Lib.hid hSc; replace hNc := Lib.hid hNc; replace hgc := Lib.hid hgc
      have hcw : c = wide := by omega
      subst hcw
      go_wp2
      go_ret
      exact ⟨rfl, hNc.out, hgc.out⟩
end Go.Proofs.Ytfoojdkbonmmgaa
