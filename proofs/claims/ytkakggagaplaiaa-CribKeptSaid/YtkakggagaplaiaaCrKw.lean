/- The walk of gameroomkeep.CribKept; conditions: the numbers fit their kind. -/
import Derived.Test.YtkakggagaplaiaaCrKl
namespace Go.Proofs.Ytkakggagaplaiaa
open Go.RowKit

set_option maxRecDepth 100000 in
set_option maxHeartbeats 16000000 in
theorem kept_any (p : Option Addr) (nr c0 : Nat) (zs : List Int) (za zb : Int) (w : World) (hr : nr ≤ 9223372036854775807) (hx : IntsIn w p nr zs) (hz : ∀ j, j < nr → -9223372036854775808 ≤ zs[j]?.getD 0 ∧ zs[j]?.getD 0 ≤ 9223372036854775807)
    (ha : -9223372036854775808 ≤ za ∧ za ≤ 9223372036854775807) (hb : -9223372036854775808 ≤ zb ∧ zb ≤ 9223372036854775807) :
    Calls Try.prog 9 #[.slice p nr c0, .int .i64 za, .int .i64 zb] w fun e w' => e = .returned (.bool true) ∧ Below w.heap.size w w' := by
  have HH := Lib.hid (hand_any p nr c0 6 zs w (by omega) hr hx hz)
  have PA := Lib.hid (fun W => picked_any za 6 W ha.1 ha.2 (by omega) (by omega) 6 rfl)
  have PB := Lib.hid (fun W => picked_any zb 5 W hb.1 hb.2 (by omega) (by omega) 5 rfl)
  have lx := pick_lt za 6 (by omega)
  have ly0 := pick_lt zb 5 (by omega)
  clear hx hz ha hb
  generalize pick za 6 = x at *
  generalize pick zb 5 = y0 at *
  go_enter Try.func9, Try.ntmps9
  go_wp2_with fail
  refine HH.out.mono ?_
  rintro e w1 ⟨q, co, h, rfl, hO, hl, hd, h52, hB1⟩
  have hx1 := hO.in
  have HK := Lib.hid (keep_any q co h w1 hx1 h52 hd)
  replace hx1 := Lib.hid hx1; replace hB1 := Lib.hid hB1
  clear HH hO
  go_wp2_with fail
  refine HK.out.mono ?_
  rintro e w2 ⟨a, b, c, d, qf, cf, k1, k2, k3, k4, rfl, hf2, hbest, hB2⟩
  have hx2 := hx1.out.below hB2
  have hBa := Lib.hid (hB1.out.trans (hB2.mono hB1.out.size))
  clear HK hx1 hB1 hB2
  obtain ⟨y, hy⟩ : ∃ y, y = if x ≤ y0 then y0 + 1 else y0 := ⟨_, rfl⟩
  have hy6 : y < 6 := by rw [hy]; split <;> omega
  have hxy : x ≠ y := by rw [hy]; split <;> omega
  obtain ⟨a', b', c', d', hrst, g1, g2, g3, g4⟩ := rst_at lx hy6 hxy
  have hle := hbest a' b' c' d' g1 g2 g3 g4
  have hother : Hid ((rst x y 6).map (st h) = cb h a' b' c' d') := by show _ = _; rw [hrst]; rfl
  obtain ⟨bb, oo, rfl, hbb, hcc⟩ := hx2.at (by omega)
  have hcell : Hid (∀ j, j < 6 → w2.cell? ⟨bb, oo + j, none⟩ = some (.int .i64 (st h j : Nat))) := fun j hj => by rw [hcc j hj, asI_at]
  have hfour : Hid (∀ s, s < 52 → inB h s = false → (∀ x ∈ cb h a b c d ++ [s], x < 52) ∧ (cb h a b c d ++ [s]).Nodup) := fun s hs hn => cb_good hl hd h52 k1 k2 k3 k4 hs hn
  have hoth : Hid (∀ s, s < 52 → inB h s = false → (∀ x ∈ cb h a' b' c' d' ++ [s], x < 52) ∧ (cb h a' b' c' d' ++ [s]).Nodup) := fun s hs hn => cb_good hl hd h52 g1 g2 g3 g4 hs hn
  have hsm1 := Lib.hid (fun s => sm_le h (cb h a b c d) rfl s)
  have hsm2 := Lib.hid (fun s => sm_le h (cb h a' b' c' d') rfl s)
  have hst1 : Hid (∀ s, sm h (cb h a b c d) (s + 1) = sm h (cb h a b c d) s + if inB h s then 0 else show5 (cb h a b c d ++ [s]) false) := fun s => rfl
  have hst2 : Hid (∀ s, sm h (cb h a' b' c' d') (s + 1) = sm h (cb h a' b' c' d') s + if inB h s then 0 else show5 (cb h a' b' c' d' ++ [s]) false) := fun s => rfl
  have hs5 : Hid (∀ (X : List Nat) s, X.length = 4 → show5 (X ++ [s]) false ≤ 457763672000) := fun X s hX => show5_le (by simp [hX]) false
  have hf4 : Hid ((cb h a b c d).length = 4) := rfl
  have ho4 : Hid ((cb h a' b' c' d').length = 4) := rfl
  have hij := Lib.hid (ij_in (s := 0) hl)
  have hin : Hid (∀ s, ij h s 6 = inB h s) := fun s => ij_in hl s
  replace hx2 := Lib.hid hx2; replace hf2 := Lib.hid hf2
  clear hcc hbest hd h52 hrst hij g1 g2 g3 g4 k1 k2 k3 k4
  generalize cb h a b c d = F at *
  generalize cb h a' b' c' d' = G at *
  clear a b c d a' b' c' d'
  go_wp2_with fail
  refine (PA.out _).mono ?_
  rintro e w' ⟨rfl, rfl⟩
  go_wp2_with fail
  refine (PB.out _).mono ?_
  rintro e w' ⟨rfl, rfl⟩
  clear PA PB
  have hyI : x ≤ y0 → (y0 : Int) + 1 = (y : Int) := fun h => by rw [hy, if_pos h]; push_cast; rfl
  have hyI2 : ¬ x ≤ y0 → y0 = y := fun h => by rw [hy, if_neg h]
  replace hy := Lib.hid hy
  by_cases hc : x ≤ y0
  all_goals
    first
    | (have e1 := hyI hc
       have e1b : decide ((x : Int) ≤ (y0 : Int)) = true := decide_eq_true (by omega))
    | (have e1b : decide ((x : Int) ≤ (y0 : Int)) = false := decide_eq_false (by omega)
       obtain rfl : y = y0 := (hyI2 hc).symm)
    clear hyI hyI2
    go_wp2_with fail
    go_loopg [13, 14] 6 (fun gk tv iv W' => ∃ (i m c' : Nat) (q : Option Addr), i ≤ 6 ∧ gk = 6 - i ∧ iv = .int .i64 i ∧ tv = .slice q m c' ∧ Hid (m = (rst x y i).length) ∧ Own 3 w2.heap.size W' q m c' (asI ((rst x y i).map (st h))) ∧ Below w2.heap.size w2 W')
    case atStart => exact ⟨0, 0, 0, none, by omega, by omega, rfl, rfl, Lib.hid rfl, Own.nil _ _ _, Below.refl _ _⟩
    case round =>
      obtain ⟨i, m, c', q, hi, hgk, rfl, rfl, hm, hO, hB⟩ := hrel
      obtain ⟨W1, rfl⟩ : ∃ W1 : World, W1 = wr := ⟨_, rfl⟩
      replace hgk := Lib.hid hgk
      have hml : m ≤ 6 := by rw [hm.out]; exact Nat.le_trans (rst_le x y i) hi
      by_cases hlt : i < 6
      · have c0 : W1.cell? ⟨bb, oo + i, none⟩ = some (.int .i64 (st h i : Nat)) := (hB.cell (p := ⟨bb, oo + i, none⟩) hbb).trans (hcell.out i hlt)
        have hstp := Lib.hid (rst_succ x y i)
        have hBs := Lib.hid hB.size
        have hqb := Lib.hid hO.rowb
        replace hO := Lib.hid hO; replace hB := Lib.hid hB
        by_cases hix : i = x
        · have hs2 : Hid (rst x y (i + 1) = rst x y i) := by show _ = _; rw [hstp.out, if_neg (fun hh => hh.1 hix)]; simp
          have eX : ((i : Int) != (x : Int)) = false := by simp; omega
          clear hstp c0
          go_wp2_with fail
          have hgk := hgk.out
          go_roundg (6 - (i + 1))
          case measure => omega
          case rel => exact ⟨i + 1, m, c', q, by omega, rfl, by go_num, rfl, by rw [hs2.out]; exact hm, by rw [hs2.out]; exact hO.out, hB.out⟩
        · have eX : ((i : Int) != (x : Int)) = true := by simp; omega
          by_cases hiy : i = y
          · have hs2 : Hid (rst x y (i + 1) = rst x y i) := by show _ = _; rw [hstp.out, if_neg (fun hh => hh.2 hiy)]; simp
            have eY : ((i : Int) != (y : Int)) = false := by simp; omega
            clear hstp c0
            go_wp2_with fail
            have hgk := hgk.out
            go_roundg (6 - (i + 1))
            case measure => omega
            case rel => exact ⟨i + 1, m, c', q, by omega, rfl, by go_num, rfl, by rw [hs2.out]; exact hm, by rw [hs2.out]; exact hO.out, hB.out⟩
          · have hs2 : Hid (rst x y (i + 1) = rst x y i ++ [i]) := by show _ = _; rw [hstp.out, if_pos ⟨hix, hiy⟩]
            have eY : ((i : Int) != (y : Int)) = true := by simp; omega
            have hs3 : Hid (asI ((rst x y (i + 1)).map (st h)) = asI ((rst x y i).map (st h)) ++ [((st h i : Nat) : Int)]) := by show _ = _; rw [hs2.out]; simp [asI]
            generalize st h i = v at *
            clear hstp
            go_wp2_with (at_builtin; refine wp_append1 intG W1 rfl _ _ rfl w2.heap.size q m c' _ rfl hO.out (v : Int) rfl (by omega) hBs.out ?_; intro q2 c3 w7 hO7 hg7 _ hz7; replace hO7 := Lib.hid hO7; replace hg7 := Lib.hid hg7)
            have hO8 : Hid (Own 3 w2.heap.size w7 q2 (m + 1) c3 (asI ((rst x y (i + 1)).map (st h)))) := by rw [hs3.out]; exact hO7.out
            have hB8 := Lib.hid (hB.out.grown hg7.out hBs.out hqb.out)
            have hm8 : Hid (m + 1 = (rst x y (i + 1)).length) := by show _ = _; rw [hs2.out, List.length_append, ← hm.out]; rfl
            clear hO hO7 hg7 hB hs3 c0 hqb
            have hgk := hgk.out
            go_roundg (6 - (i + 1))
            case measure => omega
            case rel => exact ⟨i + 1, m + 1, c3, q2, by omega, rfl, by go_num, rfl, hm8, hO8.out, hB8.out⟩
      · obtain rfl : i = 6 := by omega
        have hxo := hO.in
        rw [hother.out] at hxo
        have hm4 : m = 4 := by have := hxo.len; rw [asI_len, ho4.out] at this; exact this.symm
        subst hm4
        replace hxo := Lib.hid hxo
        have hfo := Lib.hid (hf2.out.below hB)
        have hcel1 : Hid (∀ j, j < 6 → W1.cell? ⟨bb, oo + j, none⟩ = some (.int .i64 (st h j : Nat))) := fun j hj => (hB.cell (p := ⟨bb, oo + j, none⟩) hbb).trans (hcell.out j hj)
        have hbb1 : bb < W1.heap.size := Nat.lt_of_lt_of_le hbb hB.size
        have hBb := Lib.hid (hBa.out.trans (hB.mono hBa.out.size))
        clear hO hB
        go_wp2_with fail
        go_loopg [15, 16, 17] 52 (fun gk av tv sv W' => ∃ (s A T : Nat), s ≤ 52 ∧ gk = 52 - s ∧ sv = .int .i64 s ∧ av = .int .i64 A ∧ tv = .int .i64 T ∧ Hid (A = sm h F s) ∧ Hid (T = sm h G s) ∧ Below W1.heap.size W1 W')
        case atStart => exact ⟨0, 0, 0, by omega, by omega, rfl, rfl, rfl, Lib.hid rfl, Lib.hid rfl, Below.refl _ _⟩
        case round =>
          obtain ⟨s, A, T, hs, hgk2, rfl, rfl, rfl, hA, hT, hB2⟩ := hrel
          obtain ⟨W2, rfl⟩ : ∃ W2 : World, W2 = wr := ⟨_, rfl⟩
          replace hgk2 := Lib.hid hgk2
          have hAb : A ≤ 457763672000 * 52 := by have := hsm1.out s; rw [← hA.out] at this; omega
          have hTb : T ≤ 457763672000 * 52 := by have := hsm2.out s; rw [← hT.out] at this; omega
          by_cases hlt2 : s < 52
          · have hA1 : Hid (sm h F (s + 1) = A + if inB h s then 0 else show5 (F ++ [s]) false) := by show _ = _; rw [hst1.out, ← hA.out]
            have hT1 : Hid (sm h G (s + 1) = T + if inB h s then 0 else show5 (G ++ [s]) false) := by show _ = _; rw [hst2.out, ← hT.out]
            go_wp2_with fail
            go_loopg [18, 19] 6 (fun gk bv jv W' => ∃ (j : Nat) (b : Bool), j ≤ 6 ∧ gk = 6 - j ∧ jv = .int .i64 j ∧ bv = .bool b ∧ Hid (b = ij h s j) ∧ W2 = W')
            case atStart => exact ⟨0, false, by omega, by omega, rfl, rfl, Lib.hid rfl, rfl⟩
            case round =>
              obtain ⟨j, bo, hj, hgk3, rfl, rfl, hbo, rfl⟩ := hrel
              replace hgk3 := Lib.hid hgk3
              by_cases hlt3 : j < 6
              · have c0 : W2.cell? ⟨bb, oo + j, none⟩ = some (.int .i64 (st h j : Nat)) := (hB2.cell (p := ⟨bb, oo + j, none⟩) hbb1).trans (hcel1.out j hlt3)
                have hb1 : Hid (ij h s (j + 1) = (bo || decide (st h j = s))) := by show _ = _; rw [ij, ← hbo.out]
                generalize st h j = v at *
                replace hB2 := Lib.hid hB2
                cases bo with
                | true =>
                  have hb2 : Hid (true = ij h s (j + 1)) := by show _ = _; rw [hb1.out]; rfl
                  clear hb1
                  go_wp2_with fail
                  have hgk3 := hgk3.out
                  go_roundg (6 - (j + 1))
                  case measure => omega
                  case rel => exact ⟨j + 1, true, by omega, rfl, by go_num, rfl, hb2, rfl⟩
                | false =>
                  by_cases hvs : v = s
                  · have hb2 : Hid (true = ij h s (j + 1)) := by show _ = _; rw [hb1.out, hvs]; simp
                    have ev : ((v : Int) == (s : Int)) = true := by simp; omega
                    clear hb1
                    go_wp2_with fail
                    have hgk3 := hgk3.out
                    go_roundg (6 - (j + 1))
                    case measure => omega
                    case rel => exact ⟨j + 1, true, by omega, rfl, by go_num, rfl, hb2, rfl⟩
                  · have hb2 : Hid (false = ij h s (j + 1)) := by show _ = _; rw [hb1.out]; simp [hvs]
                    have ev : ((v : Int) == (s : Int)) = false := by simp; omega
                    clear hb1
                    go_wp2_with fail
                    have hgk3 := hgk3.out
                    go_roundg (6 - (j + 1))
                    case measure => omega
                    case rel => exact ⟨j + 1, false, by omega, rfl, by go_num, rfl, hb2, rfl⟩
              · obtain rfl : j = 6 := by omega
                have hbin : bo = inB h s := by rw [hbo.out, hin.out]
                cases bo with
                | true =>
                  rw [← hbin] at hA1 hT1
                  have hA2 : Hid (A = sm h F (s + 1)) := by show _ = _; rw [hA1.out]; rfl
                  have hT2 : Hid (T = sm h G (s + 1)) := by show _ = _; rw [hT1.out]; rfl
                  replace hB2 := Lib.hid hB2; replace hbin := Lib.hid hbin
                  clear hA1 hT1
                  go_wp2_with fail
                  have hgk2 := hgk2.out
                  go_roundg (52 - (s + 1))
                  case measure => omega
                  case rel => exact ⟨s + 1, A, T, by omega, rfl, by go_num, rfl, rfl, hA2, hT2, hB2.out⟩
                | false =>
                  obtain ⟨f1, f2⟩ := hfour.out s hlt2 hbin.symm
                  obtain ⟨o1, o2⟩ := hoth.out s hlt2 hbin.symm
                  rw [← hbin] at hA1 hT1
                  have HF := Lib.hid (Show_any qf cf s false F W2 (hfo.out.below hB2) f1 f2)
                  have HG : Hid (∀ W, Below W1.heap.size W1 W → Calls Try.prog 26 #[.slice q 4 c', .int .i64 (s : Nat), .bool false] W fun e w' => e = .returned (.tuple #[.int .i64 (show5 (G ++ [s]) false : Nat), .int .i64 0]) ∧ Below W.heap.size W w') := fun W hW => Show_any q c' s false G W (hxo.out.below hW) o1 o2
                  have v1 := hs5.out F s hf4.out
                  have v2 := hs5.out G s ho4.out
                  have hA2 : Hid (A + show5 (F ++ [s]) false = sm h F (s + 1)) := by show _ = _; rw [hA1.out]; rfl
                  have hT2 : Hid (T + show5 (G ++ [s]) false = sm h G (s + 1)) := by show _ = _; rw [hT1.out]; rfl
                  generalize show5 (F ++ [s]) false = VF at *
                  generalize show5 (G ++ [s]) false = VG at *
                  replace hB2 := Lib.hid hB2; replace hbin := Lib.hid hbin
                  clear hA1 hT1 f1 f2 o1 o2
                  go_wp2_with fail
                  refine HF.out.mono ?_
                  rintro e w5 ⟨rfl, hB5⟩
                  have hB6 := hB2.out.trans (hB5.mono hB2.out.size)
                  have HG1 := Lib.hid (HG.out w5 hB6)
                  replace hB6 := Lib.hid hB6
                  clear HF HG hB5
                  go_wp2_with fail
                  refine HG1.out.mono ?_
                  rintro e w6 ⟨rfl, hB7⟩
                  have hB8 := Lib.hid (hB6.out.trans (hB7.mono hB6.out.size))
                  clear HG1 hB7 hB6
                  go_wp2_with fail
                  have hgk2 := hgk2.out
                  go_roundg (52 - (s + 1))
                  case measure => omega
                  case rel => exact ⟨s + 1, A + VF, T + VG, by omega, rfl, by go_num, by go_num, by go_num, hA2, hT2, hB8.out⟩
          · obtain rfl : s = 52 := by omega
            rw [← hA.out, ← hT.out] at hle
            have hBe := Lib.hid (hBb.out.trans (hB2.mono hBb.out.size))
            have hAI : sm h F 52 = A := hA.out.symm
            have eTA : decide ((T : Int) ≤ (A : Int)) = true := decide_eq_true (by omega)
            clear hB2 hA hT
            go_wp2_with fail
            go_ret
            exact ⟨rfl, hBe.out⟩
end Go.Proofs.Ytkakggagaplaiaa
