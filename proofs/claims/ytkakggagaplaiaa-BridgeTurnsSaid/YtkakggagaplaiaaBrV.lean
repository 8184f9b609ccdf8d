/- What bridge.Best tells of four hands; conditions: four hands of one to four unlike cards. -/
import Derived.Test.YtkakggagaplaiaaBrZ
namespace Go.Proofs.Ytkakggagaplaiaa
open Go.RowKit

theorem dj_of {L : Nat → List Nat} (hn : (cat L 4).Nodup) : Dj (L 0) (L 1) (L 2) (L 3) ∧ (L 0).Nodup ∧ (L 1).Nodup ∧ (L 2).Nodup ∧ (L 3).Nodup := by
  simp only [cat, List.nil_append, List.nodup_append, List.mem_append] at hn
  obtain ⟨⟨⟨n0, n1, d1⟩, n2, d2⟩, n3, d3⟩ := hn
  exact ⟨⟨fun x a b => d1 x a x b rfl, fun x a b => d2 x (.inl a) x b rfl, fun x a b => d3 x (.inl (.inl a)) x b rfl, fun x a b => d2 x (.inr a) x b rfl, fun x a b => d3 x (.inl (.inr a)) x b rfl, fun x a b => d3 x (.inr a) x b rfl⟩, n0, n1, n2, n3⟩
set_option maxRecDepth 100000 in
set_option maxHeartbeats 8000000 in
theorem Best_any (g o n c s ld : Nat) (pb po pc : Nat → Nat) (L : Nat → List Nat) (w : World) (h1 : 1 ≤ n) (h2 : n ≤ 4) (hH : H4 w g o n pb po pc L) (hn : (cat L 4).Nodup) (hb : ∀ x ∈ cat L 4, x < 52) (hs5 : s < 5) (hld : ld < 4) :
    Calls Try.prog 25 #[.slice (some ⟨g, o, none⟩) 4 c, .int .i64 s, .int .i64 ld] w fun e w' => e = .returned (.tuple #[.int .i64 (gS s (4 * n) (dealS (L 0) (L 1) (L 2) (L 3)) ld []), .int .i64 0]) ∧ Below w.heap.size w w' := by
  have HC := Lib.hid (concat_any g o n c pb po pc L w h1 (by omega) hH)
  have r0 : w.cell? ⟨g, o, none⟩ = some (.slice (some ⟨pb 0, po 0, none⟩) n (pc 0)) := (hH.row 0 (by omega)).2
  have hcl := cat_len hH.len 4 (Nat.le_refl _)
  replace hH := Lib.hid hH
  replace hcl := Lib.hid hcl
  obtain ⟨A, hA⟩ : ∃ A, A = gS s (4 * n) (dealS (L 0) (L 1) (L 2) (L 3)) ld [] := ⟨_, rfl⟩
  rw [← hA]
  replace hA := Lib.hid hA
  have i1 : decide ((n : Int) < 1) = false := decide_eq_false (by omega)
  have i2 : decide ((n : Int) > 4) = false := decide_eq_false (by omega)
  have i2' : decide (4 < (n : Int)) = false := decide_eq_false (by omega)
  have i3 : decide ((s : Int) < 0) = false := decide_eq_false (by omega)
  have i4 : decide (4 < (s : Int)) = false := decide_eq_false (by omega)
  have i5 : decide ((ld : Int) < 0) = false := decide_eq_false (by omega)
  have i6 : decide (3 < (ld : Int)) = false := decide_eq_false (by omega)
  go_enter Try.func25, Try.ntmps25
  go_wp2_with fail
  go_loopg [23] 4 (fun gk iv W' => ∃ j : Nat, j ≤ 4 ∧ gk = 4 - j ∧ iv = .int .i64 j ∧ w = W')
  case atStart => exact ⟨0, by omega, by omega, rfl, rfl⟩
  case round =>
    obtain ⟨j, hj, hgk, rfl, rfl⟩ := hrel
    replace hgk := Lib.hid hgk
    by_cases hlt : j < 4
    · have c0 := (hH.out.row j hlt).2
      go_wp2_with fail
      have hgk := hgk.out
      go_roundg (4 - (j + 1))
      case measure => omega
      case rel => exact ⟨j + 1, by omega, rfl, by go_num, rfl⟩
    · obtain rfl : j = 4 := by omega
      go_wp2_with fail
      refine HC.out.mono ?_
      rintro e w1 ⟨q, c1, rfl, hO, hB⟩
      have HK := Lib.hid (checkB_any q (4 * n) c1 (cat L 4) w1 (by omega) hO.in hb hn)
      replace hO := Lib.hid hO; replace hB := Lib.hid hB
      clear HC
      go_wp2_with fail
      refine HK.out.mono ?_
      rintro e w2 ⟨rfl, hB2⟩
      have hB3 := Lib.hid (hB.out.trans (hB2.mono hB.out.size))
      clear hB hB2 hO HK
      go_upto_region 17 with fail
      have hN : Hid (∃ ms, ms.length = 52 ∧ Nums (w2.alloc (Obj.cells #[.int .i64 0, .int .i64 0, .int .i64 0, .int .i64 0, .int .i64 0, .int .i64 0, .int .i64 0, .int .i64 0, .int .i64 0, .int .i64 0, .int .i64 0, .int .i64 0, .int .i64 0, .int .i64 0, .int .i64 0, .int .i64 0, .int .i64 0, .int .i64 0, .int .i64 0, .int .i64 0, .int .i64 0, .int .i64 0, .int .i64 0, .int .i64 0, .int .i64 0, .int .i64 0, .int .i64 0, .int .i64 0, .int .i64 0, .int .i64 0, .int .i64 0, .int .i64 0, .int .i64 0, .int .i64 0, .int .i64 0, .int .i64 0, .int .i64 0, .int .i64 0, .int .i64 0, .int .i64 0, .int .i64 0, .int .i64 0, .int .i64 0, .int .i64 0, .int .i64 0, .int .i64 0, .int .i64 0, .int .i64 0, .int .i64 0, .int .i64 0, .int .i64 0, .int .i64 0] 82)) w2.heap.size 82 (asI ms)) := ⟨List.replicate 52 0, rfl, heap_alloc_new w2 _⟩
      have hB4 := Lib.hid (hB3.out.trans (((Below.refl w2.heap.size w2).alloc (Nat.le_refl _) (Obj.cells #[.int .i64 0, .int .i64 0, .int .i64 0, .int .i64 0, .int .i64 0, .int .i64 0, .int .i64 0, .int .i64 0, .int .i64 0, .int .i64 0, .int .i64 0, .int .i64 0, .int .i64 0, .int .i64 0, .int .i64 0, .int .i64 0, .int .i64 0, .int .i64 0, .int .i64 0, .int .i64 0, .int .i64 0, .int .i64 0, .int .i64 0, .int .i64 0, .int .i64 0, .int .i64 0, .int .i64 0, .int .i64 0, .int .i64 0, .int .i64 0, .int .i64 0, .int .i64 0, .int .i64 0, .int .i64 0, .int .i64 0, .int .i64 0, .int .i64 0, .int .i64 0, .int .i64 0, .int .i64 0, .int .i64 0, .int .i64 0, .int .i64 0, .int .i64 0, .int .i64 0, .int .i64 0, .int .i64 0, .int .i64 0, .int .i64 0, .int .i64 0, .int .i64 0, .int .i64 0] 82)).mono hB3.out.size))
      have hdb : w.heap.size ≤ w2.heap.size := hB3.out.size
      generalize w2.alloc (Obj.cells _ 82) = W0 at *
      generalize w2.heap.size = db at *
      obtain ⟨ms0, hms0, hN0⟩ := hN.out
      go_wp2_with fail
      go_loopg [65] 52 (fun gk iv W' => ∃ (j : Nat) (ms : List Nat), j ≤ 52 ∧ gk = 52 - j ∧ iv = .int .i64 j ∧ ms.length = 52 ∧ (∀ x, x < j → st ms x = 4) ∧ Nums W' db 82 (asI ms) ∧ Below w.heap.size w W')
      case atStart => exact ⟨0, ms0, by omega, by omega, rfl, hms0, fun x hx => absurd hx (by omega), hN0, hB4.out⟩
      case round =>
        obtain ⟨j, ms, hj, hgk, rfl, hml, h4, hN1, hB1⟩ := hrel
        obtain ⟨W1, rfl⟩ : ∃ W1 : World, W1 = wr := ⟨_, rfl⟩
        replace hgk := Lib.hid hgk
        by_cases hlt : j < 52
        · have k1 := hN1.cellN (i := j) (by omega)
          have f1 := hN1.free j
          have i7 : (j : Int) < 52 := by omega
          have i8 : (0 : Int) ≤ (j : Int) := by omega
          have hN2 := Lib.hid (hN1.set j 4)
          have hB2 := Lib.hid (hB1.setCell (p := ⟨db, j, none⟩) hdb (.int .i64 4))
          replace hN1 := Lib.hid hN1; replace hB1 := Lib.hid hB1; replace h4 := Lib.hid h4
          go_wp2_with fail
          have hgk := hgk.out
          go_roundg (52 - (j + 1))
          case measure => omega
          case rel => exact ⟨j + 1, ms.set j 4, by omega, rfl, by go_num, by simp [hml], fun x hx => by
            rw [st_setN _ _ _ _ (by omega)]
            by_cases e : x = j
            · rw [if_pos e]
            · rw [if_neg e]; exact h4.out x (by omega), by rw [asI_set]; exact hN2.out, hB2.out⟩
        · obtain rfl : j = 52 := by omega
          have hm4 : Hid (∀ x, x < 52 → st ms x = owN L 0 x) := fun x hx => h4 x hx
          replace hN1 := Lib.hid hN1; replace hB1 := Lib.hid hB1
          have hLb : Hid (∀ i, i < 4 → ∀ x ∈ L i, x < 52) := fun i hi x hx => hb x (by
            rcases (show i = 0 ∨ i = 1 ∨ i = 2 ∨ i = 3 by omega) with e | e | e | e <;> subst e <;> simp [cat, hx])
          clear h4
          go_wp2_with fail
          go_loopg [73] 4 (fun gk iv W' => ∃ (j : Nat) (ms : List Nat), j ≤ 4 ∧ gk = 4 - j ∧ iv = .int .i64 j ∧ ms.length = 52 ∧ Hid (∀ x, x < 52 → st ms x = owN L j x) ∧ Nums W' db 82 (asI ms) ∧ Below w.heap.size w W')
          case atStart => exact ⟨0, ms, by omega, by omega, rfl, hml, hm4, hN1.out, hB1.out⟩
          case round =>
            clear hml hm4 hN1 hB1
            obtain ⟨j, ms, hj, hgk, rfl, hml, hmj, hN1, hB1⟩ := hrel
            obtain ⟨W2, rfl⟩ : ∃ W2 : World, W2 = wr := ⟨_, rfl⟩
            replace hgk := Lib.hid hgk
            by_cases hlt : j < 4
            · have c0 := ((hH.out.below hB1).row j hlt).2
              replace hN1 := Lib.hid hN1; replace hB1 := Lib.hid hB1
              go_wp2_with fail
              go_loopg [80] n (fun gk iv W' => ∃ (i : Nat) (ms : List Nat), i ≤ n ∧ gk = n - i ∧ iv = .int .i64 i ∧ ms.length = 52 ∧ Hid (∀ x, x < 52 → st ms x = if x ∈ (L j).take i then j else owN L j x) ∧ Nums W' db 82 (asI ms) ∧ Below w.heap.size w W')
              case atStart => exact ⟨0, ms, by omega, by omega, rfl, hml, fun x hx => by rw [hmj.out x hx]; simp, hN1.out, hB1.out⟩
              case round =>
                clear hml hmj hN1 hB1
                obtain ⟨i, ms, hi, hgk2, rfl, hml, hmi, hN1, hB1⟩ := hrel
                obtain ⟨W3, rfl⟩ : ∃ W3 : World, W3 = wr := ⟨_, rfl⟩
                replace hgk2 := Lib.hid hgk2
                have hlj := hH.out.len j hlt
                by_cases hlt2 : i < n
                · have k0 := ((hH.out.below hB1).ints j hlt).cellN hlt2
                  have hx52 := hLb.out j hlt _ (st_mem (l := L j) (i := i) (by omega))
                  have htk := Lib.hid (take_snoc (L j) i (by omega))
                  generalize st (L j) i = x at *
                  have k1 := hN1.cellN (i := x) (by omega)
                  have f1 := hN1.free x
                  have i7 : (x : Int) < 52 := by omega
                  have i8 : (0 : Int) ≤ (x : Int) := by omega
                  have hN2 := Lib.hid (hN1.set x (j : Int))
                  have hB2 := Lib.hid (hB1.setCell (p := ⟨db, x, none⟩) hdb (.int .i64 (j : Int)))
                  replace hN1 := Lib.hid hN1; replace hB1 := Lib.hid hB1
                  go_wp2_with fail
                  have hgk2 := hgk2.out
                  go_roundg (n - (i + 1))
                  case measure => omega
                  case rel => exact ⟨i + 1, ms.set x j, by omega, rfl, by go_num, by simp [hml], fun y hy => by
                    rw [st_setN _ _ _ _ (by omega), htk.out]
                    by_cases e : y = x
                    · rw [if_pos e, if_pos (by simp [e])]
                    · rw [if_neg e, hmi.out y hy]; simp [e], by rw [asI_set]; exact hN2.out, hB2.out⟩
                · obtain rfl : i = n := by omega
                  have hmj2 : Hid (∀ x, x < 52 → st ms x = owN L (j + 1) x) := fun x hx => by rw [hmi.out x hx, owN, List.take_of_length_le (by omega)]
                  replace hN1 := Lib.hid hN1; replace hB1 := Lib.hid hB1
                  go_wp2_with fail
                  have hgk := hgk.out
                  go_roundg (4 - (j + 1))
                  case measure => omega
                  case rel => exact ⟨j + 1, ms, by omega, rfl, by go_num, hml, hmj2, hN1.out, hB1.out⟩
            · obtain rfl : j = 4 := by omega
              have hlen := hH.out.len
              obtain ⟨hdj, n0, n1, n2, n3⟩ := dj_of hn
              have hms := deal_ext hdj hml hmj.out
              obtain ⟨hRd, hcrd, hDl⟩ := deal_facts hdj (hlen 0 (by omega)) (hlen 1 (by omega)) (hlen 2 (by omega)) (hlen 3 (by omega)) n0 n1 n2 n3 (hLb.out 0 (by omega)) (hLb.out 1 (by omega)) (hLb.out 2 (by omega)) (hLb.out 3 (by omega)) (ld := ld)
              rw [← hms] at hRd hcrd hDl hA
              have hBm := (Below.refl W2.heap.size W2).alloc (Nat.le_refl _) (.map #[] 0)
              have hsm : (W2.alloc (.map #[] 0)).heap.size = W2.heap.size + 1 := by simp
              have hBt := (Below.refl (W2.heap.size + 1) (W2.alloc (.map #[] 0))).alloc (by omega) (.cells #[.int .i64 (s : Int), .map (some W2.heap.size)] 85)
              have hW : Wd s ms (W2.heap.size + 1) W2.heap.size db ms ((W2.alloc (.map #[] 0)).alloc (.cells #[.int .i64 (s : Int), .map (some W2.heap.size)] 85)) := by
                refine ⟨?_, (hN1.alloc _).alloc _, (mapOk_made W2).alloc _⟩
                rw [← hsm]; exact heap_alloc_new _ _
              have HC := Lib.hid ((both_at hs5 (4 * n)).1 ms ld n _ hcrd rfl (fun _ => hRd) hDl hld hW)
              have hBB := Lib.hid (hB1.trans ((hBm.trans (hBt.mono (by omega))).mono hB1.size))
              replace hW := Lib.hid hW; replace hN1 := Lib.hid hN1
              clear hRd hcrd hDl hBm hBt hms hdj n0 n1 n2 n3 hlen hmj
              have hmm := @run_makeMap Try.prog
              go_wp2_with fail
              refine HC.out.mono ?_
              rintro e w9 ⟨rfl, hM9, hg9⟩
              have hB9 : Hid (Below w.heap.size w w9) := hBB.out.trans ⟨hg9.os, hg9.tape, hg9.output, hg9.size, fun k hk => hg9.block k (Nat.lt_of_lt_of_le hk hBB.out.size) (by intro e; injection e with e; have := hB1.size; omega)⟩
              clear hM9 hg9 hmm
              go_wp2_with fail
              go_ret2
              exact ⟨by rw [hA.out]; rfl, hB9.out⟩
end Go.Proofs.Ytkakggagaplaiaa
