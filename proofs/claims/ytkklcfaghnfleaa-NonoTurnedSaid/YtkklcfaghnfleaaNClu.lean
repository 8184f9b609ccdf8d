/- What nono.clue and Clue compute of a line that is known whole: its blocks; conditions: at most 20 places, each 0 or 1. -/
import Derived.Test.YtkklcfaghnfleaaNChk
namespace Go.Proofs.Ytkklcfaghnfleaa
open Go.RowKit

theorem take_last (s : List Nat) (j : Nat) (hj : 0 < j) (hl : j ≤ s.length) : (s.take j).getLastD 0 = st s (j - 1) := by
  rw [List.getLastD_eq_getLast?, List.getLast?_take, if_neg (by omega)]
  unfold st
  rw [List.getElem?_eq_getElem (by omega)]
  simp

set_option maxRecDepth 20000 in
set_option maxHeartbeats 4000000 in
theorem clue_any (n lc : Nat) (lq : Option Addr) (s : List Nat) (w : World) (hn : n ≤ 20) (hs : ∀ x ∈ s, x ≤ 1) (hx : IntsIn w lq n (asI s)) :
    Calls Try.prog 18 #[.slice lq n lc] w fun r w' => ∃ q m c, r = .returned (.slice q m c) ∧ m = (runs s).length ∧ Own 3 w.heap.size w' q m c (asI (runs s)) ∧ Below w.heap.size w w' := by
  have hlen : s.length = n := by have := hx.len; rw [asI_len] at this; exact this
  have hs1 : Hid (∀ j, st s j ≤ 1) := fun j => by
    unfold st
    by_cases h : j < s.length
    · rw [List.getElem?_eq_getElem h]; exact hs _ (List.getElem_mem h)
    · rw [List.getElem?_eq_none (by omega)]; exact Nat.zero_le _
  replace hs := Lib.hid hs
  go_enter Try.func18, Try.ntmps18
  go_wp2_with fail
  go_loopg [3, 8] n (fun gk lv jv W' => ∃ (j k c' : Nat) (p : Option Addr), j ≤ n ∧ gk = n - j ∧ jv = .int .i64 j ∧ lv = .slice p k c' ∧ Own 3 w.heap.size W' p k c' (asI (runs (s.take j))) ∧ Below w.heap.size w W' ∧ k ≤ j)
  case atStart => exact ⟨0, 0, 0, none, by omega, by omega, rfl, rfl, by rw [List.take_zero]; exact Own.nil _ _ _, Below.refl _ _, by omega⟩
  case round =>
    obtain ⟨j, k, c', p, hj, hgk, rfl, rfl, hO, hBr, hkj⟩ := hrel
    obtain ⟨W1, rfl⟩ : ∃ W1 : World, W1 = wr := ⟨_, rfl⟩
    replace hgk := Lib.hid hgk
    by_cases hlt : j < n
    · obtain ⟨gb, go, rfl, hgb, hcx⟩ := hx.at (by omega)
      clear hcx
      have hxr := hx.below hBr
      have k1 : W1.cell? ⟨gb, go + j, none⟩ = some (.int .i64 ((st s j : Nat) : Int)) := hxr.cellN hlt
      have hst : s.take (j + 1) = s.take j ++ [st s j] := by
        rw [List.take_succ_eq_append_getElem (by omega), st, List.getElem?_eq_getElem (by omega)]; rfl
      have hkl : k = (runs (s.take j)).length := by have := hO.len; rw [asI_len] at this; exact this.symm
      have hb1 := hs1.out j
      by_cases hz : st s j = 0
      · rw [hz] at k1 hst
        have hnew : Hid (runs (s.take (j + 1)) = runs (s.take j)) := by show _ = _; rw [hst, runs_zero]
        replace hO := Lib.hid hO; replace hBr := Lib.hid hBr; replace hkl := Lib.hid hkl; replace hst := Lib.hid hst; replace hz := Lib.hid hz; replace hxr := Lib.hid hxr
        go_wp2_with fail
        have hgk := hgk.out
        go_roundg (n - (j + 1))
        case measure => omega
        case rel => exact ⟨j + 1, k, c', p, by omega, rfl, by go_num, rfl, by rw [hnew.out]; exact hO.out, hBr.out, by omega⟩
      · have hz1 : st s j = 1 := by omega
        rw [hz1] at k1 hst
        have happ : ∀ h0 : (s.take j).getLastD 0 = 0, Hid (asI (runs (s.take j)) ++ [1] = asI (runs (s.take (j + 1)))) := fun h0 => by
          show _ = _; rw [hst, runs_one, if_pos h0]; simp [asI]
        have hinc : ∀ h0 : (s.take j).getLastD 0 ≠ 0, Hid (runs (s.take (j + 1)) = (runs (s.take j)).set (k - 1) (st (runs (s.take j)) (k - 1) + 1) ∧ 0 < k) := fun h0 => by
          have hne := runs_ne h0
          have hpos := List.length_pos_iff.2 hne
          refine ⟨?_, by omega⟩
          rw [hst, runs_one, if_neg h0, incL_set _ hne, hkl]; rfl
        replace hst := Lib.hid hst; replace hz := Lib.hid hz; replace hz1 := Lib.hid hz1; replace hkl := Lib.hid hkl
        by_cases hj0 : j = 0
        · subst hj0
          obtain rfl : k = 0 := by omega
          rw [Nat.add_zero] at k1
          have happ' := happ (by simp)
          clear happ hinc
          have hz9 := hBr.size
          replace hO := Lib.hid hO; replace hBr := Lib.hid hBr; replace hxr := Lib.hid hxr
          go_wp2_with (at_builtin; refine wp_append1 intG W1 rfl (.tmp 13) (.tmp 14) rfl w.heap.size p 0 c' _ rfl hO.out 1 rfl ?_ hz9 ?_; (omega); intro p6 c6 w6 hO7 hg6 hr6 hz6)
          have hB7 := Lib.hid (hBr.out.grown hg6 hz9 (fun x hx => by
            cases p with
            | none => cases hx
            | some y => simp at hx; subst hx; exact (hO.out.block y rfl).1))
          rw [happ'.out] at hO7
          replace hO7 := Lib.hid hO7
          clear hg6 hr6 hz6
          go_wp2_with fail
          have hgk := hgk.out
          go_roundg (n - (0 + 1))
          case measure => omega
          case rel => exact ⟨0 + 1, 0 + 1, c6, p6, by omega, rfl, by go_num, rfl, hO7.out, hB7.out, by omega⟩
        · have hjp : 0 < (j : Int) := by omega
          have hj1 : (j : Int) - 1 = ((j - 1 : Nat) : Int) := by omega
          have hjn1 : j - 1 < n := by omega
          have k2 : W1.cell? ⟨gb, go + (j - 1), none⟩ = some (.int .i64 ((st s (j - 1) : Nat) : Int)) := hxr.cellN hjn1
          have htl := take_last s j (by omega) (by omega)
          have hb2 := hs1.out (j - 1)
          by_cases hp : st s (j - 1) = 0
          · rw [hp] at k2
            have happ' := happ (by rw [htl, hp])
            clear happ hinc htl
            have hz9 := hBr.size
            replace hO := Lib.hid hO; replace hBr := Lib.hid hBr; replace hxr := Lib.hid hxr; replace hp := Lib.hid hp
            go_wp2_with (at_builtin; refine wp_append1 intG W1 rfl (.tmp 13) (.tmp 14) rfl w.heap.size p k c' _ rfl hO.out 1 rfl ?_ hz9 ?_; (omega); intro p6 c6 w6 hO7 hg6 hr6 hz6)
            have hB7 := Lib.hid (hBr.out.grown hg6 hz9 (fun x hx => by
              cases p with
              | none => cases hx
              | some y => simp at hx; subst hx; exact (hO.out.block y rfl).1))
            rw [happ'.out] at hO7
            replace hO7 := Lib.hid hO7
            clear hg6 hr6 hz6
            go_wp2_with fail
            have hgk := hgk.out
            go_roundg (n - (j + 1))
            case measure => omega
            case rel => exact ⟨j + 1, k + 1, c6, p6, by omega, rfl, by go_num, rfl, hO7.out, hB7.out, by omega⟩
          · have hp1 : st s (j - 1) = 1 := by omega
            rw [hp1] at k2
            obtain ⟨hinc', hk0⟩ := (hinc (by rw [htl, hp1]; omega)).out
            clear happ hinc htl
            obtain ⟨g, rfl, hg1, hg2, hg3⟩ := hO.where hk0
            have hkk : k - 1 < k := by omega
            have hO' := hO.cell hkk
            rw [asI_at] at hO'
            have f1 := hO.free (k - 1)
            have hki : (k : Int) - 1 = ((k - 1 : Nat) : Int) := by omega
            have hsum : st (runs (s.take j)) (k - 1) ≤ 20 := by
              unfold st
              rw [List.getElem?_eq_getElem (by rw [← hkl.out]; exact hkk)]
              have := runs_le (s.take j) _ (List.getElem_mem (by rw [← hkl.out]; exact hkk))
              simp only [Option.getD_some]
              have h2 : (s.take j).length ≤ 20 := by simp; omega
              omega
            have hset := hO.set (k - 1) ((st (runs (s.take j)) (k - 1) : Nat) + 1 : Int)
            have hse : (asI (runs (s.take j))).set (k - 1) ((st (runs (s.take j)) (k - 1) : Nat) + 1 : Int) = asI (runs (s.take (j + 1))) := by
              rw [hinc', asI_set]; rfl
            rw [hse] at hset
            have hBs := Lib.hid (hBr.setCell (p := ⟨g, k - 1, none⟩) hg1 (.int .i64 ((st (runs (s.take j)) (k - 1) : Nat) + 1 : Int)))
            generalize st (runs (s.take j)) (k - 1) = v at *
            replace hset := Lib.hid hset; replace hinc' := Lib.hid hinc'; replace hO := Lib.hid hO; replace hBr := Lib.hid hBr; replace hxr := Lib.hid hxr; replace hse := Lib.hid hse; replace hp := Lib.hid hp; replace hp1 := Lib.hid hp1
            go_wp2_with fail
            have hgk := hgk.out
            go_roundg (n - (j + 1))
            case measure => omega
            case rel => exact ⟨j + 1, k, c', some ⟨g, 0, none⟩, by omega, rfl, by go_num, rfl, hset.out, hBs.out, by omega⟩
    · obtain rfl : n = j := by omega
      have hkl : k = (runs s).length := by have := hO.len; rw [asI_len, List.take_of_length_le (by omega)] at this; exact this.symm
      rw [List.take_of_length_le (by omega)] at hO
      replace hO := Lib.hid hO; replace hBr := Lib.hid hBr; replace hkl := Lib.hid hkl
      go_wp2_with fail
      go_ret
      exact ⟨p, k, c', rfl, hkl.out, hO.out, hBr.out⟩
end Go.Proofs.Ytkklcfaghnfleaa
