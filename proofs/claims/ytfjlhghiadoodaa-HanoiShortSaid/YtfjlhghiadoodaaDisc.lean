/- What gameroomkeep.discs computes: a state of at most so many discs; conditions: the slice reads as a list of ints of 64 bits. -/
import Derived.Test.YtfjlhghiadoodaaGat
import Derived.Test.YtfjlhghiadoodaaPick
import Derived.Test.YtfjlhghiadoodaaIdx
namespace Go.Proofs.Ytfjlhghiadoodaa
open Go.RowKit

def dsc (xs : List Int) (k : Nat) : List Nat := (xs.take k).map fun x => pick x 3
theorem dsc_len (xs : List Int) (k : Nat) (h : k ≤ xs.length) : (dsc xs k).length = k := by simp [dsc]; omega
theorem dsc_snoc (xs : List Int) (j : Nat) (h : j < xs.length) : dsc xs (j + 1) = dsc xs j ++ [pick (xs[j]?.getD 0) 3] := by
  unfold dsc
  rw [List.take_succ_eq_append_getElem h, List.map_append]; simp [h]
theorem dsc_lt (xs : List Int) (k : Nat) : ∀ j, st (dsc xs k) j < 3 := by
  intro j
  unfold st dsc
  by_cases h : j < ((xs.take k).map fun x => pick x 3).length
  · rw [List.getElem?_eq_getElem h]
    simp only [List.getElem_map, Option.getD_some]
    exact pick_lt _ _ (by omega)
  · rw [List.getElem?_eq_none (by omega)]; simp

set_option maxHeartbeats 1000000 in
theorem discs_any (p : Option Addr) (n c most : Nat) (xs : List Int) (w : World) (hn : n ≤ 9223372036854775807) (hm : most ≤ 40) (hx : IntsIn w p n xs) (hw : ∀ j, j < n → -9223372036854775808 ≤ xs[j]?.getD 0 ∧ xs[j]?.getD 0 ≤ 9223372036854775807)
    (mI : Int) (emI : Hid (mI = most)) :
    Calls Try.prog 6 #[.slice p n c, .int .i64 mI] w fun e w' => ∃ q m c', e = .returned (.slice q m c') ∧ m = min n most ∧ m ≤ c' ∧ IntsIn w' q m (asI (dsc xs m)) ∧ Below w.heap.size w w' := by
  have emI := emI.out
  subst emI
  have hl := Lib.hid hx.len
  replace hx := Lib.hid hx; replace hw := Lib.hid hw
  go_enter Try.func6, Try.ntmps6
  go_wp2
  go_loopg [5, 6] most (fun k l i W => ∃ j c' : Nat, ∃ q : Option Addr, j ≤ n ∧ j ≤ most ∧ k = most - j ∧ i = .int .i64 j ∧ l = .slice q j c' ∧ Own 3 w.heap.size W q j c' (asI (dsc xs j)) ∧ Below w.heap.size w W)
  case atStart => exact ⟨0, 0, none, by omega, by omega, by omega, rfl, rfl, Own.nil _ _ _, Below.refl _ _⟩
  case round =>
    obtain ⟨j, c', q, hj, hjm, hk, rfl, rfl, hO, hB⟩ := hrel
    replace hk := Lib.hid hk
    by_cases hlt : j < n
    · by_cases hlt6 : j < most
      · obtain ⟨b, o, rfl, hb, hc⟩ := (hx.out.below hB).at (by omega)
        have hcj := hc j hlt
        obtain ⟨w1, w2⟩ := hw.out j hlt
        have hsn := Lib.hid (dsc_snoc xs j (by have := hl.out; omega))
        have H := Lib.hid (picked_any (xs[j]?.getD 0) 3 wr w1 w2 (by omega) (by omega) 3 rfl)
        generalize hv : pick (xs[j]?.getD 0) 3 = v at *
        have hB' := hB.size
        obtain ⟨W0, rfl⟩ : ∃ W0 : World, W0 = wr := ⟨_, rfl⟩
        replace hv := Lib.hid hv; replace hO := Lib.hid hO; replace hB := Lib.hid hB
        clear hc
        go_wp2_with fail
        refine H.out.mono ?_
        rintro e w' ⟨rfl, rfl⟩
        go_wp2_with (at_builtin; refine wp_append1 int22 _ rfl _ _ rfl w.heap.size q j c' _ rfl hO.out (v : Int) rfl (by omega) hB' ?_; intro q' c2 w2 hO2 hg2 _ hz2)
        have hB2 : Below w.heap.size w w2 := hB.out.grown hg2 hB' (fun x hx => by cases q with
          | none => cases hx
          | some a => cases hx; exact (hO.out.block a rfl).1)
        have hk := hk.out
        go_roundg (most - (j + 1))
        case measure => omega
        case rel =>
          have e1 : asI (dsc xs (j + 1)) = asI (dsc xs j) ++ [(v : Int)] := by rw [hsn.out]; simp [asI]
          exact ⟨j + 1, c2, q', by omega, by omega, rfl, by go_num, rfl, by rw [e1]; exact hO2, hB2⟩
      · have h0 := hO.in
        have hcap : Hid (¬ (j < n ∧ j < most) → j = min n most ∧ j ≤ c') := fun hh => by
          refine ⟨by omega, ?_⟩
          rcases Nat.eq_zero_or_pos j with h0 | h0
          · omega
          · exact (hO.where h0).choose_spec.2.2.2
        replace h0 := Lib.hid h0; replace hB := Lib.hid hB; replace hO := Lib.hid hO
        go_wp2_with fail
        go_ret
        exact ⟨q, j, c', rfl, (hcap.out (by omega)).1, (hcap.out (by omega)).2, h0.out, hB.out⟩
    · have h0 := hO.in
      have hcap : Hid (¬ (j < n ∧ j < most) → j = min n most ∧ j ≤ c') := fun hh => by
        refine ⟨by omega, ?_⟩
        rcases Nat.eq_zero_or_pos j with h0 | h0
        · omega
        · exact (hO.where h0).choose_spec.2.2.2
      replace h0 := Lib.hid h0; replace hB := Lib.hid hB; replace hO := Lib.hid hO
      go_wp2_with fail
      go_ret
      exact ⟨q, j, c', rfl, (hcap.out (by omega)).1, (hcap.out (by omega)).2, h0.out, hB.out⟩
end Go.Proofs.Ytfjlhghiadoodaa
