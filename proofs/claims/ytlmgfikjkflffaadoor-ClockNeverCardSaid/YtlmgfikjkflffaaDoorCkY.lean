/- What Read computes of a time that was shown; conditions: the time is at most ten hours, and what the library reads of its own lies as Gl tells. -/
import Derived.Test.YtlmgfikjkflffaaDoorCkX
namespace Go.Proofs.YtlmgfikjkflffaaDoor
open Go.RowKit

def foldV (m : Nat) (vs : Nat → Nat) : Nat → Nat
  | 0 => 0
  | k + 1 => foldV m vs k * m + vs k
/-- a shown time in its pieces: their texts, their numbers, and the unit. -/
structure Pt (n : Nat) (ps : List (List UInt8)) (vs : Nat → Nat) (u : Nat) : Prop where
  len : 2 ≤ ps.length ∧ ps.length ≤ 3
  at_ : ∀ (j : Nat) (l : List UInt8), ps[j]? = some l → Lib.atoi l = some (vs j : Nat) ∧ l.length ≤ 2
  lt : ∀ j, vs j < 100
  val : foldV (if u = 100 then 10 else 60) vs ps.length * u = readN n
  sp : (u = 1000 ∧ Lib.splitB (BS [58]) 0 (Lib.countB (BS (showS n)) (BS [58])) (BS (showS n)) = ps.map BS ∧ Lib.countB (BS (showS n)) (BS [58]) + 1 = ps.length) ∨
    (u = 100 ∧ Lib.splitB (BS [58]) 0 (Lib.countB (BS (showS n)) (BS [58])) (BS (showS n)) = [BS (showS n)] ∧ Lib.countB (BS (showS n)) (BS [58]) = 0 ∧ Lib.splitB (BS [46]) 0 (Lib.countB (BS (showS n)) (BS [46])) (BS (showS n)) = ps.map BS ∧ Lib.countB (BS (showS n)) (BS [46]) + 1 = ps.length)

theorem parts_ex (n : Nat) (hn : n ≤ 36000000) : ∃ ps vs u, Pt n ps vs u := by
  have F := fun k (hk : k < 100) => num_facts ⟨k, hk⟩
  have T := fun k (hk : k < 100) => two_facts ⟨k, hk⟩
  simp only at F T
  by_cases h1 : 3600 ≤ n / 1000
  · have e : showS n = num (n / 1000 / 3600) ++ 58 :: (two (n / 1000 / 60 % 60) ++ 58 :: two (n / 1000 % 60)) := by unfold showS; rw [if_pos h1]
    have fa := F (n / 1000 / 3600) (by omega)
    have fb := T (n / 1000 / 60 % 60) (by omega)
    have fc := T (n / 1000 % 60) (by omega)
    have hs := split_three 58 _ _ _ fa.2.1 fb.2.1 fc.2.1
    refine ⟨[num (n / 1000 / 3600), two (n / 1000 / 60 % 60), two (n / 1000 % 60)], fun j => if j = 0 then n / 1000 / 3600 else if j = 1 then n / 1000 / 60 % 60 else n / 1000 % 60, 1000, ⟨by simp, by simp⟩, ?_, ?_, ?_, .inl ⟨rfl, ?_, ?_⟩⟩
    · intro j l hj
      match j, hj with
      | 0, hj => cases hj; exact ⟨fa.1, fa.2.2.2⟩
      | 1, hj => cases hj; exact ⟨fb.1, fb.2.2⟩
      | 2, hj => cases hj; exact ⟨fc.1, fc.2.2⟩
      | j + 3, hj => simp at hj
    · intro j; show (if j = 0 then n / 1000 / 3600 else if j = 1 then n / 1000 / 60 % 60 else n / 1000 % 60) < 100; split
      · omega
      · split <;> omega
    · show (((0 * 60 + n / 1000 / 3600) * 60 + n / 1000 / 60 % 60) * 60 + n / 1000 % 60) * 1000 = readN n
      unfold readN
      rw [if_pos (by omega)]
      omega
    · rw [e, hs.1]; rfl
    · rw [e, hs.2]; rfl
  · by_cases h2 : 60 ≤ n / 1000
    · have e : showS n = num (n / 1000 / 60) ++ 58 :: two (n / 1000 % 60) := by unfold showS; rw [if_neg h1, if_pos h2]
      have fa := F (n / 1000 / 60) (by omega)
      have fc := T (n / 1000 % 60) (by omega)
      have hs := split_two 58 _ _ fa.2.1 fc.2.1
      refine ⟨[num (n / 1000 / 60), two (n / 1000 % 60)], fun j => if j = 0 then n / 1000 / 60 else n / 1000 % 60, 1000, ⟨by simp, by simp⟩, ?_, ?_, ?_, .inl ⟨rfl, ?_, ?_⟩⟩
      · intro j l hj
        match j, hj with
        | 0, hj => cases hj; exact ⟨fa.1, fa.2.2.2⟩
        | 1, hj => cases hj; exact ⟨fc.1, fc.2.2⟩
        | j + 2, hj => simp at hj
      · intro j; show (if j = 0 then n / 1000 / 60 else n / 1000 % 60) < 100; split <;> omega
      · show ((0 * 60 + n / 1000 / 60) * 60 + n / 1000 % 60) * 1000 = readN n
        unfold readN
        rw [if_pos (by omega)]
        omega
      · rw [e, hs.1]; rfl
      · rw [e, hs.2]; rfl
    · have e : showS n = num (n / 1000) ++ 46 :: num (n / 100 % 10) := by unfold showS; rw [if_neg h1, if_neg h2]
      have fa := F (n / 1000) (by omega)
      have fc := F (n / 100 % 10) (by omega)
      have hs := split_two 46 _ _ fa.2.2.1 fc.2.2.1
      have hc := split_last 58 (num (n / 1000) ++ 46 :: num (n / 100 % 10)) (by
        intro h
        rcases List.mem_append.1 h with h | h
        · exact fa.2.1 h
        · rcases List.mem_cons.1 h with h | h
          · exact absurd h (by decide)
          · exact fc.2.1 h)
      refine ⟨[num (n / 1000), num (n / 100 % 10)], fun j => if j = 0 then n / 1000 else n / 100 % 10, 100, ⟨by simp, by simp⟩, ?_, ?_, ?_, .inr ⟨rfl, ?_, ?_, ?_, ?_⟩⟩
      · intro j l hj
        match j, hj with
        | 0, hj => cases hj; exact ⟨fa.1, fa.2.2.2⟩
        | 1, hj => cases hj; exact ⟨fc.1, fc.2.2.2⟩
        | j + 2, hj => simp at hj
      · intro j; show (if j = 0 then n / 1000 else n / 100 % 10) < 100; split <;> omega
      · show ((0 * 10 + n / 1000) * 10 + n / 100 % 10) * 100 = readN n
        unfold readN
        rw [if_neg (by omega)]
        omega
      · rw [e, hc.1]
      · rw [e, hc.2]
      · rw [e, hs.1]; rfl
      · rw [e, hs.2]; rfl

theorem fold_le (m : Nat) (vs : Nat → Nat) (hm : m ≤ 60) (hv : ∀ j, vs j < 100) : ∀ k, k ≤ 3 → foldV m vs k ≤ 400000
  | 0, _ => by unfold foldV; omega
  | 1, _ => by unfold foldV foldV; have := hv 0; omega
  | 2, _ => by
    unfold foldV foldV foldV
    have := hv 0; have := hv 1
    have := Nat.mul_le_mul (show 0 * m + vs 0 ≤ 100 by omega) hm
    omega
  | 3, _ => by
    unfold foldV foldV foldV foldV
    have := hv 0; have := hv 1; have := hv 2
    have h1 := Nat.mul_le_mul (show 0 * m + vs 0 ≤ 100 by omega) hm
    have h2 := Nat.mul_le_mul (show (0 * m + vs 0) * m + vs 1 ≤ 6100 by omega) hm
    omega

/-- the pieces as they lie. -/
def PartsAt (w : World) (b : Nat) (ps : List (List UInt8)) : Prop := w.heap[b]? = some (.cells (ps.map fun l => Value.string (BS l)).toArray 9 (0, 0))
theorem PartsAt.cell {w : World} {b : Nat} {ps : List (List UInt8)} (h : PartsAt w b ps) {j : Nat} {l : List UInt8} (hj : ps[j]? = some l) : w.cell? ⟨b, j, none⟩ = some (.string (BS l)) := by
  rw [cell_of_row w b j _ 9 (0, 0) h]; simp [hj]
theorem PartsAt.below {w w' : World} {b B : Nat} {ps : List (List UInt8)} (h : PartsAt w b ps) (hb : Below B w w') (hB : b < B) : PartsAt w' b ps := (hb.block b hB).trans h
theorem PartsAt.new (w : World) (ps : List (List UInt8)) : PartsAt (w.alloc (.cells ((ps.map BS).map Value.string).toArray 9)) w.heap.size ps := by
  unfold PartsAt
  rw [heap_alloc_new, List.map_map]
  rfl

set_option maxRecDepth 20000 in
set_option maxHeartbeats 4000000 in
theorem Read_any (n : Nat) (w : World) (hn : n ≤ 36000000) (hg : Gl w) : Calls Tryd.prog 9 #[.string (BS (showS n))] w fun e w' => e = .returned (.tuple #[.int .i64 (readN n : Nat), .int .i64 0]) ∧ Below w.heap.size w w' := by
  obtain ⟨ps, vs, u, hP⟩ := parts_ex n hn
  have hsz : (BS (showS n)).size ≤ 8 := by
    rw [bs_size]
    unfold showS
    have hnum : ∀ k, (num k).length ≤ 2 := fun k => by have := num_len k; rwa [bs_size] at this
    have htwo : ∀ k, (two k).length = 2 := fun k => rfl
    have a1 := hnum (n / 1000 / 3600); have a2 := hnum (n / 1000 / 60); have a3 := hnum (n / 1000); have a4 := hnum (n / 100 % 10)
    have a5 := htwo (n / 1000 / 60 % 60); have a6 := htwo (n / 1000 % 60)
    split
    · simp only [List.length_append, List.length_cons]; omega
    · split <;> (simp only [List.length_append, List.length_cons]; omega)
  obtain ⟨m0, hm0⟩ := hg.ml
  have HS1 := Sh.strings_Split (BS (showS n)) (BS [58]) m0 w (by omega) hm0 (Nat.le_refl 1)
  have HS2 := fun W (hW : W.cell? ⟨3, 0, none⟩ = some (.int .i64 m0)) => Sh.strings_Split (BS (showS n)) (BS [46]) m0 W (by omega) hW (Nat.le_refl 1)
  have HW := fun W hW => Show_any (readN n) W (Nat.le_trans (readN_le n) hn) hW
  rw [show_read] at HW
  have hval := hP.val
  have hlen := hP.len
  have hlt := hP.lt
  have hat := hP.at_
  have hsp := hP.sp
  have hu : u = 1000 ∨ u = 100 := by rcases hsp with h | h <;> omega
  have hrn := Nat.le_trans (readN_le n) hn
  obtain ⟨L, hL⟩ : ∃ L, ps.length = L := ⟨_, rfl⟩
  rw [hL] at hlen hval
  generalize readN n = R at *
  generalize BS (showS n) = S at *
  obtain ⟨K, hK⟩ : ∃ K, Lib.countB S (BS [58]) = K := ⟨_, rfl⟩
  obtain ⟨K2, hK2⟩ : ∃ K2, Lib.countB S (BS [46]) = K2 := ⟨_, rfl⟩
  rw [hK] at HS1 hsp
  rw [hK2] at HS2 hsp
  have hg3 : w.heap.size > 3 := cell_lt hm0
  replace hval := Lib.hid hval; replace hlt := Lib.hid hlt; replace hat := Lib.hid hat; replace hP := Lib.hid hP; replace HW := Lib.hid HW; replace hg := Lib.hid hg; replace hL := Lib.hid hL; replace hK := Lib.hid hK; replace hK2 := Lib.hid hK2
  replace hsp := Lib.hid hsp; replace HS1 := Lib.hid HS1; replace HS2 := Lib.hid HS2
  go_enter Tryd.func9, Tryd.ntmps9
  go_upto_if 17 with (go_at_call 18; refine HS1.out.mono ?_; rintro e w1 ⟨rfl, hw1⟩; replace hw1 := Lib.hid hw1)
  go_cut [4, 5] (fun s4 s5 wx => ∃ b, s4 = .slice (some ⟨b, 0, none⟩) L L ∧ s5 = .int .i64 (u : Int) ∧ PartsAt wx b ps ∧ Below w.heap.size w wx ∧ w.heap.size ≤ b)
  case first =>
    have hB1 : Hid (Below w.heap.size w w1) := by show _; rw [hw1.out]; exact (Below.refl _ _).alloc (Nat.le_refl _) _
    rcases hsp.out with ⟨rfl, k1, k2⟩ | ⟨rfl, k1, k2, k3, k4⟩
    · have hK1 : K + 1 = L := by rw [← hL.out]; exact k2
      have hKi : (K : Int) + 1 = L := by omega
      have hz : ((L : Int) == 1) = false := by simp; omega
      have hp1 : Hid (PartsAt w1 w.heap.size ps) := by
        show PartsAt _ _ _
        rw [hw1.out, k1]; exact PartsAt.new w ps
      replace k1 := Lib.hid k1; replace k2 := Lib.hid k2; replace hK1 := Lib.hid hK1
      go_wp2_with fail
      go_meet
      exact ⟨w.heap.size, by rw [hK1.out], rfl, hp1.out, hB1.out, Nat.le_refl _⟩
    · have hKi : (K : Int) = 0 := by omega
      have h3 : w1.cell? ⟨3, 0, none⟩ = some (.int .i64 m0) := (hB1.out.cell (p := ⟨3, 0, none⟩) hg3).trans hm0
      have HS3 := Lib.hid (HS2.out w1 h3)
      have hK4 : K2 + 1 = L := by rw [← hL.out]; exact k4
      have hk3 : Hid (Lib.splitB (BS [46]) 0 K2 S = ps.map BS) := k3
      have hs1 := hB1.out.size
      clear k4 k3 k1 h3 hsp
      subst k2
      replace hK4 := Lib.hid hK4
      go_wp2_with fail
      refine HS3.out.mono ?_
      rintro e w2 ⟨rfl, hw2⟩
      have hB2 : Hid (Below w.heap.size w w2) := by show _; rw [hw2]; exact hB1.out.alloc hs1 _
      have hp2 : Hid (PartsAt w2 w1.heap.size ps) := by
        show PartsAt _ _ _
        rw [hw2, hk3.out]; exact PartsAt.new w1 ps
      replace hw2 := Lib.hid hw2
      go_wp2_with fail
      go_meet
      exact ⟨w1.heap.size, by rw [hK4.out], rfl, hp2.out, hB2.out, hs1⟩
  case rest =>
    obtain ⟨b, rfl, rfl, hpt, hBc, hwb⟩ := hcut
    obtain ⟨w2, rfl⟩ : ∃ w2 : World, w2 = wc := ⟨_, rfl⟩
    clear HS1 HS2 hw1 hm0 hsp
    have hwb2 : b < w2.heap.size := lt_of_heap hpt
    replace hpt := Lib.hid hpt; replace hBc := Lib.hid hBc
    obtain ⟨m, hm, hm60⟩ : ∃ m, (if u = 100 then 10 else 60) = m ∧ m ≤ 60 := ⟨_, rfl, by split <;> omega⟩
    have hfold := fold_le m vs hm60 hlt.out
    have hval2 := hval.out
    rw [hm] at hval2
    replace hval2 := Lib.hid hval2; replace hfold := Lib.hid hfold
    go_wp2_with fail
    go_loopg [6, 22] L (fun k nv iv W => ∃ j, j ≤ L ∧ k = L - j ∧ iv = .int .i64 (j : Nat) ∧ nv = .int .i64 ((foldV m vs j : Nat) : Int) ∧ Below w2.heap.size w2 W)
    case atStart => exact ⟨0, Nat.zero_le _, by omega, rfl, rfl, Below.refl _ _⟩
    case round =>
      obtain ⟨j, hj, hk, rfl, rfl, hB⟩ := hrel
      obtain ⟨W1, rfl⟩ : ∃ W1 : World, W1 = wr := ⟨_, rfl⟩
      replace hk := Lib.hid hk
      by_cases hlt2 : j < L
      · obtain ⟨l, hl⟩ : ∃ l, ps[j]? = some l := ⟨ps[j]'(by rw [hL.out]; exact hlt2), List.getElem?_eq_getElem _⟩
        have hc := (hpt.out.below hB hwb2).cell hl
        obtain ⟨ha, hll⟩ := hat.out j l hl
        have HA := Lib.hid (Sh.strconv_Atoi (BS l) (vs j) (by rw [bs_size]; omega) ha W1)
        have hlz : (BS l).size ≤ 2 := by rw [bs_size]; exact hll
        have hf1 := hfold.out j (by omega)
        have hf2 := hfold.out (j + 1) (by omega)
        have hfs : foldV m vs (j + 1) = foldV m vs j * m + vs j := rfl
        have hvj := hlt.out j
        generalize foldV m vs j = f at *
        generalize vs j = v at *
        generalize BS l = Z at *
        replace hl := Lib.hid hl; replace ha := Lib.hid ha; replace hfs := Lib.hid hfs; replace hf2 := Lib.hid hf2
        replace hB := Lib.hid hB
        go_wp2_with fail
        refine HA.out.mono ?_
        rintro e W2 ⟨rfl, t, hW2⟩
        have hB2 : Hid (Below w2.heap.size w2 W2) := by
          show _
          rw [hW2]; exact hB.out.trans (Go.Joins.below_bytesWorld _ _ _ _ hB.out.size)
        replace hW2 := Lib.hid hW2
        rcases hu with rfl | rfl
        · obtain rfl : 60 = m := by rw [← hm]; rfl
          go_wp2_with fail
          have hk := hk.out
          go_roundg (L - (j + 1))
          case measure => omega
          case rel => exact ⟨j + 1, by omega, rfl, by go_num, by rw [hfs.out]; push_cast; rfl, hB2.out⟩
        · obtain rfl : 10 = m := by rw [← hm]; rfl
          go_wp2_with fail
          have hk := hk.out
          go_roundg (L - (j + 1))
          case measure => omega
          case rel => exact ⟨j + 1, by omega, rfl, by go_num, by rw [hfs.out]; push_cast; rfl, hB2.out⟩
      · obtain rfl : L = j := by omega
        have hv := hval2.out
        have hfl := hfold.out L (by omega)
        obtain ⟨f, hf⟩ : ∃ f, foldV m vs L = f := ⟨_, rfl⟩
        rw [hf] at hv hfl
        rw [hf]
        have hvi : (f : Int) * u = R := by rw [← hv]; push_cast; rfl
        have HS := Lib.hid (HW.out W1 (hg.out.below (hBc.out.trans (hB.mono hBc.out.size))))
        replace hf := Lib.hid hf; replace hv := Lib.hid hv; replace hB := Lib.hid hB
        go_wp2_with fail
        refine HS.out.mono ?_
        rintro e W2 ⟨rfl, hB3⟩
        replace hB3 := Lib.hid hB3
        go_wp2_with fail
        go_ret2
        refine ⟨rfl, (hBc.out.trans (hB.out.mono hBc.out.size)).trans (hB3.out.mono ?_)⟩
        exact Nat.le_trans hBc.out.size hB.out.size
end Go.Proofs.YtlmgfikjkflffaaDoor
