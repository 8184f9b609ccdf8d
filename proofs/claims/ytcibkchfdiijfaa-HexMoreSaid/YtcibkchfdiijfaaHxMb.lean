import Derived.Test.YtcibkchfdiijfaaHxMa
import Derived.Test.YtcibkchfdiijfaaHxT
import Derived.Laws.Bits64b
import Derived.BigQuiet
import Derived.BigRegion
import Derived.Deep.Cut
/- hex's solver: the key of a board; conditions: a board of 1 to 10 by as many. -/
namespace Go.Proofs.Ytcibkchfdiijfaa
open Go.RowKit

/-- the places of a sign, as bits. -/
def mskU (v : Nat) (s : List Nat) : Nat → Nat
  | 0 => 0
  | k + 1 => if st s k = v then mskU v s k ||| 2 ^ (k % 64) else mskU v s k
theorem mskU_lt (v : Nat) (s : List Nat) : ∀ k, mskU v s k < 2 ^ 64
  | 0 => by simp [mskU]
  | k + 1 => by
    rw [mskU]
    split
    · exact Nat.or_lt_two_pow (mskU_lt v s k) (Nat.pow_lt_pow_right (by omega) (Nat.mod_lt _ (by omega)))
    · exact mskU_lt v s k
theorem mskU_bit (v : Nat) (s : List Nat) : ∀ k, k ≤ 64 → ∀ i, (mskU v s k).testBit i = true ↔ i < k ∧ st s i = v
  | 0, _, i => by simp [mskU]
  | k + 1, hk, i => by
    have ih := mskU_bit v s k (by omega) i
    rw [mskU, Nat.mod_eq_of_lt (by omega : k < 64)]
    split
    · rename_i h
      rw [Nat.testBit_or, Bool.or_eq_true, ih, Nat.testBit_two_pow]
      by_cases e : k = i
      · subst e; simp [h]
      · simp [e]; omega
    · rename_i h
      rw [ih]
      by_cases e : k = i
      · subst e; simp [h]
      · omega
theorem msk_inj {s t : List Nat} {N : Nat} (hN : N ≤ 64) (hs : s.length = N) (ht : t.length = N) (s2 : ∀ j, st s j ≤ 2) (t2 : ∀ j, st t j ≤ 2) (h1 : mskU 1 s N = mskU 1 t N) (h2 : mskU 2 s N = mskU 2 t N) : s = t := by
  apply List.ext_getElem (by omega)
  intro i hi hj
  have a1 := mskU_bit 1 s N hN i
  have a2 := mskU_bit 2 s N hN i
  have b1 := mskU_bit 1 t N hN i
  have b2 := mskU_bit 2 t N hN i
  rw [h1] at a1; rw [h2] at a2
  have c1 := a1.symm.trans b1
  have c2 := a2.symm.trans b2
  have e1 : st s i = s[i] := by unfold st; simp [hi]
  have e2 : st t i = t[i] := by unfold st; simp [hj]
  have l1 := s2 i; have l2 := t2 i
  rw [← e1, ← e2]
  omega
theorem and63 : ∀ k, k < 100 → bits .and .i64 ((k : Nat) : Int) 63 = ((k % 64 : Nat) : Int) := by decide +kernel
theorem or_msk {m b : Nat} (hm : m < 2 ^ 64) (hb : b < 64) : bits .or .u64 (m : Int) (IntKind.u64.wrap (2 ^ b)) = ((m ||| 2 ^ b : Nat) : Int) := by
  have h1 : 2 ^ b < 2 ^ 64 := Nat.pow_lt_pow_right (by omega) hb
  have h2 : ((2 ^ b : Nat) : Int) = (2 : Int) ^ b := by push_cast; rfl
  have e64 : (2 : Nat) ^ 64 = 18446744073709551616 := by decide
  rw [e64] at h1 hm
  rw [← h2]
  generalize 2 ^ b = B at *
  have h3 : IntKind.u64.wrap (B : Int) = (B : Int) := by rw [IntKind.wrap_u64]; omega
  rw [h3]
  exact bits_or_u64_nat m B hm h1
theorem wset3 {W : World} {b : Nat} {x y z : Value} {t : TypeId} (h : W.heap[b]? = some (.cells #[x, y, z] t (0, 0))) (u : Value) : (W.setCell ⟨b, 0, none⟩ u).heap[b]? = some (.cells #[u, y, z] t (0, 0)) ∧ (W.setCell ⟨b, 1, none⟩ u).heap[b]? = some (.cells #[x, u, z] t (0, 0)) := by
  constructor
  · simpa using wset h 0 u
  · simpa using wset h 1 u

set_option maxRecDepth 20000 in
set_option maxHeartbeats 2000000 in
theorem key_any (n N Sb g c Mb p : Nat) (s : List Nat) (w : World) (hN : N ≤ 100) (hl : s.length = N) (hs : ∀ j, st s j ≤ 2)
    (hS : w.heap[Sb]? = some (.cells #[.int .i64 (n : Int), .int .i64 (n : Int), .slice (some ⟨g, 0, none⟩) N c, .map (some Mb)] 40 (0, 0))) (hx : IntsIn w (some ⟨g, 0, none⟩) N (asI s)) (hN1 : 1 ≤ N) :
    Calls Try.prog 34 #[.pointer (some ⟨Sb, 0, none⟩), .int .i64 (p : Int)] w fun e w' => e = .returned (.agg #[.int .u64 (mskU 1 s N : Nat), .int .u64 (mskU 2 s N : Nat), .int .i64 (p : Int)]) ∧ Below w.heap.size w w' := by
  obtain ⟨b', o', e', hgl, hcc⟩ := hx.at hN1
  cases e'
  have hSl := lt_of_heap hS
  have hcell : Hid (∀ W, Below w.heap.size w W → ∀ j, j < N → W.cell? ⟨g, j, none⟩ = some (.int .i64 (st s j : Nat))) := fun W h j hj => by
    have h1 := (h.cell (p := ⟨g, 0 + j, none⟩) hgl).trans (hcc j hj)
    rwa [asI_at, Nat.zero_add] at h1
  have hA := heap2 w (.cells #[.int .u64 0, .int .u64 0, .int .i64 0] 67) (.cells #[.int .u64 0, .int .u64 0, .int .i64 (p : Int)] 67)
  have hBA := below2 w (.cells #[.int .u64 0, .int .u64 0, .int .i64 0] 67) (.cells #[.int .u64 0, .int .u64 0, .int .i64 (p : Int)] 67)
  go_enter Try.func34, Try.ntmps34
  go_upto_region 2 with fail
  obtain ⟨W0, hW0⟩ : ∃ W0 : World, W0 = (w.alloc (.cells #[.int .u64 0, .int .u64 0, .int .i64 0] 67)).alloc (.cells #[.int .u64 0, .int .u64 0, .int .i64 (p : Int)] 67) := ⟨_, rfl⟩
  rw [← hW0] at hA hBA ⊢
  obtain ⟨hA1, hA2⟩ := hA
  have d2 := (World.cell?_of_block (a := ⟨Sb, 2, none⟩) (hBA.block _ hSl)).trans (wcell (cs := [_, _, _, _]) hS 2)
  simp only [List.getElem?_cons_zero, List.getElem?_cons_succ] at d2
  replace hW0 := Lib.hid hW0; replace hA1 := Lib.hid hA1; replace hA2 := Lib.hid hA2; replace hBA := Lib.hid hBA; replace hs := Lib.hid hs; replace hS := Lib.hid hS
  clear hx hcc
  go_wp2_with fail
  go_loopg [16] N (fun gk iv W' => ∃ j : Nat, j ≤ N ∧ gk = N - j ∧ iv = .int .i64 (j : Int) ∧ Hid (W'.heap[w.heap.size + 1]? = some (.cells #[.int .u64 (mskU 1 s j : Nat), .int .u64 (mskU 2 s j : Nat), .int .i64 (p : Int)] 67 (0, 0))) ∧ Hid (W'.heap[w.heap.size]? = some (.cells #[.int .u64 0, .int .u64 0, .int .i64 0] 67 (0, 0))) ∧ Hid (Below w.heap.size w W'))
  case atStart => exact ⟨0, Nat.zero_le _, rfl, rfl, hA2.out, hA1.out, hBA.out⟩
  case round =>
    clear d2 hA1 hA2 hBA
    obtain ⟨j, hj, hgk, rfl, hb1, hb2, hB⟩ := hrel
    obtain ⟨W1, rfl⟩ : ∃ W1 : World, W1 = wr := ⟨_, rfl⟩
    replace hgk := Lib.hid hgk
    by_cases hlt : j < N
    · have c0 := hcell.out W1 hB.out j hlt
      have e0 := wcell (cs := [_, _, _]) hb1.out 0
      have e1 := wcell (cs := [_, _, _]) hb1.out 1
      have f0 := wfree hb1.out 0
      have f1 := wfree hb1.out 1
      simp only [List.getElem?_cons_zero, List.getElem?_cons_succ] at e0 e1
      have ha := and63 j (by omega)
      have hbl : j % 64 < 64 := Nat.mod_lt _ (by omega)
      have m1 : Hid (mskU 1 s (j + 1) = if st s j = 1 then mskU 1 s j ||| 2 ^ (j % 64) else mskU 1 s j) := rfl
      have m2 : Hid (mskU 2 s (j + 1) = if st s j = 2 then mskU 2 s j ||| 2 ^ (j % 64) else mskU 2 s j) := rfl
      have o1 := Lib.hid (or_msk (mskU_lt 1 s j) hbl)
      have o2 := Lib.hid (or_msk (mskU_lt 2 s j) hbl)
      have hx2 := hs.out j
      generalize st s j = x at *
      obtain ⟨b, hb⟩ : ∃ b, b = j % 64 := ⟨_, rfl⟩
      rw [← hb] at ha hbl o1 o2
      have m1' := m1; have m2' := m2
      rw [← hb] at m1' m2'
      replace hb := Lib.hid hb
      clear m1 m2
      have hgk' := hgk
      rcases (show x = 0 ∨ x = 1 ∨ x = 2 by omega) with rfl | rfl | rfl
      · have k1 : Hid (mskU 1 s (j + 1) = mskU 1 s j) := m1'.out
        have k2 : Hid (mskU 2 s (j + 1) = mskU 2 s j) := m2'.out
        clear m1' m2' o1 o2
        go_wp2_with fail
        have hgk := hgk.out
        go_roundg (N - (j + 1))
        case measure => omega
        case rel => exact ⟨j + 1, by omega, rfl, by go_num, by rw [k1.out, k2.out]; exact hb1, hb2, hB⟩
      · have k1 : Hid (mskU 1 s (j + 1) = mskU 1 s j ||| 2 ^ b) := m1'.out
        have k2 : Hid (mskU 2 s (j + 1) = mskU 2 s j) := m2'.out
        clear m1' m2'
        go_wp2_with fail
        go_region
        rw [o1.out]
        go_wp2_with fail
        have hset := wset3 hb1.out (.int .u64 ((mskU 1 s j ||| 2 ^ b : Nat) : Int))
        have hgk := hgk.out
        go_roundg (N - (j + 1))
        case measure => omega
        case rel => exact ⟨j + 1, by omega, rfl, by go_num, by rw [k1.out, k2.out]; exact hset.1, (Below.heap_setCell _ ⟨w.heap.size + 1, 0, none⟩ _ _ (by show w.heap.size ≠ w.heap.size + 1; omega)).trans hb2.out, (hB.out.setCell (p := ⟨w.heap.size + 1, 0, none⟩) (Nat.le_succ _) _).drew⟩
      · have k1 : Hid (mskU 1 s (j + 1) = mskU 1 s j) := m1'.out
        have k2 : Hid (mskU 2 s (j + 1) = mskU 2 s j ||| 2 ^ b) := m2'.out
        clear m1' m2'
        go_wp2_with fail
        go_region
        rw [o2.out]
        go_wp2_with fail
        have hset := wset3 hb1.out (.int .u64 ((mskU 2 s j ||| 2 ^ b : Nat) : Int))
        have hgk := hgk.out
        go_roundg (N - (j + 1))
        case measure => omega
        case rel => exact ⟨j + 1, by omega, rfl, by go_num, by rw [k1.out, k2.out]; exact hset.2, (Below.heap_setCell _ ⟨w.heap.size + 1, 1, none⟩ _ _ (by show w.heap.size ≠ w.heap.size + 1; omega)).trans hb2.out, (hB.out.setCell (p := ⟨w.heap.size + 1, 1, none⟩) (Nat.le_succ _) _).drew⟩
    · obtain rfl : j = N := by omega
      have e0 := wcell (cs := [_, _, _]) hb1.out 0
      have e1 := wcell (cs := [_, _, _]) hb1.out 1
      have e2 := wcell (cs := [_, _, _]) hb1.out 2
      have a0 := wcell (cs := [_, _, _]) hb2.out 0
      have a1 := wcell (cs := [_, _, _]) hb2.out 1
      have a2 := wcell (cs := [_, _, _]) hb2.out 2
      have g0 := wfree hb2.out 0
      have g1 := wfree hb2.out 1
      have g2 := wfree hb2.out 2
      simp only [List.getElem?_cons_zero, List.getElem?_cons_succ] at e0 e1 e2 a0 a1 a2
      go_wp2_with fail
      have t0 := wset (wset (wset hb2.out 0 (.int .u64 (mskU 1 s j : Nat))) 1 (.int .u64 (mskU 2 s j : Nat))) 2 (.int .i64 (p : Int))
      have u0 := Lib.hid (wcell (cs := [.int .u64 (mskU 1 s j : Nat), .int .u64 (mskU 2 s j : Nat), .int .i64 (p : Int)]) t0 0)
      have u1 := Lib.hid (wcell (cs := [.int .u64 (mskU 1 s j : Nat), .int .u64 (mskU 2 s j : Nat), .int .i64 (p : Int)]) t0 1)
      have u2 := Lib.hid (wcell (cs := [.int .u64 (mskU 1 s j : Nat), .int .u64 (mskU 2 s j : Nat), .int .i64 (p : Int)]) t0 2)
      have hB3 := ((hB.out.setCell (p := ⟨w.heap.size, 0, none⟩) (Nat.le_refl _) (.int .u64 (mskU 1 s j : Nat))).setCell (p := ⟨w.heap.size, 1, none⟩) (Nat.le_refl _) (.int .u64 (mskU 2 s j : Nat))).setCell (p := ⟨w.heap.size, 2, none⟩) (Nat.le_refl _) (.int .i64 (p : Int))
      refine bodyPost_ret (v := .agg #[.int .u64 (mskU 1 s j : Nat), .int .u64 (mskU 2 s j : Nat), .int .i64 (p : Int)]) (by simp [results, Try.results34, go_sem, u0.out, u1.out, u2.out]) rfl ⟨rfl, hB3⟩
end Go.Proofs.Ytcibkchfdiijfaa
