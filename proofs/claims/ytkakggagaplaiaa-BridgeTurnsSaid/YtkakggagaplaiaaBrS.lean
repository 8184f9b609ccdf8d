/- The mask of a deal and what bridge's table.state computes of one; conditions: 52 cards. -/
import Derived.Test.YtkakggagaplaiaaBrC
import Derived.Lib.EndianBits
namespace Go.Proofs.Ytkakggagaplaiaa
open Go.RowKit

/-- the cards that are there yet, as bits. -/
def msk (d : List Nat) : Nat → Nat
  | 0 => 0
  | i + 1 => msk d i + if st d i < 4 then 2 ^ i else 0
theorem msk_lt (d : List Nat) : ∀ i, msk d i < 2 ^ i
  | 0 => by simp [msk]
  | i + 1 => by have := msk_lt d i; rw [msk, Nat.pow_succ]; split <;> omega
theorem msk_eq {d d' : List Nat} : ∀ i, msk d i = msk d' i → ∀ c, c < i → (st d c < 4 ↔ st d' c < 4)
  | 0, _, c, hc => absurd hc (by omega)
  | i + 1, h, c, hc => by
    have h1 := msk_lt d i
    have h2 := msk_lt d' i
    rw [msk, msk] at h
    by_cases e : c = i
    · subst e
      by_cases a : st d c < 4 <;> by_cases b : st d' c < 4
      · simp [a, b]
      · rw [if_pos a, if_neg b] at h; omega
      · rw [if_neg a, if_pos b] at h; omega
      · simp [a, b]
    · refine msk_eq i ?_ c (by omega)
      (repeat' split at h) <;> omega
theorem msk_zero {d : List Nat} : ∀ i, msk d i = 0 → ∀ c, c < i → ¬ st d c < 4
  | 0, _, c, hc => absurd hc (by omega)
  | i + 1, h, c, hc => by
    rw [msk] at h
    have h3 : 0 < 2 ^ i := Nat.pow_pos (by omega)
    by_cases e : c = i
    · subst e; intro a; rw [if_pos a] at h; omega
    · exact msk_zero i (by omega) c (by omega)
theorem or_pow {m i : Nat} (h : m < 2 ^ i) : m ||| 2 ^ i = m + 2 ^ i := by
  have := Nat.two_pow_add_eq_or_of_lt h 1
  rw [Nat.mul_one] at this
  rw [Nat.or_comm, ← this, Nat.add_comm]
theorem two_cell {W : World} {b : Nat} {u v : Value} {t : TypeId} (h : W.heap[b]? = some (.cells #[u, v] t)) (x : Value) : (W.setCell ⟨b, 0, none⟩ x).heap[b]? = some (.cells #[x, v] t) := by
  simp [World.setCell, Array.getElem?_modify, h]
theorem bits_msk {m i : Nat} (h : m < 2 ^ i) (hi : i < 52) : bits .or .u64 (m : Int) (IntKind.u64.wrap (2 ^ i)) = ((m + 2 ^ i : Nat) : Int) := by
  have h1 : 2 ^ i < 2 ^ 52 := Nat.pow_lt_pow_right (by omega) hi
  have h2 : ((2 ^ i : Nat) : Int) = (2 : Int) ^ i := by push_cast; rfl
  rw [wraps_u64 _ (by omega) (by omega)]
  rw [bits_join_low .u64 63 (by decide) (fun n a b => wraps_u64 n a (by omega)) i (m : Int) (2 ^ i) (by omega) (by omega) (by omega) (by omega) (by simp) (by omega)]
  push_cast; rfl
set_option maxHeartbeats 2000000 in
theorem state_any (t : Option Addr) (db ld : Nat) (d : List Nat) (w : World) (hd : Nums w db 82 (asI d)) (hl : d.length = 52) (h5 : ∀ c, c < 52 → st d c ≤ 4) :
    Calls Try.prog 69 #[.pointer t, .pointer (some ⟨db, 0, none⟩), .int .i64 ld] w fun e w' => e = .returned (.agg #[.int .u64 (msk d 52 : Nat), .int .i64 ld]) ∧ Below w.heap.size w w' := by
  have hdl := hd.lt
  have hcell : Hid (∀ W, Below w.heap.size w W → ∀ c, c < 52 → W.cell? ⟨db, c, none⟩ = some (.int .i64 (st d c : Nat))) := fun W h c hc => (h.cell (p := ⟨db, c, none⟩) hdl).trans (hd.cellN (by omega))
  obtain ⟨w1, hw1⟩ : ∃ w1, w1 = w.alloc (Obj.cells #[Value.int IntKind.u64 0, .int .i64 0] 110) := ⟨_, rfl⟩
  have hs1 : w1.heap.size = w.heap.size + 1 := by rw [hw1]; simp
  have hB1 : Below w.heap.size w w1 := by rw [hw1]; exact (Below.refl w.heap.size w).alloc (Nat.le_refl _) _
  have hf1 : w1.heap[w.heap.size]? = some (Obj.cells #[Value.int IntKind.u64 0, .int .i64 0] 110) := by rw [hw1]; exact heap_alloc_new w _
  have hf2 : (w1.alloc (Obj.cells #[Value.int IntKind.u64 0, .int .i64 ld] 110)).heap[w.heap.size + 1]? = some (Obj.cells #[Value.int IntKind.u64 (msk d 0 : Nat), .int .i64 ld] 110) := by rw [← hs1]; exact heap_alloc_new w1 _
  have hf3 : (w1.alloc (Obj.cells #[Value.int IntKind.u64 0, .int .i64 ld] 110)).heap[w.heap.size]? = some (Obj.cells #[Value.int IntKind.u64 0, .int .i64 0] 110) := by rw [Below.heap_alloc _ _ _ (by omega)]; exact hf1
  have hB2 := hB1.trans ((Below.refl w1.heap.size w1).alloc (Nat.le_refl _) (Obj.cells #[Value.int IntKind.u64 0, .int .i64 ld] 110) |>.mono (by omega))
  go_enter Try.func69, Try.ntmps69
  go_upto_region 2 with fail
  rw [← hw1]
  generalize w1.alloc (Obj.cells #[Value.int IntKind.u64 0, .int .i64 ld] 110) = W0 at *
  replace hf2 := Lib.hid hf2; replace hf3 := Lib.hid hf3; replace hB2 := Lib.hid hB2; replace h5 := Lib.hid h5
  clear hf1 hw1 hB1 hs1 hd w1
  go_wp2_with fail
  go_loopg [13] 52 (fun gk iv W' => ∃ j : Nat, j ≤ 52 ∧ gk = 52 - j ∧ iv = .int .i64 j ∧ W'.heap[w.heap.size + 1]? = some (Obj.cells #[Value.int IntKind.u64 (msk d j : Nat), .int .i64 ld] 110) ∧ W'.heap[w.heap.size]? = some (Obj.cells #[Value.int IntKind.u64 0, .int .i64 0] 110) ∧ Below w.heap.size w W')
  case atStart => exact ⟨0, by omega, by omega, rfl, hf2.out, hf3.out, hB2.out⟩
  case round =>
    obtain ⟨j, hj, hgk, rfl, hb1, hb2, hB⟩ := hrel
    obtain ⟨W1, rfl⟩ : ∃ W1 : World, W1 = wr := ⟨_, rfl⟩
    replace hgk := Lib.hid hgk
    by_cases hlt : j < 52
    · have c0 := hcell.out W1 hB j hlt
      have hm := msk_lt d j
      have hms : Hid (msk d (j + 1) = msk d j + if st d j < 4 then 2 ^ j else 0) := rfl
      have i1 : (j : Int) < 52 := by omega
      have i2 : (0 : Int) ≤ (j : Int) := by omega
      have e0 : W1.cell? ⟨w.heap.size + 1, 0, none⟩ = some (Value.int .u64 (msk d j : Nat)) := wcell (cs := [_, _]) hb1 0
      replace hb1 := Lib.hid hb1; replace hb2 := Lib.hid hb2; replace hB := Lib.hid hB
      generalize st d j = x at *
      have f0 : W1.frozen? ⟨w.heap.size + 1, 0, none⟩ = false := by simp [World.frozen?, hb1.out]
      by_cases hx : x < 4
      · have hm2 := Lib.hid (bits_msk hm hlt)
        rw [if_pos hx] at hms
        go_wp2_with fail
        go_quiet (fail)
        go_wp2_with fail
        go_region
        rw [hm2.out, ← hms.out]
        go_wp2_with fail
        have hgk := hgk.out
        go_roundg (52 - (j + 1))
        case measure => omega
        case rel => exact ⟨j + 1, by omega, rfl, by go_num, two_cell hb1.out _, (Below.heap_setCell _ ⟨w.heap.size + 1, 0, none⟩ _ _ (by show w.heap.size ≠ w.heap.size + 1; omega)).trans hb2.out, (below_drewN hB.out _).setCell (p := ⟨w.heap.size + 1, 0, none⟩) (Nat.le_succ _) _⟩
      · rw [if_neg hx, Nat.add_zero] at hms
        go_wp2_with fail
        go_quiet (fail)
        go_wp2_with fail
        have hgk := hgk.out
        go_roundg (52 - (j + 1))
        case measure => omega
        case rel => exact ⟨j + 1, by omega, rfl, by go_num, by rw [hms.out]; exact hb1.out, hb2.out, below_drewN hB.out _⟩
    · obtain rfl : j = 52 := by omega
      have e0 : W1.cell? ⟨w.heap.size + 1, 0, none⟩ = some (Value.int .u64 (msk d 52 : Nat)) := wcell (cs := [_, _]) hb1 0
      have e1 : W1.cell? ⟨w.heap.size + 1, 1, none⟩ = some (Value.int .i64 ld) := wcell (cs := [_, _]) hb1 1
      have a0 : W1.cell? ⟨w.heap.size, 0, none⟩ = some (Value.int .u64 0) := wcell (cs := [_, _]) hb2 0
      have a1 : W1.cell? ⟨w.heap.size, 1, none⟩ = some (Value.int .i64 0) := wcell (cs := [_, _]) hb2 1
      have f0 : ∀ i, W1.frozen? ⟨w.heap.size, i, none⟩ = false := fun i => by simp [World.frozen?, hb2]
      have f1 := f0 0
      have f2 := f0 1
      go_wp2_with fail
      have t0 := wset (wset hb2 0 (Value.int .u64 (msk d 52 : Nat))) 1 (Value.int .i64 ld)
      have u0 := Lib.hid (wcell (cs := [Value.int .u64 (msk d 52 : Nat), Value.int .i64 ld]) t0 0)
      have u1 := Lib.hid (wcell (cs := [Value.int .u64 (msk d 52 : Nat), Value.int .i64 ld]) t0 1)
      have hB3 := (hB.setCell (p := ⟨w.heap.size, 0, none⟩) (Nat.le_refl _) (Value.int .u64 (msk d 52 : Nat))).setCell (p := ⟨w.heap.size, 1, none⟩) (Nat.le_refl _) (Value.int .i64 ld)
      refine bodyPost_ret (v := .agg #[.int .u64 (msk d 52 : Nat), .int .i64 ld]) (by simp [results, Try.results69, go_sem, u0.out, u1.out]) rfl ⟨rfl, hB3⟩
end Go.Proofs.Ytkakggagaplaiaa
