/- What slide.Least tells: how far all stones are from their places; conditions: two by three places or three by two. -/
import Derived.Test.YtkakggagaplaiaaShP
import Derived.Test.YtkakggagaplaiaaSlV
namespace Go.Proofs.Ytkakggagaplaiaa
open Go.RowKit

theorem dsS_max (x y : Nat) : max ((x : Int) - (y : Int)) (-((x : Int) - (y : Int))) = ((dsS x y : Nat) : Int) := by
  unfold dsS; omega
theorem lsS_le (a : Nat) (l : List Nat) (ha : 1 ≤ a) (hl : ∀ i, st l i < 6) : ∀ i, i ≤ 6 → lsS a l i ≤ i * 24
  | 0, _ => by simp [lsS]
  | i + 1, h => by
    have ih := lsS_le a l ha hl i (by omega)
    have h1 := hl i
    have b1 : i % a ≤ i := Nat.mod_le _ _
    have b2 : (st l i - 1) % a ≤ st l i - 1 := Nat.mod_le _ _
    have b3 : i / a ≤ i := Nat.div_le_self _ _
    have b4 : (st l i - 1) / a ≤ st l i - 1 := Nat.div_le_self _ _
    rw [lsS]
    unfold dsS
    generalize i % a = x1 at *
    generalize (st l i - 1) % a = x2 at *
    generalize i / a = x3 at *
    generalize (st l i - 1) / a = x4 at *
    split <;> omega
set_option maxRecDepth 100000 in
set_option maxHeartbeats 4000000 in
theorem least_any (a b c : Nat) (p : Option Addr) (l : List Nat) (w : World) (ha : 2 ≤ a) (ha3 : a ≤ 3) (hb : 2 ≤ b) (hb3 : b ≤ 3) (hab : Hid (6 = a * b)) (hx : IntsIn w p 6 (asI l)) (hl : IsOrd 6 l) :
    Calls Try.prog 29 #[.agg #[.int .i64 a, .int .i64 b, .slice p 6 c]] w fun e w' => e = .returned (.tuple #[.int .i64 (lsS a l 6 : Nat), .int .i64 0]) ∧ Below w.heap.size w w' := by
  have HM := Lib.hid (fun W (h : Below w.heap.size w W) => may_any a b 6 c p l W ha ha3 hb hb3 hab (hx.below h) hl)
  have hst : Hid (∀ i, st l i < 6) := fun i => by
    by_cases h : i < l.length
    · exact hl.lt (st_mem h)
    · unfold st; rw [List.getElem?_eq_none (by omega)]; exact Nat.zero_lt_succ _
  go_enter Try.func29, Try.ntmps29
  go_upto_region 1 with fail
  generalize hW : w.alloc (Obj.cells _ 39) = W0
  have h0 : W0.heap[w.heap.size]? = some (.cells #[.int .i64 (a : Int), .int .i64 (b : Int), .slice p 6 c] 39 (0, 0)) := by rw [← hW]; exact heap_alloc_new w _
  have hB0 : Below w.heap.size w W0 := by rw [← hW]; exact (Below.refl _ w).alloc (Nat.le_refl _) _
  clear hW
  have k0 : W0.cell? ⟨w.heap.size, 0, none⟩ = some (.int .i64 (a : Int)) := wcell (cs := [_, _, _]) h0 0
  have k1 : W0.cell? ⟨w.heap.size, 1, none⟩ = some (.int .i64 (b : Int)) := wcell (cs := [_, _, _]) h0 1
  have k2 : W0.cell? ⟨w.heap.size, 2, none⟩ = some (.slice p 6 c) := wcell (cs := [_, _, _]) h0 2
  have HM2 := Lib.hid (HM.out W0 hB0)
  have hsz := lt_of_heap h0
  clear HM
  go_wp2_with fail
  refine HM2.out.mono ?_
  rintro e W1 ⟨rfl, hb1⟩
  have m0 : W1.cell? ⟨w.heap.size, 0, none⟩ = some (.int .i64 (a : Int)) := (hb1.cell (p := ⟨w.heap.size, 0, none⟩) hsz).trans k0
  have m2 : W1.cell? ⟨w.heap.size, 2, none⟩ = some (.slice p 6 c) := (hb1.cell (p := ⟨w.heap.size, 2, none⟩) hsz).trans k2
  have hB1 := hB0.trans (hb1.mono hB0.size)
  obtain ⟨pb, po, rfl, hpb, hpc⟩ := (hx.below hB1).at (by omega)
  have hcl : Hid (∀ i, i < 6 → W1.cell? ⟨pb, po + i, none⟩ = some (.int .i64 (st l i : Nat))) := fun i hi => by
    have := hpc i hi; rwa [asI_at] at this
  have hle : Hid (∀ i, i ≤ 6 → lsS a l i ≤ i * 24) := fun i hi => lsS_le a l (by omega) hst.out i hi
  replace hB1 := Lib.hid hB1
  clear HM2 k0 k1 k2 h0 hB0 hb1 hpc hx
  go_wp2_with fail
  go_loopg [4, 15] 6 (fun gk nv iv W' => ∃ i : Nat, i ≤ 6 ∧ gk = 6 - i ∧ iv = .int .i64 i ∧ nv = .int .i64 (lsS a l i : Nat) ∧ ∃ r, W' = W1.drewN r)
  case atStart => exact ⟨0, by omega, by omega, rfl, rfl, 0, rfl⟩
  case round =>
    obtain ⟨i, hi, hgk, rfl, rfl, r, rfl⟩ := hrel
    replace hgk := Lib.hid hgk
    by_cases hlt : i < 6
    · have ci := hcl.out i hlt
      have hs6 := hst.out i
      have hb24 := hle.out i (by omega)
      have hls : Hid (lsS a l (i + 1) = lsS a l i + if 0 < st l i then dsS (i % a) ((st l i - 1) % a) + dsS (i / a) ((st l i - 1) / a) else 0) := rfl
      generalize lsS a l i = n at *
      generalize st l i = s at *
      by_cases h0 : 0 < s
      · have d1 : decide ((0 : Int) < (s : Int)) = true := decide_eq_true (by omega)
        obtain ⟨s1, hs1⟩ : ∃ s1, s1 = s - 1 := ⟨_, rfl⟩
        have e1 : (s : Int) - 1 = (s1 : Int) := by omega
        obtain ⟨u, hu⟩ : ∃ u, u = i % a := ⟨_, rfl⟩
        obtain ⟨v, hv⟩ : ∃ v, v = s1 % a := ⟨_, rfl⟩
        obtain ⟨y, hy⟩ : ∃ y, y = i / a := ⟨_, rfl⟩
        obtain ⟨z, hz⟩ : ∃ z, z = s1 / a := ⟨_, rfl⟩
        have t1' : (i : Int) % (a : Int) = (u : Int) := by rw [hu]; push_cast; rfl
        have t1 : (i : Int).tmod (a : Int) = (u : Int) := by rw [Int.tmod_eq_emod_of_nonneg (by omega)]; exact t1'
        have t2' : (s1 : Int) % (a : Int) = (v : Int) := by rw [hv]; push_cast; rfl
        have t2 : (s1 : Int).tmod (a : Int) = (v : Int) := by rw [Int.tmod_eq_emod_of_nonneg (by omega)]; exact t2'
        have t3' : (i : Int) / (a : Int) = (y : Int) := by rw [hy]; push_cast; rfl
        have t3 : (i : Int).tdiv (a : Int) = (y : Int) := by rw [Int.tdiv_eq_ediv_of_nonneg (by omega)]; exact t3'
        have t4' : (s1 : Int) / (a : Int) = (z : Int) := by rw [hz]; push_cast; rfl
        have t4 : (s1 : Int).tdiv (a : Int) = (z : Int) := by rw [Int.tdiv_eq_ediv_of_nonneg (by omega)]; exact t4'
        have hu6 : u ≤ 6 := by rw [hu]; exact Nat.le_trans (Nat.mod_le _ _) (by omega)
        have hv6 : v ≤ 6 := by rw [hv]; exact Nat.le_trans (Nat.mod_le _ _) (by omega)
        have hy6 : y ≤ 6 := by rw [hy]; exact Nat.le_trans (Nat.div_le_self _ _) (by omega)
        have hz6 : z ≤ 6 := by rw [hz]; exact Nat.le_trans (Nat.div_le_self _ _) (by omega)
        have a0 : ¬ (a : Int) = 0 := by omega
        rw [if_pos h0, ← hs1, ← hu, ← hv, ← hy, ← hz] at hls
        replace hs1 := Lib.hid hs1; replace hu := Lib.hid hu; replace hv := Lib.hid hv; replace hy := Lib.hid hy; replace hz := Lib.hid hz
        go_wp2_with fail
        go_quiet (fail)
        go_wp2_with fail
        have hgk := hgk.out
        go_roundg (6 - (i + 1))
        case measure => omega
        case rel => exact ⟨i + 1, by omega, rfl, by go_num, by rw [hls.out]; push_cast; rw [← dsS_max, ← dsS_max], r + nq, rfl⟩
      · obtain rfl : s = 0 := by omega
        go_wp2_with fail
        have hgk := hgk.out
        go_roundg (6 - (i + 1))
        case measure => omega
        case rel => exact ⟨i + 1, by omega, rfl, by go_num, by rw [hls.out]; rfl, r, rfl⟩
    · obtain rfl : i = 6 := by omega
      go_wp2_with fail
      go_ret2
      exact ⟨rfl, below_drewN hB1.out r⟩
end Go.Proofs.Ytkakggagaplaiaa
