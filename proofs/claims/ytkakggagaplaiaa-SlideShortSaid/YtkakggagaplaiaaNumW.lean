/- What deck.Number computes of an order; conditions: 1 to 12 things. -/
import Derived.Test.YtkakggagaplaiaaOrdW
namespace Go.Proofs.Ytkakggagaplaiaa
open Go.RowKit

theorem ix_lt {L : List Nat} {x : Nat} (h : x ∈ L) : ixN L x < L.length := List.idxOf_lt_length_of_mem h
theorem ix_st {L : List Nat} {x : Nat} (h : x ∈ L) : st L (ixN L x) = x := by
  have := ix_lt h
  unfold st
  rw [List.getElem?_eq_getElem this]
  exact List.getElem_idxOf this
theorem ix_no : ∀ {L : List Nat} {x j : Nat}, j < ixN L x → st L j ≠ x
  | [], x, j, h => by simp [ixN] at h
  | y :: ys, x, j, h => by
    unfold ixN at h
    rw [List.idxOf_cons] at h
    by_cases e : y == x
    · rw [e] at h; simp at h
    · have e' : (y == x) = false := by simpa using e
      rw [e'] at h
      simp only [cond_false] at h
      cases j with
      | zero => simpa [st] using e
      | succ j =>
        have := ix_no (L := ys) (x := x) (j := j) (by unfold ixN; omega)
        simpa [st] using this
theorem index_any (g c m : Nat) (L : List Nat) (x : Nat) (w : World) (hm : m ≤ 1000000) (hx : IntsIn w (some ⟨g, 0, none⟩) m (asI L)) (h : x ∈ L) :
    Calls Try.prog 42 #[.slice (some ⟨g, 0, none⟩) m c, .int .i64 (x : Nat)] w fun e w' => e = .returned (.int .i64 (ixN L x : Nat)) ∧ w = w' := by
  have hl := hx.len
  rw [asI_len] at hl
  have hi := ix_lt h
  obtain ⟨b, o, e, _, hc⟩ := hx.cells (by omega)
  cases e
  refine (Sh.slices_Index_int g 0 m c (asI L) x w (by rw [asI_len]; omega) (by omega) hc).mono fun e w' ⟨h1, h2⟩ => ⟨?_, h2.symm⟩
  rw [h1, Lib.idxOf_hit (asI L) m (ixN L x) x (by omega) (by rw [asI_len]; omega) (by rw [List.getD_eq_getElem?_getD, asI_at, ix_st h]) fun j hj => by
    rw [List.getD_eq_getElem?_getD, asI_at]
    have := ix_no hj
    omega]
theorem drop_atN (l : List Nat) (k : Nat) (h : k < l.length) : l.drop k = st l k :: l.drop (k + 1) := by
  rw [List.drop_eq_getElem_cons h]; unfold st; simp [h]
set_option maxRecDepth 20000 in
set_option maxHeartbeats 4000000 in
theorem number_any (p : Option Addr) (n c : Nat) (l : List Nat) (w : World) (hn1 : 1 ≤ n) (hn : n ≤ 12) (hx : IntsIn w p n (asI l)) (hl : IsOrd n l) :
    Calls Try.prog 18 #[.slice p n c] w fun e w' => e = .returned (.tuple #[.int .i64 (numL (List.range n) 0 l : Nat), .int .i64 0]) ∧ Below w.heap.size w w' := by
  have HO := Lib.hid (order_any p n c l w (by omega) hx hl)
  have g1 : decide ((12 : Int) < n) = false := decide_eq_false (by omega)
  replace hx := Lib.hid hx
  go_enter Try.func18, Try.ntmps18
  go_wp2_with fail
  refine HO.out.mono ?_
  rintro e w1 ⟨rfl, hB1⟩
  have HI := Lib.hid (iota_any n w1 (by omega))
  replace hB1 := Lib.hid hB1
  clear HO
  go_wp2_with fail
  refine HI.out.mono ?_
  rintro e w2 ⟨g, rfl, hO, hB2⟩
  have hB3 := Lib.hid (hB1.out.trans (hB2.mono hB1.out.size))
  replace hO := Lib.hid hO
  have hw12 := Lib.hid hB1.out.size
  clear hB2 HI hB1
  have hpl : Hid ((l.drop 0).Perm (List.range n)) := by show List.Perm _ _; rw [List.drop_zero]; exact hl
  have hll : Hid (l.length = n) := hl.len
  replace hl := Lib.hid hl
  go_wp2_with fail
  obtain ⟨B1, hB1e⟩ : ∃ B1, B1 = w1.heap.size := ⟨_, rfl⟩
  rw [← hB1e] at hO hw12
  go_loopg [4, 5, 22] n (fun gk lv kv iv W' => ∃ (j m acc cl : Nat) (L : List Nat), j + m = n ∧ gk = n - j ∧ iv = .int .i64 j ∧ kv = .int .i64 acc ∧ lv = .slice (some ⟨g, 0, none⟩) m cl ∧ Own 3 B1 W' (some ⟨g, 0, none⟩) m cl (asI L) ∧ acc < 12 ^ j ∧ (l.drop j).Perm L ∧ Hid (numL (List.range n) 0 l = numL L acc (l.drop j)) ∧ Below w.heap.size w W')
  case atStart => exact ⟨0, n, 0, n, List.range n, by omega, by omega, rfl, rfl, rfl, hO.out, by simp, hpl.out, Lib.hid (by simp), hB3.out⟩
  case round =>
    obtain ⟨j, m, acc, cl, L, hjm, hgk, rfl, rfl, rfl, hL, hac, hp, hsp, hB⟩ := hrel
    obtain ⟨W1, rfl⟩ : ∃ W1 : World, W1 = wr := ⟨_, rfl⟩
    replace hgk := Lib.hid hgk
    clear hO hpl hB3
    have hlL := hL.len
    rw [asI_len] at hlL
    by_cases hlt : j < n
    · obtain ⟨b, o, rfl, _, hc⟩ := (hx.out.below hB).at (by omega)
      have c0 : W1.cell? ⟨b, o + j, none⟩ = some (.int .i64 (st l j : Nat)) := by rw [hc j hlt, asI_at]
      have hd := drop_atN l j (by rw [hll.out]; exact hlt)
      rw [hd] at hp hsp
      have hxL : st l j ∈ L := hp.mem_iff.1 (by simp)
      have hix := ix_lt hxL
      have hist := ix_st hxL
      have HX := Lib.hid (index_any g cl m L (st l j) W1 (by omega) hL.in hxL)
      have HD := Lib.hid (fun i1 h => del_own B1 g m cl (ixN L (st l j)) (asI L) W1 (by omega) (by omega) hL i1 h)
      have hp2 : Hid ((l.drop (j + 1)).Perm (L.eraseIdx (ixN L (st l j)))) := by
        have h1 := cons_erase L _ hix
        have h2 : L[ixN L (st l j)] = st l j := List.getElem_idxOf hix
        rw [h2] at h1
        exact (hp.trans h1.symm).cons_inv
      have hsp2 : Hid (numL (List.range n) 0 l = numL (L.eraseIdx (ixN L (st l j))) (acc * m + ixN L (st l j)) (l.drop (j + 1))) := by
        show _ = _; rw [hsp.out, numL, hlL]
      have hL0 := Lib.hid hL
      clear hc hp hsp hxL hist hd
      generalize st l j = x at *
      generalize ixN L x = i at *
      have hb1 : (12 : Nat) ^ j ≤ 12 ^ 12 := Nat.pow_le_pow_right (by omega) (by omega)
      have hb2 : acc * m ≤ acc * 12 := Nat.mul_le_mul_left acc (by omega)
      have hac2 : acc * m + i < 12 ^ (j + 1) := by
        rw [Nat.pow_succ]
        have : acc * 12 + 12 ≤ 12 ^ j * 12 := by
          have := Nat.mul_le_mul_right 12 (show acc + 1 ≤ 12 ^ j by omega)
          omega
        omega
      have hb3 : acc * m + i < 8916100448256 * 12 := by
        have : acc * 12 < 12 ^ 12 * 12 := by omega
        omega
      obtain ⟨am, ham⟩ : ∃ am, acc * m = am := ⟨_, rfl⟩
      rw [ham] at hac2 hb3 hsp2
      have hmI : (acc : Int) * (m : Int) = (am : Int) := by rw [← ham]; push_cast; rfl
      have hacb : acc < 8916100448256 := by omega
      have wI : IntKind.i64.wrap (am : Int) = am := IntWalk.i64_in _ (by omega)
      have wI2 : IntKind.i64.wrap ((am : Int) + (i : Int)) = (am : Int) + (i : Int) := IntWalk.i64_in _ (by omega)
      replace ham := Lib.hid ham; replace hac2 := Lib.hid hac2; replace hac := Lib.hid hac; replace hb1 := Lib.hid hb1; replace hb2 := Lib.hid hb2
      have hgB := Lib.hid ((OwnC.block (k := 1) hL _ rfl))
      have hB0 := Lib.hid hB
      clear hL hB
      go_wp2_with fail
      refine HX.out.mono ?_
      rintro e w' ⟨rfl, rfl⟩
      go_wp2_with fail
      refine (HD.out _ (Lib.hid (by push_cast; rfl))).mono ?_
      rintro e w3 ⟨rfl, hL3, hg3⟩
      have hL4 : Hid (Own 3 B1 w3 (some ⟨g, 0, none⟩) (m - 1) cl (asI (L.eraseIdx i))) := by
        have : (asI L).eraseIdx i = asI (L.eraseIdx i) := by unfold asI; rw [List.eraseIdx_eq_take_drop_succ, List.eraseIdx_eq_take_drop_succ, List.map_append, List.map_take, List.map_drop]
        rw [this] at hL3
        exact hL3
      have hB4 := Lib.hid (hB0.out.grown hg3 hB0.out.size fun x e => by cases e; exact Nat.le_trans hw12.out hgB.out.1)
      clear hL3 hg3 HD HX hL0 hB0
      go_wp2_with fail
      have hgk := hgk.out
      go_roundg (n - (j + 1))
      case measure => omega
      case rel => exact ⟨j + 1, m - 1, am + i, cl, L.eraseIdx i, by omega, rfl, by go_num, by go_num, rfl, hL4.out, hac2.out, hp2.out, hsp2, hB4.out⟩
    · obtain rfl : j = n := by omega
      have hfin : Hid (numL (List.range j) 0 l = acc) := by
        show _ = _; rw [hsp.out, List.drop_of_length_le (by rw [hll.out]; exact Nat.le_refl _)]; rfl
      replace hB := Lib.hid hB
      clear hL hac hp hsp
      go_wp2_with fail
      go_ret2
      rw [hfin.out]
      exact ⟨rfl, hB.out⟩
end Go.Proofs.Ytkakggagaplaiaa
