/- What stones.group computes: a group's stones and its liberties; conditions: a board of 1 to 10 by 1 to 10 places, a place of it. -/
import Derived.Test.YtefjliblaeadfaaSp37
namespace Go.Proofs.Ytefjliblaeadfaa
open Go.RowKit

set_option maxHeartbeats 400000 in
theorem grp1_any (v : Int) (kb cv : Nat) (w : World) (hc : w.cell? ⟨kb, 0, none⟩ = some (.int .i64 (cv : Int))) (x : Nat) (hx : Hid (v = x)) :
    Calls Try.prog 37 #[.int .i64 v, .pointer (some ⟨kb, 0, none⟩)] w fun e w' => e = .returned (.bool (x == cv)) ∧ w = w' := by
  go_enter Try.func37, Try.ntmps37
  go_wp2_with fail
  go_ret
  exact ⟨ret_bool (by rw [hx.out, Bool.eq_iff_iff]; simp; omega), rfl⟩
/-- the group of a place: its stones, and its liberties. -/
def grpS (s : List Nat) (a p : Nat) : List Nat × List Nat := ((spread (fun v => v == st s p) s a p).inn, (spread (fun v => v == st s p) s a p).bd.filter fun t => st s t == 0)
def libN (s l : List Nat) (j : Nat) : List Nat := (l.take j).filter fun t => st s t == 0
theorem libN_succ (s l : List Nat) (j : Nat) (hj : j < l.length) : libN s l (j + 1) = libN s l j ++ if st s (st l j) = 0 then [st l j] else [] := by
  unfold libN
  rw [List.take_succ_eq_append_getElem hj, List.filter_append]
  have e : st l j = l[j] := by unfold st; rw [List.getElem?_eq_getElem hj]; rfl
  rw [e]
  by_cases h : st s l[j] = 0 <;> simp [h]
theorem libN_le (s l : List Nat) (j : Nat) : (libN s l j).length ≤ j := Nat.le_trans (List.length_filter_le _ _) (by rw [List.length_take]; omega)

set_option maxHeartbeats 8000000 in
set_option maxRecDepth 100000 in
theorem group_any (a b n c p : Nat) (q : Option Addr) (s : List Nat) (w : World) (ha1 : 1 ≤ a) (ha : a ≤ 10) (hnab : Hid (n = a * b)) (hn : n ≤ 100) (hp : p < n) (hx : IntsIn w q n (asI s)) (hs : ∀ j, st s j ≤ 2) :
    Calls Try.prog 31 #[.agg #[.int .i64 (a : Int), .int .i64 (b : Int), .slice q n c], .int .i64 (p : Int)] w fun e w' => ∃ l1 l2 q1 c1 q2 c2, e = .returned (.tuple #[.slice q1 l1.length c1, .slice q2 l2.length c2]) ∧ l1.Perm (grpS s a p).1 ∧ l2.Perm (grpS s a p).2 ∧ IntsIn w' q1 l1.length (asI l1) ∧ IntsIn w' q2 l2.length (asI l2) ∧ Below w.heap.size w w' ∧ (∀ y, q1 = some y → w.heap.size ≤ y.block) := by
  have hsl : s.length = n := by have := hx.len; rwa [asI_len] at this
  have hsp : Hid (Spread (fun v => v == st s p) s a p (spread (fun v => v == st s p) s a p)) := spread_ok (b := b) (by rw [hsl, hnab.out]) (by rw [hsl]; exact hp)
  obtain ⟨bq, oq, rfl, hbq, hcq⟩ := hx.at (by omega)
  have dp := hcq p hp
  rw [asI_at] at dp
  have hb1 := Below.refl w.heap.size w |>.alloc (Nat.le_refl _) (.cells #[.int .i64 (a : Int), .int .i64 (b : Int), .slice (some ⟨bq, oq, none⟩) n c] 24)
  have hb2 := hb1.alloc hb1.size (.cells #[.int .i64 ((st s p : Nat) : Int)] 3)
  obtain ⟨e0, e1⟩ := heap2 w (.cells #[.int .i64 (a : Int), .int .i64 (b : Int), .slice (some ⟨bq, oq, none⟩) n c] 24) (.cells #[.int .i64 ((st s p : Nat) : Int)] 3)
  have hz2 : ((w.alloc (.cells #[.int .i64 (a : Int), .int .i64 (b : Int), .slice (some ⟨bq, oq, none⟩) n c] 24)).alloc (.cells #[.int .i64 ((st s p : Nat) : Int)] 3)).heap.size = w.heap.size + 2 := by simp
  have HS := Lib.hid (spread37 (fun v => v == st s p) (w.heap.size + 1) a b n c p (some ⟨bq, oq, none⟩) s ((w.alloc (.cells #[.int .i64 (a : Int), .int .i64 (b : Int), .slice (some ⟨bq, oq, none⟩) n c] 24)).alloc (.cells #[.int .i64 ((st s p : Nat) : Int)] 3)) ha1 ha hnab hn hp (hx.below hb2) hs (fun v _ W' hb => by
    refine (grp1_any _ (w.heap.size + 1) (st s p) W' ?_ v rfl).mono fun e w' h => ⟨h.1, h.2⟩
    exact (hb.cell (p := ⟨w.heap.size + 1, 0, none⟩) (by rw [hz2]; simp)).trans (wcell (cs := [_]) e1 0)))
  have hg1 : Hid (grpS s a p = ((spread (fun v => v == st s p) s a p).inn, (spread (fun v => v == st s p) s a p).bd.filter fun t => st s t == 0)) := rfl
  generalize grpS s a p = G at *
  generalize spread (fun v => v == st s p) s a p = Z at *
  replace hx := Lib.hid hx; replace hs := Lib.hid hs; replace hb1 := Lib.hid hb1; replace hb2 := Lib.hid hb2; replace e0 := Lib.hid e0; replace e1 := Lib.hid e1; replace hz2 := Lib.hid hz2; replace hsl := Lib.hid hsl
  clear hcq
  go_enter Try.func31, Try.ntmps31
  go_wp2_with fail
  refine HS.out.mono ?_
  rintro e w3 ⟨l1, l2, q1, c1, q2, c2, rfl, hp1, hp2, hi1, hi2, hB3, hq1, _⟩
  replace hq1 : Hid (∀ y, q1 = some y → w.heap.size ≤ y.block) := fun y hy => Nat.le_trans (by rw [hz2.out]; omega) (hq1 y hy)
  have e03 := (hB3.block w.heap.size (by rw [hz2.out]; omega)).trans e0.out
  have hbl3 : Hid (Below w.heap.size w w3) := hb2.out.trans (hB3.mono hb2.out.size)
  have hz3 : w.heap.size + 2 ≤ w3.heap.size := by have := hB3.size; rw [hz2.out] at this; exact this
  have hl2n : l2.length ≤ n := by rw [hp2.length_eq]; have := hsp.out.len; rw [hsl.out] at this; omega
  have hl2m : Hid (∀ j, j < l2.length → st l2 j < n) := fun j hj => by
    have h1 : st l2 j ∈ l2 := by unfold st; rw [List.getElem?_eq_getElem hj]; exact List.getElem_mem hj
    rw [← hsl.out]
    exact hsp.out.lt _ (.inr (hp2.mem_iff.1 h1))
  replace hp1 := Lib.hid hp1; replace hp2 := Lib.hid hp2; replace hi1 := Lib.hid hi1; replace hi2 := Lib.hid hi2; replace e03 := Lib.hid e03
  clear HS hB3 dp
  go_wp2_with fail
  go_loopg [5, 24] l2.length (fun gk v5 jv W' => ∃ (j : Nat) (p5 : Option Addr) (c5 : Nat), j ≤ l2.length ∧ gk = l2.length - j ∧ jv = .int .i64 j ∧ v5 = .slice p5 (libN s l2 j).length c5 ∧ Own 3 w3.heap.size W' p5 (libN s l2 j).length c5 (asI (libN s l2 j)) ∧ Below w3.heap.size w3 W')
  case atStart => exact ⟨0, none, 0, Nat.zero_le _, rfl, rfl, rfl, Own.nil _ _ _, Below.refl _ _⟩
  case round =>
    obtain ⟨j, p5, c5, hj, hgk, rfl, rfl, hO, hB4⟩ := hrel
    obtain ⟨W4, rfl⟩ : ∃ W4 : World, W4 = wr := ⟨_, rfl⟩
    replace hgk := Lib.hid hgk
    have hz4 := hB4.size
    by_cases hlt : j < l2.length
    · obtain ⟨b2, o2, rfl, _, hc2⟩ := (hi2.out.below hB4).at (by omega)
      have d2 := hc2 j hlt
      rw [asI_at] at d2
      have htn := hl2m.out j hlt
      have hlu := Lib.hid (libN_succ s l2 j hlt)
      have hll := libN_le s l2 j
      generalize libN s l2 j = M at *
      generalize st l2 j = t at *
      obtain ⟨bq', oq', e, _, hcq⟩ := (hx.out.below (hbl3.out.trans (hB4.mono hbl3.out.size))).at (by omega)
      cases e
      have dt := hcq t htn
      rw [asI_at] at dt
      have dx2 : W4.cell? ⟨w.heap.size, 2, none⟩ = some (.slice (some ⟨bq, oq, none⟩) n c) := wcell (cs := [_, _, _]) ((hB4.block w.heap.size (by omega)).trans e03.out) 2
      clear hc2 hcq
      by_cases h0 : st s t = 0
      · rw [h0] at dt
        rw [if_pos h0] at hlu
        replace h0 := Lib.hid h0
        have hO' := Lib.hid hO
        replace hB4 := Lib.hid hB4
        go_wp2_with (at_builtin; refine wp_append1 intG W4 rfl _ _ rfl w3.heap.size p5 M.length c5 (asI M) rfl hO'.out (t : Int) rfl (by omega) hz4 ?_; intro p' c' w6 hO6 hg6 hr6 hz6)
        have hB6 : Hid (Below w3.heap.size w3 w6) := hB4.out.grown hg6 hz4 fun k hk => by
          cases p5 with
          | none => cases hk
          | some y => simp at hk; subst hk; exact (hO'.out.block y rfl).1
        have hO7 : Hid (Own 3 w3.heap.size w6 p' (M ++ [t]).length c' (asI (M ++ [t]))) := by
          have e : asI (M ++ [t]) = asI M ++ [(t : Int)] := by simp [asI]
          show Own _ _ _ _ _ _ _
          rw [e, List.length_append]; exact hO6
        clear hO6 hg6 hr6 hz6
        go_wp2_with fail
        have hgk := hgk.out
        go_roundg (l2.length - (j + 1))
        case measure => omega
        case rel => exact ⟨j + 1, p', c', hlt, rfl, by go_num, by rw [hlu.out, List.length_append]; rfl, by rw [hlu.out]; exact hO7.out, hB6.out⟩
      · rw [if_neg h0, List.append_nil] at hlu
        have h0' : (((st s t : Nat) : Int) == 0) = false := by simp; omega
        replace hO := Lib.hid hO; replace hB4 := Lib.hid hB4
        go_wp2_with fail
        have hgk := hgk.out
        go_roundg (l2.length - (j + 1))
        case measure => omega
        case rel => exact ⟨j + 1, p5, c5, hlt, rfl, by go_num, by rw [hlu.out], by rw [hlu.out]; exact hO.out, hB4.out⟩
    · have hje : j = l2.length := by omega
      subst hje
      have hfl : Hid (libN s l2 l2.length = l2.filter fun t => st s t == 0) := by show _ = _; unfold libN; rw [List.take_length]
      have hpf : Hid ((libN s l2 l2.length).Perm G.2) := by show List.Perm _ _; rw [hfl.out, hg1.out]; exact hp2.out.filter _
      have hi1' : Hid (IntsIn W4 q1 l1.length (asI l1)) := hi1.out.below hB4
      have hbl4 : Hid (Below w.heap.size w W4) := hbl3.out.trans (hB4.mono hbl3.out.size)
      have hO' := Lib.hid hO.in
      generalize libN s l2 l2.length = M at *
      clear hO hB4
      replace hfl := Lib.hid hfl
      go_wp2_with fail
      go_ret2
      exact ⟨l1, M, q1, c1, p5, c5, rfl, by rw [hg1.out]; exact hp1.out, hpf.out, hi1'.out, hO'.out, hbl4.out, hq1.out⟩
end Go.Proofs.Ytefjliblaeadfaa
