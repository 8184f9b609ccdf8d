/- What gameroomkeep.DominoEuler returns: true; conditions: the arguments are ints of 64 bits. -/
import Derived.Test.YtgnchgkiijncbaaRowW
import Derived.Test.YtgnchgkiijncbaaDomLaw
namespace Go.Proofs.Ytgnchgkiijncbaa
open Go.RowKit

theorem flat_take (l : List Piece) : ∀ k, flat (l.take k) = (flat l).take (k * 2) := by
  induction l with
  | nil => intro k; simp [flat]
  | cons p l ih =>
    intro k
    cases k with
    | zero => simp [flat]
    | succ k => rw [show (k + 1) * 2 = k * 2 + 1 + 1 by omega]; simp [flat, ih]
theorem flat_drop (l : List Piece) : ∀ k, flat (l.drop k) = (flat l).drop (k * 2) := by
  induction l with
  | nil => intro k; simp [flat]
  | cons p l ih =>
    intro k
    cases k with
    | zero => simp [flat]
    | succ k => rw [show (k + 1) * 2 = k * 2 + 1 + 1 by omega]; simp [flat, ih]

theorem keepCells {g o : Nat} {es : List Value} {w w' : World} {row : Option Nat} (h : Hid (∀ (j : Nat) (u : Value), es[j]? = some u → w.cell? ((⟨g, o, none⟩ : Addr).add j) = some u)) (hg : w.grownBy w' row) (hl : g < w.heap.size) (hr : some g ≠ row) :
    Hid (∀ (j : Nat) (u : Value), es[j]? = some u → w'.cell? ((⟨g, o, none⟩ : Addr).add j) = some u) := fun j u hj => by
  rw [Addr.add_lit, World.cell?_of_block (a := ⟨g, o + j, none⟩) (hg.block g hl hr), ← Addr.add_lit]
  exact h.out j u hj
structure Facts (n : Nat) : Prop where
  e : (rowS (pieces n)).2 = 0 ↔ (n % 2 = 0 ∨ n = 1)
  m : (rowS (pieces n)).2 = 0 → (rowS (pieces n)).1 = (pieces n).length
  l : (pieces n).length = (n + 1) * (n + 2) / 2
  l1 : 1 ≤ (pieces n).length
  l2 : (pieces n).length ≤ 55
  a : ∀ q ∈ pieces n, q.1 ≤ 9 ∧ q.2 ≤ 9
theorem facts (n : Nat) (h : n < 10) : Facts n := by
  have := lawN_true n h
  unfold lawN at this
  simp only [Bool.and_eq_true, Bool.or_eq_true, bne_iff_ne, decide_eq_true_eq, List.all_eq_true, Bool.beq_eq_decide_eq] at this
  obtain ⟨⟨⟨⟨⟨h1, h2⟩, h3⟩, h4⟩, h5⟩, h6⟩ := this
  refine ⟨?_, fun e => h2.resolve_left (fun h => h e), h3, h4, h5, h6⟩
  rw [Bool.eq_iff_iff] at h1
  simpa using h1

set_option maxHeartbeats 8000000 in
set_option maxRecDepth 100000 in
theorem eulerA (n : Nat) (a0 a1 : Int) (w : World) (x1 : -9223372036854775808 ≤ a0) (x2 : a0 ≤ 9223372036854775807) (y1 : -9223372036854775808 ≤ a1) (y2 : a1 ≤ 9223372036854775807) (hpn : pick a0 10 = n) (hn10 : n < 10) (hn : n % 2 = 0) (hn0 : 0 < n) :
    Calls Try.prog 3 #[.int .i64 a0, .int .i64 a1] w fun e w' => e = .returned (.bool true) ∧ Below w.heap.size w w' := by
  have H1 := Lib.hid (picked_any a0 10 w x1 x2 (by omega) (by omega) 10 rfl)
  have p1 := pick_lt a0 10 (by omega)
  rw [hpn] at H1
  have F := facts n hn10
  obtain ⟨fe, fm, fl, fl1, fl2, fa⟩ := F
  have H2 := Lib.hid (fun L W h1 h2 => picked_any a1 L W y1 y2 h1 h2 L rfl)
  have hkl := fun L h => pick_lt a1 L h
  have HS := Lib.hid (set_any n w (by omega) n rfl)
  have hlk := Lib.hid (fun k h0 he hk => lawK_true n k hn10 h0 he hk)
  generalize hL : (pieces n).length = L at *
  have hk := hkl L fl1
  have H3 := Lib.hid (fun W => H2.out L W fl1 (by omega))
  generalize pick a1 L = k at *
  clear hkl H2
  obtain ⟨M, hM⟩ : ∃ M, (n + 1) * (n + 2) = M := ⟨_, rfl⟩
  have hMI : ((n : Int) + 1) * ((n : Int) + 2) = (M : Int) := by rw [← hM]; push_cast; rfl
  have hM110 : M ≤ 10 * 11 := by rw [← hM]; exact Nat.mul_le_mul (by omega) (by omega)
  rw [hM] at fl
  have hML : (M : Int) / 2 = (L : Int) := by omega
  replace hM := Lib.hid hM; replace fl := Lib.hid fl; replace fa := Lib.hid fa; replace hL := Lib.hid hL; replace hpn := Lib.hid hpn
  have HR := Lib.hid (fun q c W (hO : OwnP w.heap.size W q L c (pieces n)) => row_any q L c W.heap.size (pieces n) W (by omega) (Nat.le_refl _) hO.in fa.out)
  rcases hrs : rowS (pieces n) with ⟨m1, e1⟩
  rw [hrs] at HR fe fm
  replace hrs := Lib.hid hrs
  simp only at fe fm HR
  clear x1 x2 y1 y2 p1
  have he : e1 = 0 := by omega
  subst he
  have hm1 := (fm rfl).symm
  subst hm1
  replace fe := Lib.hid fe; replace fm := Lib.hid fm
  have g0 : (n : Int) % 2 = 0 := by omega
  have z2 : ((n : Int) == 1) = false := by simp; omega
  go_enter Try.func3, Try.ntmps3
  go_wp2_with fail
  refine H1.out.mono ?_
  rintro e w' ⟨rfl, rfl⟩
  go_wp2_with fail
  refine HS.out.mono ?_
  rintro e W1 ⟨q, c, rfl, hO, hB1⟩
  obtain ⟨g, rfl, hgB, hg, hcc⟩ := hO.1.where (by omega)
  have HR1 := Lib.hid (HR.out _ _ _ hO)
  replace hO := Lib.hid hO; replace hB1 := Lib.hid hB1
  go_wp2_with fail
  refine HR1.out.mono ?_
  rintro e W2 ⟨q2, c2, rfl, hB2⟩
  have hO2 : OwnP w.heap.size W2 (some ⟨g, 0, none⟩) L c (pieces n) := ⟨hO.out.1.below hB2 (Nat.le_refl _), hO.out.2⟩
  have hBw2 := Lib.hid (hB1.out.trans (hB2.mono hB1.out.size))
  have hg2 := Nat.lt_of_lt_of_le hg hB2.size
  replace hO2 := Lib.hid hO2
  clear hB2
  go_wp2_with fail
  refine (H3.out _).mono ?_
  rintro e w' ⟨rfl, rfl⟩
  have hlen1 : (flat ((pieces n).take k)).length = k * 2 := by rw [flat_len, List.length_take]; have := hL.out; omega
  have hone1 := flat_cells ((pieces n).take k)
  have hcl1 : ∀ j u, (flat ((pieces n).take k))[j]? = some u → W2.cell? ((⟨g, 0, none⟩ : Addr).add j) = some u := by
    intro j u hj
    rw [Addr.add_lit, Nat.zero_add]
    rw [flat_take] at hj
    have hj2 : j < k * 2 := by
      have := (List.getElem?_eq_some_iff.1 hj).1
      simp at this; omega
    rw [List.getElem?_take_of_lt hj2] at hj
    rw [hO2.out.1.cell (by omega)]; exact hj
  have hlen2 : (flat ((pieces n).drop (k + 1))).length = (L - (k + 1)) * 2 := by rw [flat_len, List.length_drop]; have := hL.out; omega
  have hone2 := flat_cells ((pieces n).drop (k + 1))
  have hcl2 : ∀ j u, (flat ((pieces n).drop (k + 1)))[j]? = some u → W2.cell? ((⟨g, (k + 1) * 2, none⟩ : Addr).add j) = some u := by
    intro j u hj
    rw [Addr.add_lit]
    have hj2 : j < (L - (k + 1)) * 2 := by
      have := (List.getElem?_eq_some_iff.1 hj).1
      omega
    rw [flat_drop, List.getElem?_drop] at hj
    rw [hO2.out.1.cell (by omega)]; exact hj
  have hlp : ((pieces n).take k).length = k := by rw [List.length_take]; have := hL.out; omega
  have hW2 : W2.heap.size ≤ W2.heap.size := Nat.le_refl _
  have hlessL : (less n k).length = L - 1 := by
    unfold less
    rw [List.length_append, hlp, List.length_drop]; have := hL.out; omega
  have hlessA : ∀ q ∈ less n k, q.1 ≤ 9 ∧ q.2 ≤ 9 := fun q hq => by
    unfold less at hq
    rcases List.mem_append.1 hq with h | h
    · exact fa.out q (List.mem_of_mem_take h)
    · exact fa.out q (List.mem_of_mem_drop h)
  have hfl : flat ((pieces n).take k) ++ flat ((pieces n).drop (k + 1)) = flat (less n k) := by rw [← flat_app]; rfl
  replace hlen1 := Lib.hid hlen1; replace hlen2 := Lib.hid hlen2; replace hone1 := Lib.hid hone1; replace hone2 := Lib.hid hone2; replace hcl1 := Lib.hid hcl1; replace hcl2 := Lib.hid hcl2; replace hlp := Lib.hid hlp; replace hlessL := Lib.hid hlessL; replace hlessA := Lib.hid hlessA; replace hfl := Lib.hid hfl
  by_cases hkc : k + 1 = c
  · have hkL : k + 1 = L := by omega
    have hdn : Hid ((pieces n).drop (k + 1) = []) := List.drop_eq_nil_of_le (by have := hL.out; omega)
    go_wp2_with (first
      | (at_builtin; refine wp_appendLV el23 W2 rfl (Operand.tmp 62) (Operand.tmp 65) rfl W2.heap.size none 0 0 [] rfl (OwnC.nil _ _ _ _) ⟨g, 0, none⟩ k c (flat ((pieces n).take k)) hlen1.out hone1.out hcl1.out rfl (by omega) hW2 ?_; intro p3 c3 W3 hO3 hg3 _ hz3; rw [Nat.zero_add, List.nil_append] at hO3; replace hO3 := Lib.hid hO3; skip; replace hg3 := Lib.hid hg3)
      | (at_builtin; refine wp_appendLV el23 W3 rfl (Operand.tmp 67) (Operand.tmp 71) rfl W2.heap.size p3 k c3 (flat ((pieces n).take k)) rfl hO3.out ⟨g, 0, none⟩ 0 0 [] rfl rfl (fun j u hj => by simp at hj) rfl (by omega) hz3 ?_; intro p4 c4 W4 hO4 hg4 _ hz4; rw [Nat.add_zero, List.append_nil] at hO4; replace hO4 := Lib.hid hO4; replace hg4 := Lib.hid hg4))
    have hO5 : OwnP W2.heap.size W4 p4 k c4 (less n k) := ⟨by rw [← hfl.out, hdn.out]; simpa [flat] using hO4.out, by rw [hlessL.out]; omega⟩
    have hBw4 : Below w.heap.size w W4 := by
      have h3 := hBw2.out.grown hg3.out hBw2.out.size (fun x hx => by cases hx)
      exact h3.grown hg4.out (Nat.le_trans hBw2.out.size hz3) (fun x hx => by
        cases p3 with
        | none => cases hx
        | some a => cases hx; have := (hO3.out.block a rfl).1; have := hBw2.out.size; show w.heap.size ≤ a.block; omega)
    have HR2 := row_any p4 k c4 W4.heap.size (less n k) W4 (by omega) (Nat.le_refl _) hO5.in hlessA.out
    rw [hlk.out k (by omega) (by omega) hk, hlessL.out] at HR2
    have hLL : L - 1 = k := by omega
    rw [hLL] at HR2
    simp only at HR2
    replace hLL := Lib.hid hLL
    replace HR2 := Lib.hid HR2; replace hO5 := Lib.hid hO5; replace hBw4 := Lib.hid hBw4
    refine HR2.out.mono ?_
    rintro e W5 ⟨q6, c6, rfl, hB6⟩
    have hBw6 := Lib.hid (hBw4.out.trans (hB6.mono hBw4.out.size))
    clear hB6
    go_wp2_with fail
    go_ret
    exact ⟨rfl, hBw6.out⟩
  · have hkc2 : k + 1 < c := by omega
    replace hkc := Lib.hid hkc
    skip
    go_wp2_with (first
      | (at_builtin; refine wp_appendLV el23 W2 rfl (Operand.tmp 62) (Operand.tmp 65) rfl W2.heap.size none 0 0 [] rfl (OwnC.nil _ _ _ _) ⟨g, 0, none⟩ k c (flat ((pieces n).take k)) hlen1.out hone1.out hcl1.out rfl (by omega) hW2 ?_; intro p3 c3 W3 hO3 hg3 _ hz3; rw [Nat.zero_add, List.nil_append] at hO3; replace hO3 := Lib.hid hO3; have hcl3 := keepCells hcl2 hg3 hg2 (by simp); replace hg3 := Lib.hid hg3)
      | (at_builtin; refine wp_appendLV el23 W3 rfl (Operand.tmp 67) (Operand.tmp 71) rfl W2.heap.size p3 k c3 (flat ((pieces n).take k)) rfl hO3.out ⟨g, (k + 1) * 2, none⟩ (L - (k + 1)) (c - (k + 1)) (flat ((pieces n).drop (k + 1))) hlen2.out hone2.out hcl3.out rfl (by omega) hz3 ?_; intro p4 c4 W4 hO4 hg4 _ hz4; replace hO4 := Lib.hid hO4; replace hg4 := Lib.hid hg4))
    have hO5 : OwnP W2.heap.size W4 p4 (k + (L - (k + 1))) c4 (less n k) := ⟨by rw [← hfl.out]; exact hO4.out, by rw [hlessL.out]; omega⟩
    have hBw4 : Below w.heap.size w W4 := by
      have h3 := hBw2.out.grown hg3.out hBw2.out.size (fun x hx => by cases hx)
      exact h3.grown hg4.out (Nat.le_trans hBw2.out.size hz3) (fun x hx => by
        cases p3 with
        | none => cases hx
        | some a => cases hx; have := (hO3.out.block a rfl).1; have := hBw2.out.size; show w.heap.size ≤ a.block; omega)
    have HR2 := row_any p4 (k + (L - (k + 1))) c4 W4.heap.size (less n k) W4 (by omega) (Nat.le_refl _) hO5.in hlessA.out
    rw [hlk.out k (by omega) (by omega) hk, hlessL.out] at HR2
    have hLL : L - 1 = (k + (L - (k + 1))) := by omega
    rw [hLL] at HR2
    simp only at HR2
    replace hLL := Lib.hid hLL
    replace HR2 := Lib.hid HR2; replace hO5 := Lib.hid hO5; replace hBw4 := Lib.hid hBw4
    refine HR2.out.mono ?_
    rintro e W5 ⟨q6, c6, rfl, hB6⟩
    have hBw6 := Lib.hid (hBw4.out.trans (hB6.mono hBw4.out.size))
    clear hB6
    go_wp2_with fail
    go_ret
    exact ⟨rfl, hBw6.out⟩
set_option maxHeartbeats 8000000 in
set_option maxRecDepth 100000 in
theorem eulerB (n : Nat) (a0 a1 : Int) (w : World) (x1 : -9223372036854775808 ≤ a0) (x2 : a0 ≤ 9223372036854775807) (y1 : -9223372036854775808 ≤ a1) (y2 : a1 ≤ 9223372036854775807) (hpn : pick a0 10 = n) (hn10 : n < 10) (hn : n = 0) :
    Calls Try.prog 3 #[.int .i64 a0, .int .i64 a1] w fun e w' => e = .returned (.bool true) ∧ Below w.heap.size w w' := by
  have H1 := Lib.hid (picked_any a0 10 w x1 x2 (by omega) (by omega) 10 rfl)
  have p1 := pick_lt a0 10 (by omega)
  rw [hpn] at H1
  have F := facts n hn10
  obtain ⟨fe, fm, fl, fl1, fl2, fa⟩ := F
  have H2 := Lib.hid (fun L W h1 h2 => picked_any a1 L W y1 y2 h1 h2 L rfl)
  have hkl := fun L h => pick_lt a1 L h
  have HS := Lib.hid (set_any n w (by omega) n rfl)
  have hlk := Lib.hid (fun k h0 he hk => lawK_true n k hn10 h0 he hk)
  generalize hL : (pieces n).length = L at *
  have hk := hkl L fl1
  have H3 := Lib.hid (fun W => H2.out L W fl1 (by omega))
  generalize pick a1 L = k at *
  clear hkl H2
  obtain ⟨M, hM⟩ : ∃ M, (n + 1) * (n + 2) = M := ⟨_, rfl⟩
  have hMI : ((n : Int) + 1) * ((n : Int) + 2) = (M : Int) := by rw [← hM]; push_cast; rfl
  have hM110 : M ≤ 10 * 11 := by rw [← hM]; exact Nat.mul_le_mul (by omega) (by omega)
  rw [hM] at fl
  have hML : (M : Int) / 2 = (L : Int) := by omega
  replace hM := Lib.hid hM; replace fl := Lib.hid fl; replace fa := Lib.hid fa; replace hL := Lib.hid hL; replace hpn := Lib.hid hpn
  have HR := Lib.hid (fun q c W (hO : OwnP w.heap.size W q L c (pieces n)) => row_any q L c W.heap.size (pieces n) W (by omega) (Nat.le_refl _) hO.in fa.out)
  rcases hrs : rowS (pieces n) with ⟨m1, e1⟩
  rw [hrs] at HR fe fm
  replace hrs := Lib.hid hrs
  simp only at fe fm HR
  clear x1 x2 y1 y2 p1
  have he : e1 = 0 := by omega
  subst he
  have hm1 := (fm rfl).symm
  subst hm1
  replace fe := Lib.hid fe; replace fm := Lib.hid fm
  have g0 : (n : Int) % 2 = 0 := by omega
  have z2 : ((n : Int) == 1) = false := by simp; omega
  have z3 : ¬ (0 < (n : Int)) := by omega
  have z4 : (n : Int) ≤ 0 := by omega
  replace hn := Lib.hid hn
  go_enter Try.func3, Try.ntmps3
  go_wp2_with fail
  refine H1.out.mono ?_
  rintro e w' ⟨rfl, rfl⟩
  go_wp2_with fail
  refine HS.out.mono ?_
  rintro e W1 ⟨q, c, rfl, hO, hB1⟩
  obtain ⟨g, rfl, hgB, hg, hcc⟩ := hO.1.where (by omega)
  have HR1 := Lib.hid (HR.out _ _ _ hO)
  replace hO := Lib.hid hO; replace hB1 := Lib.hid hB1
  go_wp2_with fail
  refine HR1.out.mono ?_
  rintro e W2 ⟨q2, c2, rfl, hB2⟩
  have hO2 : OwnP w.heap.size W2 (some ⟨g, 0, none⟩) L c (pieces n) := ⟨hO.out.1.below hB2 (Nat.le_refl _), hO.out.2⟩
  have hBw2 := Lib.hid (hB1.out.trans (hB2.mono hB1.out.size))
  have hg2 := Nat.lt_of_lt_of_le hg hB2.size
  replace hO2 := Lib.hid hO2
  clear hB2
  go_wp2_with fail
  refine (H3.out _).mono ?_
  rintro e w' ⟨rfl, rfl⟩
  have hlen1 : (flat ((pieces n).take k)).length = k * 2 := by rw [flat_len, List.length_take]; have := hL.out; omega
  have hone1 := flat_cells ((pieces n).take k)
  have hcl1 : ∀ j u, (flat ((pieces n).take k))[j]? = some u → W2.cell? ((⟨g, 0, none⟩ : Addr).add j) = some u := by
    intro j u hj
    rw [Addr.add_lit, Nat.zero_add]
    rw [flat_take] at hj
    have hj2 : j < k * 2 := by
      have := (List.getElem?_eq_some_iff.1 hj).1
      simp at this; omega
    rw [List.getElem?_take_of_lt hj2] at hj
    rw [hO2.out.1.cell (by omega)]; exact hj
  have hlen2 : (flat ((pieces n).drop (k + 1))).length = (L - (k + 1)) * 2 := by rw [flat_len, List.length_drop]; have := hL.out; omega
  have hone2 := flat_cells ((pieces n).drop (k + 1))
  have hcl2 : ∀ j u, (flat ((pieces n).drop (k + 1)))[j]? = some u → W2.cell? ((⟨g, (k + 1) * 2, none⟩ : Addr).add j) = some u := by
    intro j u hj
    rw [Addr.add_lit]
    have hj2 : j < (L - (k + 1)) * 2 := by
      have := (List.getElem?_eq_some_iff.1 hj).1
      omega
    rw [flat_drop, List.getElem?_drop] at hj
    rw [hO2.out.1.cell (by omega)]; exact hj
  have hlp : ((pieces n).take k).length = k := by rw [List.length_take]; have := hL.out; omega
  have hW2 : W2.heap.size ≤ W2.heap.size := Nat.le_refl _
  have hlessL : (less n k).length = L - 1 := by
    unfold less
    rw [List.length_append, hlp, List.length_drop]; have := hL.out; omega
  have hlessA : ∀ q ∈ less n k, q.1 ≤ 9 ∧ q.2 ≤ 9 := fun q hq => by
    unfold less at hq
    rcases List.mem_append.1 hq with h | h
    · exact fa.out q (List.mem_of_mem_take h)
    · exact fa.out q (List.mem_of_mem_drop h)
  have hfl : flat ((pieces n).take k) ++ flat ((pieces n).drop (k + 1)) = flat (less n k) := by rw [← flat_app]; rfl
  replace hlen1 := Lib.hid hlen1; replace hlen2 := Lib.hid hlen2; replace hone1 := Lib.hid hone1; replace hone2 := Lib.hid hone2; replace hcl1 := Lib.hid hcl1; replace hcl2 := Lib.hid hcl2; replace hlp := Lib.hid hlp; replace hlessL := Lib.hid hlessL; replace hlessA := Lib.hid hlessA; replace hfl := Lib.hid hfl
  by_cases hkc : k + 1 = c
  · have hkL : k + 1 = L := by omega
    have hdn : Hid ((pieces n).drop (k + 1) = []) := List.drop_eq_nil_of_le (by have := hL.out; omega)
    go_wp2_with (first
      | (at_builtin; refine wp_appendLV el23 W2 rfl (Operand.tmp 62) (Operand.tmp 65) rfl W2.heap.size none 0 0 [] rfl (OwnC.nil _ _ _ _) ⟨g, 0, none⟩ k c (flat ((pieces n).take k)) hlen1.out hone1.out hcl1.out rfl (by omega) hW2 ?_; intro p3 c3 W3 hO3 hg3 _ hz3; rw [Nat.zero_add, List.nil_append] at hO3; replace hO3 := Lib.hid hO3; skip; replace hg3 := Lib.hid hg3)
      | (at_builtin; refine wp_appendLV el23 W3 rfl (Operand.tmp 67) (Operand.tmp 71) rfl W2.heap.size p3 k c3 (flat ((pieces n).take k)) rfl hO3.out ⟨g, 0, none⟩ 0 0 [] rfl rfl (fun j u hj => by simp at hj) rfl (by omega) hz3 ?_; intro p4 c4 W4 hO4 hg4 _ hz4; rw [Nat.add_zero, List.append_nil] at hO4; replace hO4 := Lib.hid hO4; replace hg4 := Lib.hid hg4))
    have hO5 : OwnP W2.heap.size W4 p4 k c4 (less n k) := ⟨by rw [← hfl.out, hdn.out]; simpa [flat] using hO4.out, by rw [hlessL.out]; omega⟩
    have hBw4 : Below w.heap.size w W4 := by
      have h3 := hBw2.out.grown hg3.out hBw2.out.size (fun x hx => by cases hx)
      exact h3.grown hg4.out (Nat.le_trans hBw2.out.size hz3) (fun x hx => by
        cases p3 with
        | none => cases hx
        | some a => cases hx; have := (hO3.out.block a rfl).1; have := hBw2.out.size; show w.heap.size ≤ a.block; omega)
    have HR2 := row_any p4 k c4 W4.heap.size (less n k) W4 (by omega) (Nat.le_refl _) hO5.in hlessA.out
    rcases rowS (less n k) with ⟨m2, e2⟩
    replace HR2 := Lib.hid HR2; replace hO5 := Lib.hid hO5; replace hBw4 := Lib.hid hBw4
    refine HR2.out.mono ?_
    rintro e W5 ⟨q6, c6, rfl, hB6⟩
    have hBw6 := Lib.hid (hBw4.out.trans (hB6.mono hBw4.out.size))
    clear hB6
    go_wp2_with fail
    go_ret
    exact ⟨rfl, hBw6.out⟩
  · have hkc2 : k + 1 < c := by omega
    replace hkc := Lib.hid hkc
    skip
    go_wp2_with (first
      | (at_builtin; refine wp_appendLV el23 W2 rfl (Operand.tmp 62) (Operand.tmp 65) rfl W2.heap.size none 0 0 [] rfl (OwnC.nil _ _ _ _) ⟨g, 0, none⟩ k c (flat ((pieces n).take k)) hlen1.out hone1.out hcl1.out rfl (by omega) hW2 ?_; intro p3 c3 W3 hO3 hg3 _ hz3; rw [Nat.zero_add, List.nil_append] at hO3; replace hO3 := Lib.hid hO3; have hcl3 := keepCells hcl2 hg3 hg2 (by simp); replace hg3 := Lib.hid hg3)
      | (at_builtin; refine wp_appendLV el23 W3 rfl (Operand.tmp 67) (Operand.tmp 71) rfl W2.heap.size p3 k c3 (flat ((pieces n).take k)) rfl hO3.out ⟨g, (k + 1) * 2, none⟩ (L - (k + 1)) (c - (k + 1)) (flat ((pieces n).drop (k + 1))) hlen2.out hone2.out hcl3.out rfl (by omega) hz3 ?_; intro p4 c4 W4 hO4 hg4 _ hz4; replace hO4 := Lib.hid hO4; replace hg4 := Lib.hid hg4))
    have hO5 : OwnP W2.heap.size W4 p4 (k + (L - (k + 1))) c4 (less n k) := ⟨by rw [← hfl.out]; exact hO4.out, by rw [hlessL.out]; omega⟩
    have hBw4 : Below w.heap.size w W4 := by
      have h3 := hBw2.out.grown hg3.out hBw2.out.size (fun x hx => by cases hx)
      exact h3.grown hg4.out (Nat.le_trans hBw2.out.size hz3) (fun x hx => by
        cases p3 with
        | none => cases hx
        | some a => cases hx; have := (hO3.out.block a rfl).1; have := hBw2.out.size; show w.heap.size ≤ a.block; omega)
    have HR2 := row_any p4 (k + (L - (k + 1))) c4 W4.heap.size (less n k) W4 (by omega) (Nat.le_refl _) hO5.in hlessA.out
    rcases rowS (less n k) with ⟨m2, e2⟩
    replace HR2 := Lib.hid HR2; replace hO5 := Lib.hid hO5; replace hBw4 := Lib.hid hBw4
    refine HR2.out.mono ?_
    rintro e W5 ⟨q6, c6, rfl, hB6⟩
    have hBw6 := Lib.hid (hBw4.out.trans (hB6.mono hBw4.out.size))
    clear hB6
    go_wp2_with fail
    go_ret
    exact ⟨rfl, hBw6.out⟩
set_option maxHeartbeats 8000000 in
set_option maxRecDepth 100000 in
theorem eulerC (n : Nat) (a0 a1 : Int) (w : World) (x1 : -9223372036854775808 ≤ a0) (x2 : a0 ≤ 9223372036854775807) (y1 : -9223372036854775808 ≤ a1) (y2 : a1 ≤ 9223372036854775807) (hpn : pick a0 10 = n) (hn10 : n < 10) (hn : n = 1) :
    Calls Try.prog 3 #[.int .i64 a0, .int .i64 a1] w fun e w' => e = .returned (.bool true) ∧ Below w.heap.size w w' := by
  have H1 := Lib.hid (picked_any a0 10 w x1 x2 (by omega) (by omega) 10 rfl)
  have p1 := pick_lt a0 10 (by omega)
  rw [hpn] at H1
  have F := facts n hn10
  obtain ⟨fe, fm, fl, fl1, fl2, fa⟩ := F
  have H2 := Lib.hid (fun L W h1 h2 => picked_any a1 L W y1 y2 h1 h2 L rfl)
  have hkl := fun L h => pick_lt a1 L h
  have HS := Lib.hid (set_any n w (by omega) n rfl)
  have hlk := Lib.hid (fun k h0 he hk => lawK_true n k hn10 h0 he hk)
  generalize hL : (pieces n).length = L at *
  have hk := hkl L fl1
  have H3 := Lib.hid (fun W => H2.out L W fl1 (by omega))
  generalize pick a1 L = k at *
  clear hkl H2
  obtain ⟨M, hM⟩ : ∃ M, (n + 1) * (n + 2) = M := ⟨_, rfl⟩
  have hMI : ((n : Int) + 1) * ((n : Int) + 2) = (M : Int) := by rw [← hM]; push_cast; rfl
  have hM110 : M ≤ 10 * 11 := by rw [← hM]; exact Nat.mul_le_mul (by omega) (by omega)
  rw [hM] at fl
  have hML : (M : Int) / 2 = (L : Int) := by omega
  replace hM := Lib.hid hM; replace fl := Lib.hid fl; replace fa := Lib.hid fa; replace hL := Lib.hid hL; replace hpn := Lib.hid hpn
  have HR := Lib.hid (fun q c W (hO : OwnP w.heap.size W q L c (pieces n)) => row_any q L c W.heap.size (pieces n) W (by omega) (Nat.le_refl _) hO.in fa.out)
  rcases hrs : rowS (pieces n) with ⟨m1, e1⟩
  rw [hrs] at HR fe fm
  replace hrs := Lib.hid hrs
  simp only at fe fm HR
  clear x1 x2 y1 y2 p1
  have he : e1 = 0 := by omega
  subst he
  have hm1 := (fm rfl).symm
  subst hm1
  replace fe := Lib.hid fe; replace fm := Lib.hid fm
  have g0 : (n : Int) % 2 = 1 := by omega
  have z2 : ((n : Int) == 1) = true := by simp; omega
  replace hn := Lib.hid hn
  go_enter Try.func3, Try.ntmps3
  go_wp2_with fail
  refine H1.out.mono ?_
  rintro e w' ⟨rfl, rfl⟩
  go_wp2_with fail
  refine HS.out.mono ?_
  rintro e W1 ⟨q, c, rfl, hO, hB1⟩
  obtain ⟨g, rfl, hgB, hg, hcc⟩ := hO.1.where (by omega)
  have HR1 := Lib.hid (HR.out _ _ _ hO)
  replace hO := Lib.hid hO; replace hB1 := Lib.hid hB1
  go_wp2_with fail
  refine HR1.out.mono ?_
  rintro e W2 ⟨q2, c2, rfl, hB2⟩
  have hO2 : OwnP w.heap.size W2 (some ⟨g, 0, none⟩) L c (pieces n) := ⟨hO.out.1.below hB2 (Nat.le_refl _), hO.out.2⟩
  have hBw2 := Lib.hid (hB1.out.trans (hB2.mono hB1.out.size))
  have hg2 := Nat.lt_of_lt_of_le hg hB2.size
  replace hO2 := Lib.hid hO2
  clear hB2
  go_wp2_with fail
  refine (H3.out _).mono ?_
  rintro e w' ⟨rfl, rfl⟩
  have hlen1 : (flat ((pieces n).take k)).length = k * 2 := by rw [flat_len, List.length_take]; have := hL.out; omega
  have hone1 := flat_cells ((pieces n).take k)
  have hcl1 : ∀ j u, (flat ((pieces n).take k))[j]? = some u → W2.cell? ((⟨g, 0, none⟩ : Addr).add j) = some u := by
    intro j u hj
    rw [Addr.add_lit, Nat.zero_add]
    rw [flat_take] at hj
    have hj2 : j < k * 2 := by
      have := (List.getElem?_eq_some_iff.1 hj).1
      simp at this; omega
    rw [List.getElem?_take_of_lt hj2] at hj
    rw [hO2.out.1.cell (by omega)]; exact hj
  have hlen2 : (flat ((pieces n).drop (k + 1))).length = (L - (k + 1)) * 2 := by rw [flat_len, List.length_drop]; have := hL.out; omega
  have hone2 := flat_cells ((pieces n).drop (k + 1))
  have hcl2 : ∀ j u, (flat ((pieces n).drop (k + 1)))[j]? = some u → W2.cell? ((⟨g, (k + 1) * 2, none⟩ : Addr).add j) = some u := by
    intro j u hj
    rw [Addr.add_lit]
    have hj2 : j < (L - (k + 1)) * 2 := by
      have := (List.getElem?_eq_some_iff.1 hj).1
      omega
    rw [flat_drop, List.getElem?_drop] at hj
    rw [hO2.out.1.cell (by omega)]; exact hj
  have hlp : ((pieces n).take k).length = k := by rw [List.length_take]; have := hL.out; omega
  have hW2 : W2.heap.size ≤ W2.heap.size := Nat.le_refl _
  have hlessL : (less n k).length = L - 1 := by
    unfold less
    rw [List.length_append, hlp, List.length_drop]; have := hL.out; omega
  have hlessA : ∀ q ∈ less n k, q.1 ≤ 9 ∧ q.2 ≤ 9 := fun q hq => by
    unfold less at hq
    rcases List.mem_append.1 hq with h | h
    · exact fa.out q (List.mem_of_mem_take h)
    · exact fa.out q (List.mem_of_mem_drop h)
  have hfl : flat ((pieces n).take k) ++ flat ((pieces n).drop (k + 1)) = flat (less n k) := by rw [← flat_app]; rfl
  replace hlen1 := Lib.hid hlen1; replace hlen2 := Lib.hid hlen2; replace hone1 := Lib.hid hone1; replace hone2 := Lib.hid hone2; replace hcl1 := Lib.hid hcl1; replace hcl2 := Lib.hid hcl2; replace hlp := Lib.hid hlp; replace hlessL := Lib.hid hlessL; replace hlessA := Lib.hid hlessA; replace hfl := Lib.hid hfl
  by_cases hkc : k + 1 = c
  · have hkL : k + 1 = L := by omega
    have hdn : Hid ((pieces n).drop (k + 1) = []) := List.drop_eq_nil_of_le (by have := hL.out; omega)
    go_wp2_with (first
      | (at_builtin; refine wp_appendLV el23 W2 rfl (Operand.tmp 62) (Operand.tmp 65) rfl W2.heap.size none 0 0 [] rfl (OwnC.nil _ _ _ _) ⟨g, 0, none⟩ k c (flat ((pieces n).take k)) hlen1.out hone1.out hcl1.out rfl (by omega) hW2 ?_; intro p3 c3 W3 hO3 hg3 _ hz3; rw [Nat.zero_add, List.nil_append] at hO3; replace hO3 := Lib.hid hO3; skip; replace hg3 := Lib.hid hg3)
      | (at_builtin; refine wp_appendLV el23 W3 rfl (Operand.tmp 67) (Operand.tmp 71) rfl W2.heap.size p3 k c3 (flat ((pieces n).take k)) rfl hO3.out ⟨g, 0, none⟩ 0 0 [] rfl rfl (fun j u hj => by simp at hj) rfl (by omega) hz3 ?_; intro p4 c4 W4 hO4 hg4 _ hz4; rw [Nat.add_zero, List.append_nil] at hO4; replace hO4 := Lib.hid hO4; replace hg4 := Lib.hid hg4))
    have hO5 : OwnP W2.heap.size W4 p4 k c4 (less n k) := ⟨by rw [← hfl.out, hdn.out]; simpa [flat] using hO4.out, by rw [hlessL.out]; omega⟩
    have hBw4 : Below w.heap.size w W4 := by
      have h3 := hBw2.out.grown hg3.out hBw2.out.size (fun x hx => by cases hx)
      exact h3.grown hg4.out (Nat.le_trans hBw2.out.size hz3) (fun x hx => by
        cases p3 with
        | none => cases hx
        | some a => cases hx; have := (hO3.out.block a rfl).1; have := hBw2.out.size; show w.heap.size ≤ a.block; omega)
    have HR2 := row_any p4 k c4 W4.heap.size (less n k) W4 (by omega) (Nat.le_refl _) hO5.in hlessA.out
    rcases rowS (less n k) with ⟨m2, e2⟩
    replace HR2 := Lib.hid HR2; replace hO5 := Lib.hid hO5; replace hBw4 := Lib.hid hBw4
    refine HR2.out.mono ?_
    rintro e W5 ⟨q6, c6, rfl, hB6⟩
    have hBw6 := Lib.hid (hBw4.out.trans (hB6.mono hBw4.out.size))
    clear hB6
    go_wp2_with fail
    go_ret
    exact ⟨rfl, hBw6.out⟩
  · have hkc2 : k + 1 < c := by omega
    replace hkc := Lib.hid hkc
    skip
    go_wp2_with (first
      | (at_builtin; refine wp_appendLV el23 W2 rfl (Operand.tmp 62) (Operand.tmp 65) rfl W2.heap.size none 0 0 [] rfl (OwnC.nil _ _ _ _) ⟨g, 0, none⟩ k c (flat ((pieces n).take k)) hlen1.out hone1.out hcl1.out rfl (by omega) hW2 ?_; intro p3 c3 W3 hO3 hg3 _ hz3; rw [Nat.zero_add, List.nil_append] at hO3; replace hO3 := Lib.hid hO3; have hcl3 := keepCells hcl2 hg3 hg2 (by simp); replace hg3 := Lib.hid hg3)
      | (at_builtin; refine wp_appendLV el23 W3 rfl (Operand.tmp 67) (Operand.tmp 71) rfl W2.heap.size p3 k c3 (flat ((pieces n).take k)) rfl hO3.out ⟨g, (k + 1) * 2, none⟩ (L - (k + 1)) (c - (k + 1)) (flat ((pieces n).drop (k + 1))) hlen2.out hone2.out hcl3.out rfl (by omega) hz3 ?_; intro p4 c4 W4 hO4 hg4 _ hz4; replace hO4 := Lib.hid hO4; replace hg4 := Lib.hid hg4))
    have hO5 : OwnP W2.heap.size W4 p4 (k + (L - (k + 1))) c4 (less n k) := ⟨by rw [← hfl.out]; exact hO4.out, by rw [hlessL.out]; omega⟩
    have hBw4 : Below w.heap.size w W4 := by
      have h3 := hBw2.out.grown hg3.out hBw2.out.size (fun x hx => by cases hx)
      exact h3.grown hg4.out (Nat.le_trans hBw2.out.size hz3) (fun x hx => by
        cases p3 with
        | none => cases hx
        | some a => cases hx; have := (hO3.out.block a rfl).1; have := hBw2.out.size; show w.heap.size ≤ a.block; omega)
    have HR2 := row_any p4 (k + (L - (k + 1))) c4 W4.heap.size (less n k) W4 (by omega) (Nat.le_refl _) hO5.in hlessA.out
    rcases rowS (less n k) with ⟨m2, e2⟩
    replace HR2 := Lib.hid HR2; replace hO5 := Lib.hid hO5; replace hBw4 := Lib.hid hBw4
    refine HR2.out.mono ?_
    rintro e W5 ⟨q6, c6, rfl, hB6⟩
    have hBw6 := Lib.hid (hBw4.out.trans (hB6.mono hBw4.out.size))
    clear hB6
    go_wp2_with fail
    go_ret
    exact ⟨rfl, hBw6.out⟩
set_option maxHeartbeats 8000000 in
set_option maxRecDepth 100000 in
theorem eulerD (n : Nat) (a0 a1 : Int) (w : World) (x1 : -9223372036854775808 ≤ a0) (x2 : a0 ≤ 9223372036854775807) (y1 : -9223372036854775808 ≤ a1) (y2 : a1 ≤ 9223372036854775807) (hpn : pick a0 10 = n) (hn10 : n < 10) (hn : n % 2 = 1) (hn1 : n ≠ 1) :
    Calls Try.prog 3 #[.int .i64 a0, .int .i64 a1] w fun e w' => e = .returned (.bool true) ∧ Below w.heap.size w w' := by
  have H1 := Lib.hid (picked_any a0 10 w x1 x2 (by omega) (by omega) 10 rfl)
  have p1 := pick_lt a0 10 (by omega)
  rw [hpn] at H1
  have F := facts n hn10
  obtain ⟨fe, fm, fl, fl1, fl2, fa⟩ := F
  have H2 := Lib.hid (fun L W h1 h2 => picked_any a1 L W y1 y2 h1 h2 L rfl)
  have hkl := fun L h => pick_lt a1 L h
  have HS := Lib.hid (set_any n w (by omega) n rfl)
  have hlk := Lib.hid (fun k h0 he hk => lawK_true n k hn10 h0 he hk)
  generalize hL : (pieces n).length = L at *
  have hk := hkl L fl1
  have H3 := Lib.hid (fun W => H2.out L W fl1 (by omega))
  generalize pick a1 L = k at *
  clear hkl H2
  obtain ⟨M, hM⟩ : ∃ M, (n + 1) * (n + 2) = M := ⟨_, rfl⟩
  have hMI : ((n : Int) + 1) * ((n : Int) + 2) = (M : Int) := by rw [← hM]; push_cast; rfl
  have hM110 : M ≤ 10 * 11 := by rw [← hM]; exact Nat.mul_le_mul (by omega) (by omega)
  rw [hM] at fl
  have hML : (M : Int) / 2 = (L : Int) := by omega
  replace hM := Lib.hid hM; replace fl := Lib.hid fl; replace fa := Lib.hid fa; replace hL := Lib.hid hL; replace hpn := Lib.hid hpn
  have HR := Lib.hid (fun q c W (hO : OwnP w.heap.size W q L c (pieces n)) => row_any q L c W.heap.size (pieces n) W (by omega) (Nat.le_refl _) hO.in fa.out)
  rcases hrs : rowS (pieces n) with ⟨m1, e1⟩
  rw [hrs] at HR fe fm
  replace hrs := Lib.hid hrs
  simp only at fe fm HR
  clear x1 x2 y1 y2 p1
  have he : e1 ≠ 0 := by omega
  have ze : ((e1 : Int) == 0) = false := by simp; omega
  replace fe := Lib.hid fe; replace fm := Lib.hid fm; replace he := Lib.hid he
  have g0 : (n : Int) % 2 = 1 := by omega
  have z2 : ((n : Int) == 1) = false := by simp; omega
  replace hn := Lib.hid hn; replace hn1 := Lib.hid hn1
  go_enter Try.func3, Try.ntmps3
  go_wp2_with fail
  refine H1.out.mono ?_
  rintro e w' ⟨rfl, rfl⟩
  go_wp2_with fail
  refine HS.out.mono ?_
  rintro e W1 ⟨q, c, rfl, hO, hB1⟩
  obtain ⟨g, rfl, hgB, hg, hcc⟩ := hO.1.where (by omega)
  have HR1 := Lib.hid (HR.out _ _ _ hO)
  replace hO := Lib.hid hO; replace hB1 := Lib.hid hB1
  go_wp2_with fail
  refine HR1.out.mono ?_
  rintro e W2 ⟨q2, c2, rfl, hB2⟩
  have hO2 : OwnP w.heap.size W2 (some ⟨g, 0, none⟩) L c (pieces n) := ⟨hO.out.1.below hB2 (Nat.le_refl _), hO.out.2⟩
  have hBw2 := Lib.hid (hB1.out.trans (hB2.mono hB1.out.size))
  have hg2 := Nat.lt_of_lt_of_le hg hB2.size
  replace hO2 := Lib.hid hO2
  clear hB2
  go_wp2_with fail
  refine (H3.out _).mono ?_
  rintro e w' ⟨rfl, rfl⟩
  have hlen1 : (flat ((pieces n).take k)).length = k * 2 := by rw [flat_len, List.length_take]; have := hL.out; omega
  have hone1 := flat_cells ((pieces n).take k)
  have hcl1 : ∀ j u, (flat ((pieces n).take k))[j]? = some u → W2.cell? ((⟨g, 0, none⟩ : Addr).add j) = some u := by
    intro j u hj
    rw [Addr.add_lit, Nat.zero_add]
    rw [flat_take] at hj
    have hj2 : j < k * 2 := by
      have := (List.getElem?_eq_some_iff.1 hj).1
      simp at this; omega
    rw [List.getElem?_take_of_lt hj2] at hj
    rw [hO2.out.1.cell (by omega)]; exact hj
  have hlen2 : (flat ((pieces n).drop (k + 1))).length = (L - (k + 1)) * 2 := by rw [flat_len, List.length_drop]; have := hL.out; omega
  have hone2 := flat_cells ((pieces n).drop (k + 1))
  have hcl2 : ∀ j u, (flat ((pieces n).drop (k + 1)))[j]? = some u → W2.cell? ((⟨g, (k + 1) * 2, none⟩ : Addr).add j) = some u := by
    intro j u hj
    rw [Addr.add_lit]
    have hj2 : j < (L - (k + 1)) * 2 := by
      have := (List.getElem?_eq_some_iff.1 hj).1
      omega
    rw [flat_drop, List.getElem?_drop] at hj
    rw [hO2.out.1.cell (by omega)]; exact hj
  have hlp : ((pieces n).take k).length = k := by rw [List.length_take]; have := hL.out; omega
  have hW2 : W2.heap.size ≤ W2.heap.size := Nat.le_refl _
  have hlessL : (less n k).length = L - 1 := by
    unfold less
    rw [List.length_append, hlp, List.length_drop]; have := hL.out; omega
  have hlessA : ∀ q ∈ less n k, q.1 ≤ 9 ∧ q.2 ≤ 9 := fun q hq => by
    unfold less at hq
    rcases List.mem_append.1 hq with h | h
    · exact fa.out q (List.mem_of_mem_take h)
    · exact fa.out q (List.mem_of_mem_drop h)
  have hfl : flat ((pieces n).take k) ++ flat ((pieces n).drop (k + 1)) = flat (less n k) := by rw [← flat_app]; rfl
  replace hlen1 := Lib.hid hlen1; replace hlen2 := Lib.hid hlen2; replace hone1 := Lib.hid hone1; replace hone2 := Lib.hid hone2; replace hcl1 := Lib.hid hcl1; replace hcl2 := Lib.hid hcl2; replace hlp := Lib.hid hlp; replace hlessL := Lib.hid hlessL; replace hlessA := Lib.hid hlessA; replace hfl := Lib.hid hfl
  by_cases hkc : k + 1 = c
  · have hkL : k + 1 = L := by omega
    have hdn : Hid ((pieces n).drop (k + 1) = []) := List.drop_eq_nil_of_le (by have := hL.out; omega)
    go_wp2_with (first
      | (at_builtin; refine wp_appendLV el23 W2 rfl (Operand.tmp 62) (Operand.tmp 65) rfl W2.heap.size none 0 0 [] rfl (OwnC.nil _ _ _ _) ⟨g, 0, none⟩ k c (flat ((pieces n).take k)) hlen1.out hone1.out hcl1.out rfl (by omega) hW2 ?_; intro p3 c3 W3 hO3 hg3 _ hz3; rw [Nat.zero_add, List.nil_append] at hO3; replace hO3 := Lib.hid hO3; skip; replace hg3 := Lib.hid hg3)
      | (at_builtin; refine wp_appendLV el23 W3 rfl (Operand.tmp 67) (Operand.tmp 71) rfl W2.heap.size p3 k c3 (flat ((pieces n).take k)) rfl hO3.out ⟨g, 0, none⟩ 0 0 [] rfl rfl (fun j u hj => by simp at hj) rfl (by omega) hz3 ?_; intro p4 c4 W4 hO4 hg4 _ hz4; rw [Nat.add_zero, List.append_nil] at hO4; replace hO4 := Lib.hid hO4; replace hg4 := Lib.hid hg4))
    have hO5 : OwnP W2.heap.size W4 p4 k c4 (less n k) := ⟨by rw [← hfl.out, hdn.out]; simpa [flat] using hO4.out, by rw [hlessL.out]; omega⟩
    have hBw4 : Below w.heap.size w W4 := by
      have h3 := hBw2.out.grown hg3.out hBw2.out.size (fun x hx => by cases hx)
      exact h3.grown hg4.out (Nat.le_trans hBw2.out.size hz3) (fun x hx => by
        cases p3 with
        | none => cases hx
        | some a => cases hx; have := (hO3.out.block a rfl).1; have := hBw2.out.size; show w.heap.size ≤ a.block; omega)
    have HR2 := row_any p4 k c4 W4.heap.size (less n k) W4 (by omega) (Nat.le_refl _) hO5.in hlessA.out
    rcases rowS (less n k) with ⟨m2, e2⟩
    replace HR2 := Lib.hid HR2; replace hO5 := Lib.hid hO5; replace hBw4 := Lib.hid hBw4
    refine HR2.out.mono ?_
    rintro e W5 ⟨q6, c6, rfl, hB6⟩
    have hBw6 := Lib.hid (hBw4.out.trans (hB6.mono hBw4.out.size))
    clear hB6
    go_wp2_with fail
    go_ret
    exact ⟨rfl, hBw6.out⟩
  · have hkc2 : k + 1 < c := by omega
    replace hkc := Lib.hid hkc
    skip
    go_wp2_with (first
      | (at_builtin; refine wp_appendLV el23 W2 rfl (Operand.tmp 62) (Operand.tmp 65) rfl W2.heap.size none 0 0 [] rfl (OwnC.nil _ _ _ _) ⟨g, 0, none⟩ k c (flat ((pieces n).take k)) hlen1.out hone1.out hcl1.out rfl (by omega) hW2 ?_; intro p3 c3 W3 hO3 hg3 _ hz3; rw [Nat.zero_add, List.nil_append] at hO3; replace hO3 := Lib.hid hO3; have hcl3 := keepCells hcl2 hg3 hg2 (by simp); replace hg3 := Lib.hid hg3)
      | (at_builtin; refine wp_appendLV el23 W3 rfl (Operand.tmp 67) (Operand.tmp 71) rfl W2.heap.size p3 k c3 (flat ((pieces n).take k)) rfl hO3.out ⟨g, (k + 1) * 2, none⟩ (L - (k + 1)) (c - (k + 1)) (flat ((pieces n).drop (k + 1))) hlen2.out hone2.out hcl3.out rfl (by omega) hz3 ?_; intro p4 c4 W4 hO4 hg4 _ hz4; replace hO4 := Lib.hid hO4; replace hg4 := Lib.hid hg4))
    have hO5 : OwnP W2.heap.size W4 p4 (k + (L - (k + 1))) c4 (less n k) := ⟨by rw [← hfl.out]; exact hO4.out, by rw [hlessL.out]; omega⟩
    have hBw4 : Below w.heap.size w W4 := by
      have h3 := hBw2.out.grown hg3.out hBw2.out.size (fun x hx => by cases hx)
      exact h3.grown hg4.out (Nat.le_trans hBw2.out.size hz3) (fun x hx => by
        cases p3 with
        | none => cases hx
        | some a => cases hx; have := (hO3.out.block a rfl).1; have := hBw2.out.size; show w.heap.size ≤ a.block; omega)
    have HR2 := row_any p4 (k + (L - (k + 1))) c4 W4.heap.size (less n k) W4 (by omega) (Nat.le_refl _) hO5.in hlessA.out
    rcases rowS (less n k) with ⟨m2, e2⟩
    replace HR2 := Lib.hid HR2; replace hO5 := Lib.hid hO5; replace hBw4 := Lib.hid hBw4
    refine HR2.out.mono ?_
    rintro e W5 ⟨q6, c6, rfl, hB6⟩
    have hBw6 := Lib.hid (hBw4.out.trans (hB6.mono hBw4.out.size))
    clear hB6
    go_wp2_with fail
    go_ret
    exact ⟨rfl, hBw6.out⟩

theorem euler_any (a0 a1 : Int) (w : World) (x1 : -9223372036854775808 ≤ a0) (x2 : a0 ≤ 9223372036854775807) (y1 : -9223372036854775808 ≤ a1) (y2 : a1 ≤ 9223372036854775807) :
    Calls Try.prog 3 #[.int .i64 a0, .int .i64 a1] w fun e w' => e = .returned (.bool true) ∧ Below w.heap.size w w' := by
  have p1 := pick_lt a0 10 (by omega)
  rcases (show (pick a0 10 % 2 = 0 ∧ 0 < pick a0 10) ∨ pick a0 10 = 0 ∨ pick a0 10 = 1 ∨ (pick a0 10 % 2 = 1 ∧ pick a0 10 ≠ 1) from by omega) with ⟨h1, h2⟩ | h1 | h1 | ⟨h1, h2⟩
  · exact eulerA _ a0 a1 w x1 x2 y1 y2 rfl p1 h1 h2
  · exact eulerB _ a0 a1 w x1 x2 y1 y2 rfl p1 h1
  · exact eulerC _ a0 a1 w x1 x2 y1 y2 rfl p1 h1
  · exact eulerD _ a0 a1 w x1 x2 y1 y2 rfl p1 h1 h2
end Go.Proofs.Ytgnchgkiijncbaa
