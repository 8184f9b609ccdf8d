/- What gameroomkeep.StonesKo returns: true; conditions: ints of 64 bits. -/
import Derived.Test.YtefjliblaeadfaaPlE
import Derived.Test.YtefjliblaeadfaaSaG
import Derived.Test.YtefjliblaeadfaaGzr
import Derived.Test.YtefjliblaeadfaaOut32
import Derived.Test.YtefjliblaeadfaaEq2
import Derived.Deep.DeepCutAuto
namespace Go.Proofs.Ytefjliblaeadfaa
open Go.RowKit

/-- the same memory, whatever was drawn. -/
structure SameMem (w w' : World) : Prop where
  heap : w'.heap = w.heap
  rest : ∀ k W, Below k W w → Below k W w'
theorem SameMem.refl (w : World) : SameMem w w := ⟨rfl, fun _ _ h => h⟩
theorem SameMem.drew {w w' : World} (h : SameMem w w') : SameMem w w'.drew := ⟨h.heap, fun k W hb => Below.drew (h.rest k W hb)⟩
theorem SameMem.drewN {w w' : World} (h : SameMem w w') (n : Nat) : SameMem w (w'.drewN n) := ⟨h.heap, fun k W hb => below_drewN (h.rest k W hb) n⟩
theorem SameMem.below {k : Nat} {W w w' : World} (h : SameMem w w') (hb : Below k W w) : Below k W w' := h.rest k W hb
theorem cell1_ne {w : World} {g b : Nat} {i j : Nat} {v : Value} (h : g ≠ b) : (w.setCell ⟨b, j, none⟩ v).cell? ⟨g, i, none⟩ = w.cell? ⟨g, i, none⟩ := World.cell?_of_block (a := ⟨g, i, none⟩) (wset_ne _ _ h)
theorem cell_al {w : World} {g i : Nat} {v : Value} {o : Obj} (h : w.cell? ⟨g, i, none⟩ = some v) : (w.alloc o).cell? ⟨g, i, none⟩ = some v := (((Below.refl _ _).alloc (Nat.le_refl _) o : Below w.heap.size w _).cell (p := ⟨g, i, none⟩) (World.block_lt_of_cell? _ _ h)).trans h
theorem cell_dr {w : World} {p : Addr} {v : Value} (h : w.cell? p = some v) : w.drew.cell? p = some v := h
theorem ne_of_le1 {s g : Nat} (h : s + 1 ≤ g) : g ≠ s := by omega
theorem ne_of_le2 {s g : Nat} (h : s + 2 ≤ g) : g ≠ s := by omega
theorem ne_of_le3 {s g : Nat} (h : s + 2 ≤ g) : g ≠ s + 1 := by omega
theorem ne_add1 (s : Nat) : s ≠ s + 1 := by omega
theorem two_play : (playS 2 [0, 0] [0, 1, 0]).1.s = [0, 2] ∧ (playS 2 [0, 0] [0, 1, 0]).2 = (2, 8) := by decide +kernel

set_option maxHeartbeats 2000000 in
set_option maxRecDepth 100000 in
theorem ko_law (W H : Int) (q : Option Addr) (n c : Nat) (xs : List Int) (lp : Option Addr) (len lcap : Nat) (l : List Int) (w : World) (hW1 : -9223372036854775808 ≤ W) (hW2 : W ≤ 9223372036854775807) (hH1 : -9223372036854775808 ≤ H) (hH2 : H ≤ 9223372036854775807) (hn : n ≤ 9223372036854775807)
    (hx : IntsIn w q n xs) (hm : len ≤ 9223372036854775807) (hl : IntsIn w lp len l) (hlc : len ≤ lcap) (hcm : lcap ≤ 9223372036854775807) (hnil : lp = none → lcap = 0) :
    Calls Try.prog 3 #[.agg #[.int .i64 W, .int .i64 H, .slice q n c], .slice lp len lcap] w fun e w' => e = .returned (.bool true) ∧ Below w.heap.size w w' := by
  obtain ⟨W0, hW0⟩ : ∃ W0, W0 = w.alloc (.cells #[.int .i64 W, .int .i64 H, .slice q n c] 24) := ⟨_, rfl⟩
  have e0 := heap_alloc_new w (.cells #[.int .i64 W, .int .i64 H, .slice q n c] 24)
  have hB0 : Below w.heap.size w (w.alloc (.cells #[.int .i64 W, .int .i64 H, .slice q n c] 24)) := (Below.refl _ _).alloc (Nat.le_refl _) _
  rw [← hW0] at e0 hB0
  have HG := Lib.hid (grid_any 2 1 W0 (by omega) (by omega) 2 rfl 2 1 (Lib.hid rfl) (Lib.hid rfl))
  have HP1 : Hid (∃ t0 t1 : Nat, ∀ W' q c lp, IntsIn W' q 2 (asI [0, 0]) → IntsIn W' lp 3 [0, 1, 0] → Calls Try.prog 6 #[.agg #[.int .i64 2, .int .i64 1, .slice q 2 c], .slice lp 3 3] W' fun e w' => ∃ g' c', e = .returned (.tuple #[.agg #[.int .i64 2, .int .i64 1, .slice (some ⟨g', 0, none⟩) 2 c'], .agg #[.int .i64 (t0 : Int), .int .i64 (t1 : Int)], .int .i64 2, .int .i64 8]) ∧ IntsIn w' (some ⟨g', 0, none⟩) 2 (asI [0, 2]) ∧ Below W'.heap.size W' w') := by
    have hp := fun W' q c lp h1 h2 => play_any 2 1 2 c 3 3 q lp [0, 0] [0, 1, 0] W' (by omega) (by omega) (by omega) (by omega) (Lib.hid rfl) (by omega) (by omega) (by omega) h1 h2 (fun j => by rcases j with _ | _ | j <;> simp [st])
    obtain ⟨z1, z2⟩ := two_play
    generalize playS 2 [0, 0] [0, 1, 0] = Z at *
    obtain ⟨zz, n2, e2⟩ := Z
    simp only at z1 z2
    injection z2 with z2 z3
    subst z2 z3
    exact ⟨zz.t0, zz.t1, fun W' q c lp h1 h2 => (hp W' q c lp h1 h2).mono fun e w' h => by
      obtain ⟨⟨g', c', he, hi, _⟩, hb⟩ := h
      rw [z1] at hi
      exact ⟨g', c', he, hi, hb⟩⟩
  obtain ⟨t0, t1, HP1⟩ := HP1.out
  replace HP1 := Lib.hid HP1
  have HM := Lib.hid (fun W' (h : Below w.heap.size w W') => may_any q n c W H xs W' hn hW1 hW2 hH1 hH2 (hx.below h))
  replace hB0 := Lib.hid hB0; replace e0 := Lib.hid e0; replace hx := Lib.hid hx; replace hl := Lib.hid hl
  have hW0' := Lib.hid hW0
  subst hW0
  go_enter Try.func3, Try.ntmps3
  go_wp2_with fail
  refine HG.out.mono ?_
  rintro e w1 ⟨q1, c1, rfl, hO1, hB1⟩
  rw [zs_asI] at hO1
  have hbl1 : Hid (Below w.heap.size w w1) := hB0.out.trans (hB1.mono hB0.out.size)
  have f0 := Lib.hid ((hB1.block _ (lt_of_heap e0.out)).trans e0.out)
  have hI1 : IntsIn (w1.alloc (.cells #[.int .i64 0, .int .i64 1, .int .i64 0] 3)) q1 2 (asI [0, 0]) := hO1.in.alloc _
  have hI1b : IntsIn (w1.alloc (.cells #[.int .i64 0, .int .i64 1, .int .i64 0] 3)) (some ⟨w1.heap.size, 0, none⟩) 3 [0, 1, 0] := IntsIn.new _ _ _ _ _ _ rfl rfl rfl
  have HP1' := Lib.hid (HP1.out _ q1 c1 _ hI1 hI1b)
  clear HG hB1 e0 hO1 hI1 hI1b HP1
  go_wp2_with fail
  refine HP1'.out.mono ?_
  rintro e w2 ⟨g1, c2, rfl, hI2, hB2⟩
  have hbl2 : Hid (Below w.heap.size w w2) := (hbl1.out.alloc hbl1.out.size _).trans (hB2.mono (hbl1.out.alloc hbl1.out.size _).size)
  have f02 := Lib.hid ((hB2.block _ (by have := lt_of_heap f0.out; simp; omega)).trans (((Below.refl _ _).alloc (Nat.le_refl _) (.cells #[.int .i64 0, .int .i64 1, .int .i64 0] 3) : Below w1.heap.size w1 _).block _ (lt_of_heap f0.out)) |>.trans f0.out)
  obtain ⟨h1, h2⟩ := heap2 w2 (.cells #[.int .i64 2, .int .i64 1, .slice (some ⟨g1, 0, none⟩) 2 c2] 24) (.cells #[.int .i64 (t0 : Int), .int .i64 (t1 : Int)] 25)
  have x2 : ((w2.alloc (.cells #[.int .i64 2, .int .i64 1, .slice (some ⟨g1, 0, none⟩) 2 c2] 24)).alloc (.cells #[.int .i64 (t0 : Int), .int .i64 (t1 : Int)] 25)).cell? ⟨w2.heap.size, 2, none⟩ = some (.slice (some ⟨g1, 0, none⟩) 2 c2) := wcell (cs := [_, _, _]) h1 2
  have hI3 : IntsIn (((w2.alloc (.cells #[.int .i64 2, .int .i64 1, .slice (some ⟨g1, 0, none⟩) 2 c2] 24)).alloc (.cells #[.int .i64 (t0 : Int), .int .i64 (t1 : Int)] 25)).alloc (.cells #[.int .i64 0, .int .i64 2] 3)) (some ⟨g1, 0, none⟩) 2 [0, 2] := ((hI2.alloc _).alloc _).alloc _
  have hI3b : IntsIn (((w2.alloc (.cells #[.int .i64 2, .int .i64 1, .slice (some ⟨g1, 0, none⟩) 2 c2] 24)).alloc (.cells #[.int .i64 (t0 : Int), .int .i64 (t1 : Int)] 25)).alloc (.cells #[.int .i64 0, .int .i64 2] 3)) (some ⟨w2.heap.size + 1 + 1, 0, none⟩) 2 [0, 2] := IntsIn.new _ _ _ _ _ _ (by simp) rfl rfl
  have HS := Lib.hid (same_any _ _ 2 c2 2 2 _ _ _ (by omega) hI3 hI3b)
  rw [decide_eq_true rfl] at HS
  have hbl3 : Hid (Below w.heap.size w (((w2.alloc (.cells #[.int .i64 2, .int .i64 1, .slice (some ⟨g1, 0, none⟩) 2 c2] 24)).alloc (.cells #[.int .i64 (t0 : Int), .int .i64 (t1 : Int)] 25)).alloc (.cells #[.int .i64 0, .int .i64 2] 3))) := ((hbl2.out.alloc hbl2.out.size _).alloc (by have := hbl2.out.size; simp; omega) _).alloc (by have := hbl2.out.size; simp; omega) _
  have f03 : Hid ((((w2.alloc (.cells #[.int .i64 2, .int .i64 1, .slice (some ⟨g1, 0, none⟩) 2 c2] 24)).alloc (.cells #[.int .i64 (t0 : Int), .int .i64 (t1 : Int)] 25)).alloc (.cells #[.int .i64 0, .int .i64 2] 3)).heap[w.heap.size]? = some (.cells #[.int .i64 W, .int .i64 H, .slice q n c] 24 (0, 0))) := by
    show _ = _
    have := lt_of_heap f02.out
    rw [Below.heap_alloc _ _ _ (by simp; omega), Below.heap_alloc _ _ _ (by simp; omega), Below.heap_alloc _ _ _ this]; exact f02.out
  clear HP1' hB2 h1 h2 hI2 hI3 hI3b f0 hbl1
  go_wp2_with fail
  refine HS.out.mono ?_
  rintro e w5 ⟨rfl, hB5⟩
  have hbl5 : Hid (Below w.heap.size w w5) := hbl3.out.trans (hB5.mono hbl3.out.size)
  have f5 := Lib.hid ((hB5.block _ (lt_of_heap f03.out)).trans f03.out)
  have d0 : w5.cell? ⟨w.heap.size, 0, none⟩ = some (.int .i64 W) := wcell (cs := [_, _, _]) f5.out 0
  have d1 : w5.cell? ⟨w.heap.size, 1, none⟩ = some (.int .i64 H) := wcell (cs := [_, _, _]) f5.out 1
  have d2 : w5.cell? ⟨w.heap.size, 2, none⟩ = some (.slice q n c) := wcell (cs := [_, _, _]) f5.out 2
  clear HS hB5 f03 hbl3 f02 hbl2 x2
  by_cases hbad : mayG W H xs = false ∨ 200 < len
  · obtain ⟨E, hE, hEv⟩ : ∃ E : Int, (mayG W H xs = false ∧ E = 12 ∨ mayG W H xs = true ∧ 200 < len ∧ E = 11) ∧ (E = 12 ∨ E = 11) := by
      rcases Bool.eq_false_or_eq_true (mayG W H xs) with h | h
      · exact ⟨11, .inr ⟨h, by simpa [h] using hbad, rfl⟩, .inr rfl⟩
      · exact ⟨12, .inl ⟨h, rfl⟩, .inl rfl⟩
    have HP := Lib.hid (play_bad W H n c len lcap q lp xs w5 hn hW1 hW2 hH1 hH2 (hx.out.below hbl5.out) E hE)
    generalize mayG W H xs = ok at *
    replace hE := Lib.hid hE
    go_wp2_with fail
    refine HP.out.mono ?_
    rintro e w6 ⟨rfl, hB6⟩
    have hbl6 : Below w.heap.size w w6 := hbl5.out.trans (hB6.mono hbl5.out.size)
    have hbl7 : Hid (Below w.heap.size w ((w6.alloc (.cells #[.int .i64 0, .int .i64 0, .slice none 0 0] 24)).alloc (.cells #[.int .i64 0, .int .i64 0] 25))) := (hbl6.alloc hbl6.size _).alloc (by have := hbl6.size; simp; omega) _
    have f7 : ((w6.alloc (.cells #[.int .i64 0, .int .i64 0, .slice none 0 0] 24)).alloc (.cells #[.int .i64 0, .int .i64 0] 25)).heap[w.heap.size]? = some (.cells #[.int .i64 W, .int .i64 H, .slice q n c] 24 (0, 0)) := by
      have h1 := lt_of_heap f5.out
      have h2 := hB6.size
      rw [Below.heap_alloc _ _ _ (by simp; omega), Below.heap_alloc _ _ _ (by omega)]; exact (hB6.block _ h1).trans f5.out
    have b0 : ((w6.alloc (.cells #[.int .i64 0, .int .i64 0, .slice none 0 0] 24)).alloc (.cells #[.int .i64 0, .int .i64 0] 25)).cell? ⟨w.heap.size, 0, none⟩ = some (.int .i64 W) := wcell (cs := [_, _, _]) f7 0
    have b1 : ((w6.alloc (.cells #[.int .i64 0, .int .i64 0, .slice none 0 0] 24)).alloc (.cells #[.int .i64 0, .int .i64 0] 25)).cell? ⟨w.heap.size, 1, none⟩ = some (.int .i64 H) := wcell (cs := [_, _, _]) f7 1
    have b2 : ((w6.alloc (.cells #[.int .i64 0, .int .i64 0, .slice none 0 0] 24)).alloc (.cells #[.int .i64 0, .int .i64 0] 25)).cell? ⟨w.heap.size, 2, none⟩ = some (.slice q n c) := wcell (cs := [_, _, _]) f7 2
    have HM7 := Lib.hid (HM.out _ hbl7.out)
    clear HP hB6 hbl6 f7 d0 d1 d2
    go_wp2_with fail
    refine HM7.out.mono ?_
    rintro e w8 ⟨rfl, hB8⟩
    have hbl8 := Lib.hid (hbl7.out.trans (hB8.mono hbl7.out.size))
    clear HM7 hB8 b0 b1 b2
    have hend : Hid (∀ x : Value, x = .bool true → Ending.returned x = Ending.returned (.bool true)) := fun x h => by rw [h]
    rcases hE.out with ⟨rfl, rfl⟩ | ⟨rfl, hlen, rfl⟩
    · go_wp2_with fail
      go_ret
      exact ⟨rfl, hbl8.out⟩
    · have hl2 : (len : Int) > 200 := by omega
      go_wp2_with fail
      go_ret
      exact ⟨rfl, hbl8.out⟩
  · obtain ⟨hok, hlen⟩ : mayG W H xs = true ∧ len ≤ 200 := by
      rcases Bool.eq_false_or_eq_true (mayG W H xs) with h | h
      · exact ⟨h, by omega⟩
      · exact absurd (.inl h) hbad
    rw [hok] at HM
    obtain ⟨a, b, s, rfl, rfl, rfl, ha1, ha, hb1, hb, hsl, hs⟩ := mayG_yes hok
    have hnab : Hid (n = a * b) := by have := hx.out.len; rw [asI_len] at this; show _ = _; omega
    have hn100 : n ≤ 100 := by rw [hnab.out]; exact Nat.mul_le_mul (show a ≤ 10 by omega) (show b ≤ 10 by omega)
    have hn1 : 0 < n := by rw [hnab.out]; exact Nat.mul_le_mul ha1 hb1
    have HP := Lib.hid (fun W' (h : Below w.heap.size w W') => play_any a b n c len lcap q lp s l W' ha1 ha hb1 hb hnab hn100 hn1 hlen (hx.out.below h) (hl.out.below h) hs)
    obtain ⟨hL1, hL2, hL3⟩ := playS_law a s l
    have hll : l.length = len := hl.out.len
    rw [hll] at hL1 hL2
    have HQ := Lib.hid (fun W' (h : Below w.heap.size w W') cc => play_any a b n c (playS a s l).2.1 cc q lp s (l.take (playS a s l).2.1) W' ha1 ha hb1 hb hnab hn100 hn1 (by omega) (hx.out.below h) (by
      have := (hl.out.below h).part 0 (playS a s l).2.1 (Nat.zero_le _) hL1 lp (fun _ => by cases lp <;> simp [Addr.add])
      simpa using this) hs)
    rw [hL3] at HQ
    generalize playS a s l = Z at *
    obtain ⟨z, m, er⟩ := Z
    simp only at hL1 hL2 hL3 HQ
    replace hL3 := Lib.hid hL3; replace hsl := Lib.hid hsl; replace hs := Lib.hid hs; replace hok := Lib.hid hok
    have HP5 := Lib.hid (HP.out w5 hbl5.out)
    clear HP hbad
    go_wp2_with fail
    refine HP5.out.mono ?_
    rintro e w6 ⟨⟨g3, c3, rfl, hI6, _⟩, hB6⟩
    have hbl6 : Below w.heap.size w w6 := hbl5.out.trans (hB6.mono hbl5.out.size)
    have hbl7 : Hid (Below w.heap.size w ((w6.alloc (.cells #[.int .i64 (a : Int), .int .i64 (b : Int), .slice (some ⟨g3, 0, none⟩) n c3] 24)).alloc (.cells #[.int .i64 (z.t0 : Int), .int .i64 (z.t1 : Int)] 25))) := (hbl6.alloc hbl6.size _).alloc (by have := hbl6.size; simp; omega) _
    obtain ⟨h9, h10⟩ := heap2 w6 (.cells #[.int .i64 (a : Int), .int .i64 (b : Int), .slice (some ⟨g3, 0, none⟩) n c3] 24) (.cells #[.int .i64 (z.t0 : Int), .int .i64 (z.t1 : Int)] 25)
    have hI7 := Lib.hid ((hI6.alloc (.cells #[.int .i64 (a : Int), .int .i64 (b : Int), .slice (some ⟨g3, 0, none⟩) n c3] 24)).alloc (.cells #[.int .i64 (z.t0 : Int), .int .i64 (z.t1 : Int)] 25))
    have f7 : ((w6.alloc (.cells #[.int .i64 (a : Int), .int .i64 (b : Int), .slice (some ⟨g3, 0, none⟩) n c3] 24)).alloc (.cells #[.int .i64 (z.t0 : Int), .int .i64 (z.t1 : Int)] 25)).heap[w.heap.size]? = some (.cells #[.int .i64 (a : Int), .int .i64 (b : Int), .slice q n c] 24 (0, 0)) := by
      have h1 := lt_of_heap f5.out
      have h2 := hB6.size
      rw [Below.heap_alloc _ _ _ (by simp; omega), Below.heap_alloc _ _ _ (by omega)]; exact (hB6.block _ h1).trans f5.out
    have b0 : ((w6.alloc (.cells #[.int .i64 (a : Int), .int .i64 (b : Int), .slice (some ⟨g3, 0, none⟩) n c3] 24)).alloc (.cells #[.int .i64 (z.t0 : Int), .int .i64 (z.t1 : Int)] 25)).cell? ⟨w.heap.size, 0, none⟩ = some (.int .i64 (a : Int)) := wcell (cs := [_, _, _]) f7 0
    have b1 : ((w6.alloc (.cells #[.int .i64 (a : Int), .int .i64 (b : Int), .slice (some ⟨g3, 0, none⟩) n c3] 24)).alloc (.cells #[.int .i64 (z.t0 : Int), .int .i64 (z.t1 : Int)] 25)).cell? ⟨w.heap.size, 1, none⟩ = some (.int .i64 (b : Int)) := wcell (cs := [_, _, _]) f7 1
    have b2 : ((w6.alloc (.cells #[.int .i64 (a : Int), .int .i64 (b : Int), .slice (some ⟨g3, 0, none⟩) n c3] 24)).alloc (.cells #[.int .i64 (z.t0 : Int), .int .i64 (z.t1 : Int)] 25)).cell? ⟨w.heap.size, 2, none⟩ = some (.slice q n c) := wcell (cs := [_, _, _]) f7 2
    have HM7 := Lib.hid (HM.out _ hbl7.out)
    replace h9 := Lib.hid h9; replace h10 := Lib.hid h10; replace f7 := Lib.hid f7
    clear HP5 hB6 hbl6 d0 d1 d2 hI6
    have hlen' : ¬ (len : Int) > 200 := by omega
    go_wp2_with fail
    refine HM7.out.mono ?_
    rintro e w8 ⟨rfl, hB8⟩
    have hbl8 := Lib.hid (hbl7.out.trans (hB8.mono hbl7.out.size))
    have h98 := Lib.hid ((hB8.block _ (lt_of_heap h9.out)).trans h9.out)
    have h108 := Lib.hid ((hB8.block _ (lt_of_heap h10.out)).trans h10.out)
    have hI8 := Lib.hid (hI7.out.below hB8)
    have f8 := Lib.hid ((hB8.block _ (lt_of_heap f7.out)).trans f7.out)
    obtain ⟨B9, hB9⟩ : ∃ B9, B9 = w6.heap.size := ⟨_, rfl⟩
    rw [← hB9] at h98 h108
    have d0 : w8.cell? ⟨w.heap.size, 0, none⟩ = some (.int .i64 (a : Int)) := wcell (cs := [_, _, _]) f8.out 0
    have d1 : w8.cell? ⟨w.heap.size, 1, none⟩ = some (.int .i64 (b : Int)) := wcell (cs := [_, _, _]) f8.out 1
    have d2 : w8.cell? ⟨w.heap.size, 2, none⟩ = some (.slice q n c) := wcell (cs := [_, _, _]) f8.out 2
    rw [← hB9]
    replace hB9 := Lib.hid hB9
    clear HM7 hB8 b0 b1 b2 h9 h10 hI7 f7 HM
    have hm0 : ¬ (m : Int) < 0 := by omega
    have hm1 : ¬ (m : Int) > (len : Int) := by omega
    have hmL : (m : Int) ≤ (len : Int) := by omega
    have hm2 : (0 : Int) ≤ (m : Int) := by omega
    have hm3 : ¬ len < m := by omega
    have hneq : (((er : Int) == 0) == ((m : Int) == (len : Int))) = true := by
      by_cases h : er = 0
      · have := hL2.1 h
        rw [h, this]; simp
      · have h3 : ¬ m = len := fun e => h (hL2.2 e)
        have e1 : ((er : Int) == 0) = false := by simpa using h
        have e2 : ((m : Int) == (len : Int)) = false := by simpa using (by omega : ¬ (m : Int) = len)
        rw [e1, e2]; rfl
    replace hL2 := Lib.hid hL2
    go_upto_region 9 with fail
    have hmc : (m : Int) ≤ (lcap : Int) := by omega
    have hm4 : ¬ lcap < m := by omega
    have hgl8 : w.heap.size < w8.heap.size := lt_of_heap f8.out
    have hHQ : Hid (∀ W' : World, Below w8.heap.size w8 W' → ∀ cc, Calls Try.prog 6 #[.agg #[.int .i64 (a : Int), .int .i64 (b : Int), .slice q n c], .slice lp m cc] W' fun e w' => ∃ g' c', e = .returned (.tuple #[.agg #[.int .i64 (a : Int), .int .i64 (b : Int), .slice (some ⟨g', 0, none⟩) n c'], .agg #[.int .i64 (z.t0 : Int), .int .i64 (z.t1 : Int)], .int .i64 (m : Int), .int .i64 0]) ∧ IntsIn w' (some ⟨g', 0, none⟩) n (asI z.s) ∧ Below w8.heap.size w8 w' ∧ W'.heap.size ≤ g' ∧ (∀ k o, W'.heap[k]? = some o → w'.heap[k]? = some o)) := fun W' h cc =>
      (HQ.out W' (hbl8.out.trans (h.mono hbl8.out.size)) cc).mono fun e w' h5 => by
        obtain ⟨⟨g', c', h1, h2, hge⟩, h3⟩ := h5
        exact ⟨g', c', h1, h2, h.trans (h3.mono h.size), hge, fun k o hk => (h3.block k (lt_of_heap hk)).trans hk⟩
    have hnA : w.heap.size ≠ w8.heap.size := Nat.ne_of_lt hgl8
    have hnB : w.heap.size ≠ w8.heap.size + 1 := Nat.ne_of_lt (Nat.lt_succ_of_lt hgl8)
    have hHQn : Hid (∀ W' : World, SameMem w8 W' → ∀ cc, Calls Try.prog 6 #[.agg #[.int .i64 (a : Int), .int .i64 (b : Int), .slice q n c], .slice lp m cc] W' fun e w' => ∃ g' c', e = .returned (.tuple #[.agg #[.int .i64 (a : Int), .int .i64 (b : Int), .slice (some ⟨g', 0, none⟩) n c'], .agg #[.int .i64 (z.t0 : Int), .int .i64 (z.t1 : Int)], .int .i64 (m : Int), .int .i64 0]) ∧ IntsIn w' (some ⟨g', 0, none⟩) n (asI z.s) ∧ Below w8.heap.size w8 w' ∧ w8.heap.size ≤ g' ∧ True) := fun W' hW cc => by
      have hb : Below w8.heap.size w8 W' := hW.below (Below.refl _ _)
      refine (hHQ.out W' hb cc).mono fun e w' h => ?_
      obtain ⟨g', c', h1, h2, h3, h4, hk⟩ := h
      rw [hW.heap] at hk h4
      exact ⟨g', c', h1, h2, h3, by simpa using h4, trivial⟩
    have hHQA : Hid (∀ W' : World, SameMem (w8.alloc (.cells #[.int .i64 0, .int .i64 0, .slice none 0 0] 24)) W' → ∀ cc, Calls Try.prog 6 #[.agg #[.int .i64 (a : Int), .int .i64 (b : Int), .slice q n c], .slice lp m cc] W' fun e w' => ∃ g' c', e = .returned (.tuple #[.agg #[.int .i64 (a : Int), .int .i64 (b : Int), .slice (some ⟨g', 0, none⟩) n c'], .agg #[.int .i64 (z.t0 : Int), .int .i64 (z.t1 : Int)], .int .i64 (m : Int), .int .i64 0]) ∧ IntsIn w' (some ⟨g', 0, none⟩) n (asI z.s) ∧ Below w8.heap.size w8 w' ∧ w8.heap.size + 1 ≤ g' ∧ w'.heap[w8.heap.size]? = some (.cells #[.int .i64 0, .int .i64 0, .slice none 0 0] 24 (0, 0))) := fun W' hW cc => by
      have hb : Below w8.heap.size w8 W' := hW.below ((Below.refl _ _).alloc (Nat.le_refl _) _)
      refine (hHQ.out W' hb cc).mono fun e w' h => ?_
      obtain ⟨g', c', h1, h2, h3, h4, hk⟩ := h
      rw [hW.heap] at hk h4
      exact ⟨g', c', h1, h2, h3, by simpa using h4, hk _ _ (heap_alloc_new w8 _)⟩
    have hHQB : Hid (∀ W' : World, SameMem (w8.alloc (.cells #[.int .i64 0, .int .i64 0] 25)) W' → ∀ cc, Calls Try.prog 6 #[.agg #[.int .i64 (a : Int), .int .i64 (b : Int), .slice q n c], .slice lp m cc] W' fun e w' => ∃ g' c', e = .returned (.tuple #[.agg #[.int .i64 (a : Int), .int .i64 (b : Int), .slice (some ⟨g', 0, none⟩) n c'], .agg #[.int .i64 (z.t0 : Int), .int .i64 (z.t1 : Int)], .int .i64 (m : Int), .int .i64 0]) ∧ IntsIn w' (some ⟨g', 0, none⟩) n (asI z.s) ∧ Below w8.heap.size w8 w' ∧ w8.heap.size + 1 ≤ g' ∧ w'.heap[w8.heap.size]? = some (.cells #[.int .i64 0, .int .i64 0] 25 (0, 0))) := fun W' hW cc => by
      have hb : Below w8.heap.size w8 W' := hW.below ((Below.refl _ _).alloc (Nat.le_refl _) _)
      refine (hHQ.out W' hb cc).mono fun e w' h => ?_
      obtain ⟨g', c', h1, h2, h3, h4, hk⟩ := h
      rw [hW.heap] at hk h4
      exact ⟨g', c', h1, h2, h3, by simpa using h4, hk _ _ (heap_alloc_new w8 _)⟩
    have hHQAB : Hid (∀ W' : World, SameMem ((w8.alloc (.cells #[.int .i64 0, .int .i64 0, .slice none 0 0] 24)).alloc (.cells #[.int .i64 0, .int .i64 0] 25)) W' → ∀ cc, Calls Try.prog 6 #[.agg #[.int .i64 (a : Int), .int .i64 (b : Int), .slice q n c], .slice lp m cc] W' fun e w' => ∃ g' c', e = .returned (.tuple #[.agg #[.int .i64 (a : Int), .int .i64 (b : Int), .slice (some ⟨g', 0, none⟩) n c'], .agg #[.int .i64 (z.t0 : Int), .int .i64 (z.t1 : Int)], .int .i64 (m : Int), .int .i64 0]) ∧ IntsIn w' (some ⟨g', 0, none⟩) n (asI z.s) ∧ Below w8.heap.size w8 w' ∧ w8.heap.size + 2 ≤ g' ∧ w'.heap[w8.heap.size]? = some (.cells #[.int .i64 0, .int .i64 0, .slice none 0 0] 24 (0, 0)) ∧ w'.heap[w8.heap.size + 1]? = some (.cells #[.int .i64 0, .int .i64 0] 25 (0, 0))) := fun W' hW cc => by
      have hb : Below w8.heap.size w8 W' := hW.below (below2 _ _ _)
      refine (hHQ.out W' hb cc).mono fun e w' h => ?_
      obtain ⟨g', c', h1, h2, h3, h4, hk⟩ := h
      rw [hW.heap] at hk h4
      exact ⟨g', c', h1, h2, h3, by simpa using h4, ⟨hk _ _ (heap2 w8 _ _).1, hk _ _ (heap2 w8 _ _).2⟩⟩
    have hHQBA : Hid (∀ W' : World, SameMem ((w8.alloc (.cells #[.int .i64 0, .int .i64 0] 25)).alloc (.cells #[.int .i64 0, .int .i64 0, .slice none 0 0] 24)) W' → ∀ cc, Calls Try.prog 6 #[.agg #[.int .i64 (a : Int), .int .i64 (b : Int), .slice q n c], .slice lp m cc] W' fun e w' => ∃ g' c', e = .returned (.tuple #[.agg #[.int .i64 (a : Int), .int .i64 (b : Int), .slice (some ⟨g', 0, none⟩) n c'], .agg #[.int .i64 (z.t0 : Int), .int .i64 (z.t1 : Int)], .int .i64 (m : Int), .int .i64 0]) ∧ IntsIn w' (some ⟨g', 0, none⟩) n (asI z.s) ∧ Below w8.heap.size w8 w' ∧ w8.heap.size + 2 ≤ g' ∧ w'.heap[w8.heap.size]? = some (.cells #[.int .i64 0, .int .i64 0] 25 (0, 0)) ∧ w'.heap[w8.heap.size + 1]? = some (.cells #[.int .i64 0, .int .i64 0, .slice none 0 0] 24 (0, 0))) := fun W' hW cc => by
      have hb : Below w8.heap.size w8 W' := hW.below (below2 _ _ _)
      refine (hHQ.out W' hb cc).mono fun e w' h => ?_
      obtain ⟨g', c', h1, h2, h3, h4, hk⟩ := h
      rw [hW.heap] at hk h4
      exact ⟨g', c', h1, h2, h3, by simpa using h4, ⟨hk _ _ (heap2 w8 _ _).1, hk _ _ (heap2 w8 _ _).2⟩⟩
    go_cut [11, 12, 13, 14] (fun v u vt ve wx => ∃ g4 c4, Out32 w8 (.int .i64 (a : Int)) (.int .i64 (b : Int)) (.slice (some ⟨g4, 0, none⟩) n c4) (.int .i64 (z.t0 : Int)) (.int .i64 (z.t1 : Int)) g4 n (asI z.s) v u wx ∧ vt = .int .i64 (m : Int) ∧ ve = .int .i64 0)
    case first =>
      rcases lp with _ | ⟨lb, lo, lpa⟩
      · have e1 : lcap = 0 := hnil rfl
        have e2 : len = 0 := by omega
        have e3 : m = 0 := by omega
        subst e1 e2 e3
        go_region_held3 (fun w' => w'.cell? ⟨w.heap.size, 0, none⟩ = some (.int .i64 (a : Int)) ∧ w'.cell? ⟨w.heap.size, 1, none⟩ = some (.int .i64 (b : Int)) ∧ w'.cell? ⟨w.heap.size, 2, none⟩ = some (.slice q n c)) (with_reducible first | exact ⟨y0, y1, y2⟩ | exact ⟨d0, d1, d2⟩ | exact ⟨y0a _, y1a _, y2a _⟩ | (refine ⟨?_, ?_, ?_⟩ <;> (repeat (first | apply cell_dr | apply cell_al | (refine (cell1_ne hnA).trans ?_) | (refine (cell1_ne hnB).trans ?_) | (refine (cell1_ne hn9).trans ?_))) <;> (first | exact y0 | exact y1 | exact y2 | exact d0 | exact d1 | exact d2)))
          (first
            | (go_at_call 6; (with_reducible refine (hHQn.out _ ?_ _).mono ?_); (with_reducible first | exact SameMem.refl _ | exact (SameMem.refl _).drew | exact (SameMem.refl _).drewN _ | exact (SameMem.refl _).drew.drew | exact ((SameMem.refl _).drewN _).drew); rintro e w9 ⟨g4, c4, rfl, hI9, hB9, hg9, hk9⟩; have hs9 : w.heap.size < w9.heap.size := Nat.lt_of_lt_of_le hgl8 hB9.size; have hn9 : w.heap.size ≠ w9.heap.size := Nat.ne_of_lt hs9; have y0 : w9.cell? ⟨w.heap.size, 0, none⟩ = some (.int .i64 (a : Int)) := (hB9.cell (p := ⟨w.heap.size, 0, none⟩) hgl8).trans d0; have y1 : w9.cell? ⟨w.heap.size, 1, none⟩ = some (.int .i64 (b : Int)) := (hB9.cell (p := ⟨w.heap.size, 1, none⟩) hgl8).trans d1; have y2 : w9.cell? ⟨w.heap.size, 2, none⟩ = some (.slice q n c) := (hB9.cell (p := ⟨w.heap.size, 2, none⟩) hgl8).trans d2; have y0a : ∀ o, (w9.alloc o).cell? ⟨w.heap.size, 0, none⟩ = some (.int .i64 (a : Int)) := fun o => (((Below.refl _ _).alloc (Nat.le_refl _) o : Below w9.heap.size w9 _).cell (p := ⟨w.heap.size, 0, none⟩) hs9).trans y0; have y1a : ∀ o, (w9.alloc o).cell? ⟨w.heap.size, 1, none⟩ = some (.int .i64 (b : Int)) := fun o => (((Below.refl _ _).alloc (Nat.le_refl _) o : Below w9.heap.size w9 _).cell (p := ⟨w.heap.size, 1, none⟩) hs9).trans y1; have y2a : ∀ o, (w9.alloc o).cell? ⟨w.heap.size, 2, none⟩ = some (.slice q n c) := fun o => (((Below.refl _ _).alloc (Nat.le_refl _) o : Below w9.heap.size w9 _).cell (p := ⟨w.heap.size, 2, none⟩) hs9).trans y2; replace hI9 := Lib.hid hI9; replace hB9 := Lib.hid hB9; replace hg9 := Lib.hid hg9; replace hk9 := Lib.hid hk9)
            | (go_at_call 6; (with_reducible refine (hHQA.out _ ?_ _).mono ?_); (with_reducible first | exact SameMem.refl _ | exact (SameMem.refl _).drew | exact (SameMem.refl _).drewN _ | exact (SameMem.refl _).drew.drew | exact ((SameMem.refl _).drewN _).drew); rintro e w9 ⟨g4, c4, rfl, hI9, hB9, hg9, hk9⟩; have hs9 : w.heap.size < w9.heap.size := Nat.lt_of_lt_of_le hgl8 hB9.size; have hn9 : w.heap.size ≠ w9.heap.size := Nat.ne_of_lt hs9; have y0 : w9.cell? ⟨w.heap.size, 0, none⟩ = some (.int .i64 (a : Int)) := (hB9.cell (p := ⟨w.heap.size, 0, none⟩) hgl8).trans d0; have y1 : w9.cell? ⟨w.heap.size, 1, none⟩ = some (.int .i64 (b : Int)) := (hB9.cell (p := ⟨w.heap.size, 1, none⟩) hgl8).trans d1; have y2 : w9.cell? ⟨w.heap.size, 2, none⟩ = some (.slice q n c) := (hB9.cell (p := ⟨w.heap.size, 2, none⟩) hgl8).trans d2; have y0a : ∀ o, (w9.alloc o).cell? ⟨w.heap.size, 0, none⟩ = some (.int .i64 (a : Int)) := fun o => (((Below.refl _ _).alloc (Nat.le_refl _) o : Below w9.heap.size w9 _).cell (p := ⟨w.heap.size, 0, none⟩) hs9).trans y0; have y1a : ∀ o, (w9.alloc o).cell? ⟨w.heap.size, 1, none⟩ = some (.int .i64 (b : Int)) := fun o => (((Below.refl _ _).alloc (Nat.le_refl _) o : Below w9.heap.size w9 _).cell (p := ⟨w.heap.size, 1, none⟩) hs9).trans y1; have y2a : ∀ o, (w9.alloc o).cell? ⟨w.heap.size, 2, none⟩ = some (.slice q n c) := fun o => (((Below.refl _ _).alloc (Nat.le_refl _) o : Below w9.heap.size w9 _).cell (p := ⟨w.heap.size, 2, none⟩) hs9).trans y2; have uA0 : w9.cell? ⟨w8.heap.size, 0, none⟩ = some (.int .i64 0) := wcell (cs := [_, _, _]) hk9 0; have fA0 : w9.frozen? ⟨w8.heap.size, 0, none⟩ = false := wfree hk9 0; have pA0 : ∀ o, (w9.alloc o).cell? ⟨w8.heap.size, 0, none⟩ = some (.int .i64 0) := fun o => wcell (cs := [_, _, _]) ((Below.heap_alloc w9 o _ (lt_of_heap hk9)).trans hk9) 0; have qA0 : ∀ o, (w9.alloc o).frozen? ⟨w8.heap.size, 0, none⟩ = false := fun o => wfree ((Below.heap_alloc w9 o _ (lt_of_heap hk9)).trans hk9) 0; have uA1 : w9.cell? ⟨w8.heap.size, 1, none⟩ = some (.int .i64 0) := wcell (cs := [_, _, _]) hk9 1; have fA1 : w9.frozen? ⟨w8.heap.size, 1, none⟩ = false := wfree hk9 1; have pA1 : ∀ o, (w9.alloc o).cell? ⟨w8.heap.size, 1, none⟩ = some (.int .i64 0) := fun o => wcell (cs := [_, _, _]) ((Below.heap_alloc w9 o _ (lt_of_heap hk9)).trans hk9) 1; have qA1 : ∀ o, (w9.alloc o).frozen? ⟨w8.heap.size, 1, none⟩ = false := fun o => wfree ((Below.heap_alloc w9 o _ (lt_of_heap hk9)).trans hk9) 1; have uA2 : w9.cell? ⟨w8.heap.size, 2, none⟩ = some (.slice none 0 0) := wcell (cs := [_, _, _]) hk9 2; have fA2 : w9.frozen? ⟨w8.heap.size, 2, none⟩ = false := wfree hk9 2; have pA2 : ∀ o, (w9.alloc o).cell? ⟨w8.heap.size, 2, none⟩ = some (.slice none 0 0) := fun o => wcell (cs := [_, _, _]) ((Below.heap_alloc w9 o _ (lt_of_heap hk9)).trans hk9) 2; have qA2 : ∀ o, (w9.alloc o).frozen? ⟨w8.heap.size, 2, none⟩ = false := fun o => wfree ((Below.heap_alloc w9 o _ (lt_of_heap hk9)).trans hk9) 2; have hl9 := lt_of_heap hk9; replace hI9 := Lib.hid hI9; replace hB9 := Lib.hid hB9; replace hg9 := Lib.hid hg9; replace hk9 := Lib.hid hk9)
            | (go_at_call 6; (with_reducible refine (hHQB.out _ ?_ _).mono ?_); (with_reducible first | exact SameMem.refl _ | exact (SameMem.refl _).drew | exact (SameMem.refl _).drewN _ | exact (SameMem.refl _).drew.drew | exact ((SameMem.refl _).drewN _).drew); rintro e w9 ⟨g4, c4, rfl, hI9, hB9, hg9, hk9⟩; have hs9 : w.heap.size < w9.heap.size := Nat.lt_of_lt_of_le hgl8 hB9.size; have hn9 : w.heap.size ≠ w9.heap.size := Nat.ne_of_lt hs9; have y0 : w9.cell? ⟨w.heap.size, 0, none⟩ = some (.int .i64 (a : Int)) := (hB9.cell (p := ⟨w.heap.size, 0, none⟩) hgl8).trans d0; have y1 : w9.cell? ⟨w.heap.size, 1, none⟩ = some (.int .i64 (b : Int)) := (hB9.cell (p := ⟨w.heap.size, 1, none⟩) hgl8).trans d1; have y2 : w9.cell? ⟨w.heap.size, 2, none⟩ = some (.slice q n c) := (hB9.cell (p := ⟨w.heap.size, 2, none⟩) hgl8).trans d2; have y0a : ∀ o, (w9.alloc o).cell? ⟨w.heap.size, 0, none⟩ = some (.int .i64 (a : Int)) := fun o => (((Below.refl _ _).alloc (Nat.le_refl _) o : Below w9.heap.size w9 _).cell (p := ⟨w.heap.size, 0, none⟩) hs9).trans y0; have y1a : ∀ o, (w9.alloc o).cell? ⟨w.heap.size, 1, none⟩ = some (.int .i64 (b : Int)) := fun o => (((Below.refl _ _).alloc (Nat.le_refl _) o : Below w9.heap.size w9 _).cell (p := ⟨w.heap.size, 1, none⟩) hs9).trans y1; have y2a : ∀ o, (w9.alloc o).cell? ⟨w.heap.size, 2, none⟩ = some (.slice q n c) := fun o => (((Below.refl _ _).alloc (Nat.le_refl _) o : Below w9.heap.size w9 _).cell (p := ⟨w.heap.size, 2, none⟩) hs9).trans y2; have uB0 : w9.cell? ⟨w8.heap.size, 0, none⟩ = some (.int .i64 0) := wcell (cs := [_, _]) hk9 0; have fB0 : w9.frozen? ⟨w8.heap.size, 0, none⟩ = false := wfree hk9 0; have pB0 : ∀ o, (w9.alloc o).cell? ⟨w8.heap.size, 0, none⟩ = some (.int .i64 0) := fun o => wcell (cs := [_, _]) ((Below.heap_alloc w9 o _ (lt_of_heap hk9)).trans hk9) 0; have qB0 : ∀ o, (w9.alloc o).frozen? ⟨w8.heap.size, 0, none⟩ = false := fun o => wfree ((Below.heap_alloc w9 o _ (lt_of_heap hk9)).trans hk9) 0; have uB1 : w9.cell? ⟨w8.heap.size, 1, none⟩ = some (.int .i64 0) := wcell (cs := [_, _]) hk9 1; have fB1 : w9.frozen? ⟨w8.heap.size, 1, none⟩ = false := wfree hk9 1; have pB1 : ∀ o, (w9.alloc o).cell? ⟨w8.heap.size, 1, none⟩ = some (.int .i64 0) := fun o => wcell (cs := [_, _]) ((Below.heap_alloc w9 o _ (lt_of_heap hk9)).trans hk9) 1; have qB1 : ∀ o, (w9.alloc o).frozen? ⟨w8.heap.size, 1, none⟩ = false := fun o => wfree ((Below.heap_alloc w9 o _ (lt_of_heap hk9)).trans hk9) 1; have hl9 := lt_of_heap hk9; replace hI9 := Lib.hid hI9; replace hB9 := Lib.hid hB9; replace hg9 := Lib.hid hg9; replace hk9 := Lib.hid hk9)
            | (go_at_call 6; (with_reducible refine (hHQAB.out _ ?_ _).mono ?_); (with_reducible first | exact SameMem.refl _ | exact (SameMem.refl _).drew | exact (SameMem.refl _).drewN _ | exact (SameMem.refl _).drew.drew | exact ((SameMem.refl _).drewN _).drew); rintro e w9 ⟨g4, c4, rfl, hI9, hB9, hg9, hk9⟩; have hs9 : w.heap.size < w9.heap.size := Nat.lt_of_lt_of_le hgl8 hB9.size; have hn9 : w.heap.size ≠ w9.heap.size := Nat.ne_of_lt hs9; have y0 : w9.cell? ⟨w.heap.size, 0, none⟩ = some (.int .i64 (a : Int)) := (hB9.cell (p := ⟨w.heap.size, 0, none⟩) hgl8).trans d0; have y1 : w9.cell? ⟨w.heap.size, 1, none⟩ = some (.int .i64 (b : Int)) := (hB9.cell (p := ⟨w.heap.size, 1, none⟩) hgl8).trans d1; have y2 : w9.cell? ⟨w.heap.size, 2, none⟩ = some (.slice q n c) := (hB9.cell (p := ⟨w.heap.size, 2, none⟩) hgl8).trans d2; have y0a : ∀ o, (w9.alloc o).cell? ⟨w.heap.size, 0, none⟩ = some (.int .i64 (a : Int)) := fun o => (((Below.refl _ _).alloc (Nat.le_refl _) o : Below w9.heap.size w9 _).cell (p := ⟨w.heap.size, 0, none⟩) hs9).trans y0; have y1a : ∀ o, (w9.alloc o).cell? ⟨w.heap.size, 1, none⟩ = some (.int .i64 (b : Int)) := fun o => (((Below.refl _ _).alloc (Nat.le_refl _) o : Below w9.heap.size w9 _).cell (p := ⟨w.heap.size, 1, none⟩) hs9).trans y1; have y2a : ∀ o, (w9.alloc o).cell? ⟨w.heap.size, 2, none⟩ = some (.slice q n c) := fun o => (((Below.refl _ _).alloc (Nat.le_refl _) o : Below w9.heap.size w9 _).cell (p := ⟨w.heap.size, 2, none⟩) hs9).trans y2; have uA0 : w9.cell? ⟨w8.heap.size, 0, none⟩ = some (.int .i64 0) := wcell (cs := [_, _, _]) hk9.1 0; have fA0 : w9.frozen? ⟨w8.heap.size, 0, none⟩ = false := wfree hk9.1 0; have uA1 : w9.cell? ⟨w8.heap.size, 1, none⟩ = some (.int .i64 0) := wcell (cs := [_, _, _]) hk9.1 1; have fA1 : w9.frozen? ⟨w8.heap.size, 1, none⟩ = false := wfree hk9.1 1; have uA2 : w9.cell? ⟨w8.heap.size, 2, none⟩ = some (.slice none 0 0) := wcell (cs := [_, _, _]) hk9.1 2; have fA2 : w9.frozen? ⟨w8.heap.size, 2, none⟩ = false := wfree hk9.1 2; have uB0 : w9.cell? ⟨w8.heap.size + 1, 0, none⟩ = some (.int .i64 0) := wcell (cs := [_, _]) hk9.2 0; have fB0 : w9.frozen? ⟨w8.heap.size + 1, 0, none⟩ = false := wfree hk9.2 0; have uB1 : w9.cell? ⟨w8.heap.size + 1, 1, none⟩ = some (.int .i64 0) := wcell (cs := [_, _]) hk9.2 1; have fB1 : w9.frozen? ⟨w8.heap.size + 1, 1, none⟩ = false := wfree hk9.2 1; have hl9 := lt_of_heap hk9.1; have hm9 := lt_of_heap hk9.2; replace hI9 := Lib.hid hI9; replace hB9 := Lib.hid hB9; replace hg9 := Lib.hid hg9; replace hk9 := Lib.hid hk9)
            | (go_at_call 6; (with_reducible refine (hHQBA.out _ ?_ _).mono ?_); (with_reducible first | exact SameMem.refl _ | exact (SameMem.refl _).drew | exact (SameMem.refl _).drewN _ | exact (SameMem.refl _).drew.drew | exact ((SameMem.refl _).drewN _).drew); rintro e w9 ⟨g4, c4, rfl, hI9, hB9, hg9, hk9⟩; have hs9 : w.heap.size < w9.heap.size := Nat.lt_of_lt_of_le hgl8 hB9.size; have hn9 : w.heap.size ≠ w9.heap.size := Nat.ne_of_lt hs9; have y0 : w9.cell? ⟨w.heap.size, 0, none⟩ = some (.int .i64 (a : Int)) := (hB9.cell (p := ⟨w.heap.size, 0, none⟩) hgl8).trans d0; have y1 : w9.cell? ⟨w.heap.size, 1, none⟩ = some (.int .i64 (b : Int)) := (hB9.cell (p := ⟨w.heap.size, 1, none⟩) hgl8).trans d1; have y2 : w9.cell? ⟨w.heap.size, 2, none⟩ = some (.slice q n c) := (hB9.cell (p := ⟨w.heap.size, 2, none⟩) hgl8).trans d2; have y0a : ∀ o, (w9.alloc o).cell? ⟨w.heap.size, 0, none⟩ = some (.int .i64 (a : Int)) := fun o => (((Below.refl _ _).alloc (Nat.le_refl _) o : Below w9.heap.size w9 _).cell (p := ⟨w.heap.size, 0, none⟩) hs9).trans y0; have y1a : ∀ o, (w9.alloc o).cell? ⟨w.heap.size, 1, none⟩ = some (.int .i64 (b : Int)) := fun o => (((Below.refl _ _).alloc (Nat.le_refl _) o : Below w9.heap.size w9 _).cell (p := ⟨w.heap.size, 1, none⟩) hs9).trans y1; have y2a : ∀ o, (w9.alloc o).cell? ⟨w.heap.size, 2, none⟩ = some (.slice q n c) := fun o => (((Below.refl _ _).alloc (Nat.le_refl _) o : Below w9.heap.size w9 _).cell (p := ⟨w.heap.size, 2, none⟩) hs9).trans y2; have uB0 : w9.cell? ⟨w8.heap.size, 0, none⟩ = some (.int .i64 0) := wcell (cs := [_, _]) hk9.1 0; have fB0 : w9.frozen? ⟨w8.heap.size, 0, none⟩ = false := wfree hk9.1 0; have uB1 : w9.cell? ⟨w8.heap.size, 1, none⟩ = some (.int .i64 0) := wcell (cs := [_, _]) hk9.1 1; have fB1 : w9.frozen? ⟨w8.heap.size, 1, none⟩ = false := wfree hk9.1 1; have uA0 : w9.cell? ⟨w8.heap.size + 1, 0, none⟩ = some (.int .i64 0) := wcell (cs := [_, _, _]) hk9.2 0; have fA0 : w9.frozen? ⟨w8.heap.size + 1, 0, none⟩ = false := wfree hk9.2 0; have uA1 : w9.cell? ⟨w8.heap.size + 1, 1, none⟩ = some (.int .i64 0) := wcell (cs := [_, _, _]) hk9.2 1; have fA1 : w9.frozen? ⟨w8.heap.size + 1, 1, none⟩ = false := wfree hk9.2 1; have uA2 : w9.cell? ⟨w8.heap.size + 1, 2, none⟩ = some (.slice none 0 0) := wcell (cs := [_, _, _]) hk9.2 2; have fA2 : w9.frozen? ⟨w8.heap.size + 1, 2, none⟩ = false := wfree hk9.2 2; have hl9 := lt_of_heap hk9.1; have hm9 := lt_of_heap hk9.2; replace hI9 := Lib.hid hI9; replace hB9 := Lib.hid hB9; replace hg9 := Lib.hid hg9; replace hk9 := Lib.hid hk9))
        all_goals
          go_wp2_with fail
          go_meet
          refine ⟨g4, c4, ?_, rfl, rfl⟩
          have hg9' := hg9.out
          with_reducible first
            | exact o32_n1 hI9.out hB9.out
            | exact o32_n2 hI9.out hB9.out
            | exact o32_a hI9.out hB9.out (Nat.le_refl _) (ne_of_le1 hg9') hk9.out
            | exact o32_b hI9.out hB9.out (Nat.le_refl _) (ne_of_le1 hg9') hk9.out
            | exact o32_ab hI9.out hB9.out (Nat.le_refl _) (Nat.le_add_right _ 1) (ne_add1 _) (ne_of_le2 hg9') (ne_of_le3 hg9') hk9.out.1 hk9.out.2
            | exact o32_ab hI9.out hB9.out (Nat.le_add_right _ 1) (Nat.le_refl _) (Ne.symm (ne_add1 _)) (ne_of_le3 hg9') (ne_of_le2 hg9') hk9.out.2 hk9.out.1
            | trace_state
      · go_region_held3 (fun w' => w'.cell? ⟨w.heap.size, 0, none⟩ = some (.int .i64 (a : Int)) ∧ w'.cell? ⟨w.heap.size, 1, none⟩ = some (.int .i64 (b : Int)) ∧ w'.cell? ⟨w.heap.size, 2, none⟩ = some (.slice q n c)) (with_reducible first | exact ⟨y0, y1, y2⟩ | exact ⟨d0, d1, d2⟩ | exact ⟨y0a _, y1a _, y2a _⟩ | (refine ⟨?_, ?_, ?_⟩ <;> (repeat (first | apply cell_dr | apply cell_al | (refine (cell1_ne hnA).trans ?_) | (refine (cell1_ne hnB).trans ?_) | (refine (cell1_ne hn9).trans ?_))) <;> (first | exact y0 | exact y1 | exact y2 | exact d0 | exact d1 | exact d2)))
          (first
            | (go_at_call 6; (with_reducible refine (hHQn.out _ ?_ _).mono ?_); (with_reducible first | exact SameMem.refl _ | exact (SameMem.refl _).drew | exact (SameMem.refl _).drewN _ | exact (SameMem.refl _).drew.drew | exact ((SameMem.refl _).drewN _).drew); rintro e w9 ⟨g4, c4, rfl, hI9, hB9, hg9, hk9⟩; have hs9 : w.heap.size < w9.heap.size := Nat.lt_of_lt_of_le hgl8 hB9.size; have hn9 : w.heap.size ≠ w9.heap.size := Nat.ne_of_lt hs9; have y0 : w9.cell? ⟨w.heap.size, 0, none⟩ = some (.int .i64 (a : Int)) := (hB9.cell (p := ⟨w.heap.size, 0, none⟩) hgl8).trans d0; have y1 : w9.cell? ⟨w.heap.size, 1, none⟩ = some (.int .i64 (b : Int)) := (hB9.cell (p := ⟨w.heap.size, 1, none⟩) hgl8).trans d1; have y2 : w9.cell? ⟨w.heap.size, 2, none⟩ = some (.slice q n c) := (hB9.cell (p := ⟨w.heap.size, 2, none⟩) hgl8).trans d2; have y0a : ∀ o, (w9.alloc o).cell? ⟨w.heap.size, 0, none⟩ = some (.int .i64 (a : Int)) := fun o => (((Below.refl _ _).alloc (Nat.le_refl _) o : Below w9.heap.size w9 _).cell (p := ⟨w.heap.size, 0, none⟩) hs9).trans y0; have y1a : ∀ o, (w9.alloc o).cell? ⟨w.heap.size, 1, none⟩ = some (.int .i64 (b : Int)) := fun o => (((Below.refl _ _).alloc (Nat.le_refl _) o : Below w9.heap.size w9 _).cell (p := ⟨w.heap.size, 1, none⟩) hs9).trans y1; have y2a : ∀ o, (w9.alloc o).cell? ⟨w.heap.size, 2, none⟩ = some (.slice q n c) := fun o => (((Below.refl _ _).alloc (Nat.le_refl _) o : Below w9.heap.size w9 _).cell (p := ⟨w.heap.size, 2, none⟩) hs9).trans y2; replace hI9 := Lib.hid hI9; replace hB9 := Lib.hid hB9; replace hg9 := Lib.hid hg9; replace hk9 := Lib.hid hk9)
            | (go_at_call 6; (with_reducible refine (hHQA.out _ ?_ _).mono ?_); (with_reducible first | exact SameMem.refl _ | exact (SameMem.refl _).drew | exact (SameMem.refl _).drewN _ | exact (SameMem.refl _).drew.drew | exact ((SameMem.refl _).drewN _).drew); rintro e w9 ⟨g4, c4, rfl, hI9, hB9, hg9, hk9⟩; have hs9 : w.heap.size < w9.heap.size := Nat.lt_of_lt_of_le hgl8 hB9.size; have hn9 : w.heap.size ≠ w9.heap.size := Nat.ne_of_lt hs9; have y0 : w9.cell? ⟨w.heap.size, 0, none⟩ = some (.int .i64 (a : Int)) := (hB9.cell (p := ⟨w.heap.size, 0, none⟩) hgl8).trans d0; have y1 : w9.cell? ⟨w.heap.size, 1, none⟩ = some (.int .i64 (b : Int)) := (hB9.cell (p := ⟨w.heap.size, 1, none⟩) hgl8).trans d1; have y2 : w9.cell? ⟨w.heap.size, 2, none⟩ = some (.slice q n c) := (hB9.cell (p := ⟨w.heap.size, 2, none⟩) hgl8).trans d2; have y0a : ∀ o, (w9.alloc o).cell? ⟨w.heap.size, 0, none⟩ = some (.int .i64 (a : Int)) := fun o => (((Below.refl _ _).alloc (Nat.le_refl _) o : Below w9.heap.size w9 _).cell (p := ⟨w.heap.size, 0, none⟩) hs9).trans y0; have y1a : ∀ o, (w9.alloc o).cell? ⟨w.heap.size, 1, none⟩ = some (.int .i64 (b : Int)) := fun o => (((Below.refl _ _).alloc (Nat.le_refl _) o : Below w9.heap.size w9 _).cell (p := ⟨w.heap.size, 1, none⟩) hs9).trans y1; have y2a : ∀ o, (w9.alloc o).cell? ⟨w.heap.size, 2, none⟩ = some (.slice q n c) := fun o => (((Below.refl _ _).alloc (Nat.le_refl _) o : Below w9.heap.size w9 _).cell (p := ⟨w.heap.size, 2, none⟩) hs9).trans y2; have uA0 : w9.cell? ⟨w8.heap.size, 0, none⟩ = some (.int .i64 0) := wcell (cs := [_, _, _]) hk9 0; have fA0 : w9.frozen? ⟨w8.heap.size, 0, none⟩ = false := wfree hk9 0; have pA0 : ∀ o, (w9.alloc o).cell? ⟨w8.heap.size, 0, none⟩ = some (.int .i64 0) := fun o => wcell (cs := [_, _, _]) ((Below.heap_alloc w9 o _ (lt_of_heap hk9)).trans hk9) 0; have qA0 : ∀ o, (w9.alloc o).frozen? ⟨w8.heap.size, 0, none⟩ = false := fun o => wfree ((Below.heap_alloc w9 o _ (lt_of_heap hk9)).trans hk9) 0; have uA1 : w9.cell? ⟨w8.heap.size, 1, none⟩ = some (.int .i64 0) := wcell (cs := [_, _, _]) hk9 1; have fA1 : w9.frozen? ⟨w8.heap.size, 1, none⟩ = false := wfree hk9 1; have pA1 : ∀ o, (w9.alloc o).cell? ⟨w8.heap.size, 1, none⟩ = some (.int .i64 0) := fun o => wcell (cs := [_, _, _]) ((Below.heap_alloc w9 o _ (lt_of_heap hk9)).trans hk9) 1; have qA1 : ∀ o, (w9.alloc o).frozen? ⟨w8.heap.size, 1, none⟩ = false := fun o => wfree ((Below.heap_alloc w9 o _ (lt_of_heap hk9)).trans hk9) 1; have uA2 : w9.cell? ⟨w8.heap.size, 2, none⟩ = some (.slice none 0 0) := wcell (cs := [_, _, _]) hk9 2; have fA2 : w9.frozen? ⟨w8.heap.size, 2, none⟩ = false := wfree hk9 2; have pA2 : ∀ o, (w9.alloc o).cell? ⟨w8.heap.size, 2, none⟩ = some (.slice none 0 0) := fun o => wcell (cs := [_, _, _]) ((Below.heap_alloc w9 o _ (lt_of_heap hk9)).trans hk9) 2; have qA2 : ∀ o, (w9.alloc o).frozen? ⟨w8.heap.size, 2, none⟩ = false := fun o => wfree ((Below.heap_alloc w9 o _ (lt_of_heap hk9)).trans hk9) 2; have hl9 := lt_of_heap hk9; replace hI9 := Lib.hid hI9; replace hB9 := Lib.hid hB9; replace hg9 := Lib.hid hg9; replace hk9 := Lib.hid hk9)
            | (go_at_call 6; (with_reducible refine (hHQB.out _ ?_ _).mono ?_); (with_reducible first | exact SameMem.refl _ | exact (SameMem.refl _).drew | exact (SameMem.refl _).drewN _ | exact (SameMem.refl _).drew.drew | exact ((SameMem.refl _).drewN _).drew); rintro e w9 ⟨g4, c4, rfl, hI9, hB9, hg9, hk9⟩; have hs9 : w.heap.size < w9.heap.size := Nat.lt_of_lt_of_le hgl8 hB9.size; have hn9 : w.heap.size ≠ w9.heap.size := Nat.ne_of_lt hs9; have y0 : w9.cell? ⟨w.heap.size, 0, none⟩ = some (.int .i64 (a : Int)) := (hB9.cell (p := ⟨w.heap.size, 0, none⟩) hgl8).trans d0; have y1 : w9.cell? ⟨w.heap.size, 1, none⟩ = some (.int .i64 (b : Int)) := (hB9.cell (p := ⟨w.heap.size, 1, none⟩) hgl8).trans d1; have y2 : w9.cell? ⟨w.heap.size, 2, none⟩ = some (.slice q n c) := (hB9.cell (p := ⟨w.heap.size, 2, none⟩) hgl8).trans d2; have y0a : ∀ o, (w9.alloc o).cell? ⟨w.heap.size, 0, none⟩ = some (.int .i64 (a : Int)) := fun o => (((Below.refl _ _).alloc (Nat.le_refl _) o : Below w9.heap.size w9 _).cell (p := ⟨w.heap.size, 0, none⟩) hs9).trans y0; have y1a : ∀ o, (w9.alloc o).cell? ⟨w.heap.size, 1, none⟩ = some (.int .i64 (b : Int)) := fun o => (((Below.refl _ _).alloc (Nat.le_refl _) o : Below w9.heap.size w9 _).cell (p := ⟨w.heap.size, 1, none⟩) hs9).trans y1; have y2a : ∀ o, (w9.alloc o).cell? ⟨w.heap.size, 2, none⟩ = some (.slice q n c) := fun o => (((Below.refl _ _).alloc (Nat.le_refl _) o : Below w9.heap.size w9 _).cell (p := ⟨w.heap.size, 2, none⟩) hs9).trans y2; have uB0 : w9.cell? ⟨w8.heap.size, 0, none⟩ = some (.int .i64 0) := wcell (cs := [_, _]) hk9 0; have fB0 : w9.frozen? ⟨w8.heap.size, 0, none⟩ = false := wfree hk9 0; have pB0 : ∀ o, (w9.alloc o).cell? ⟨w8.heap.size, 0, none⟩ = some (.int .i64 0) := fun o => wcell (cs := [_, _]) ((Below.heap_alloc w9 o _ (lt_of_heap hk9)).trans hk9) 0; have qB0 : ∀ o, (w9.alloc o).frozen? ⟨w8.heap.size, 0, none⟩ = false := fun o => wfree ((Below.heap_alloc w9 o _ (lt_of_heap hk9)).trans hk9) 0; have uB1 : w9.cell? ⟨w8.heap.size, 1, none⟩ = some (.int .i64 0) := wcell (cs := [_, _]) hk9 1; have fB1 : w9.frozen? ⟨w8.heap.size, 1, none⟩ = false := wfree hk9 1; have pB1 : ∀ o, (w9.alloc o).cell? ⟨w8.heap.size, 1, none⟩ = some (.int .i64 0) := fun o => wcell (cs := [_, _]) ((Below.heap_alloc w9 o _ (lt_of_heap hk9)).trans hk9) 1; have qB1 : ∀ o, (w9.alloc o).frozen? ⟨w8.heap.size, 1, none⟩ = false := fun o => wfree ((Below.heap_alloc w9 o _ (lt_of_heap hk9)).trans hk9) 1; have hl9 := lt_of_heap hk9; replace hI9 := Lib.hid hI9; replace hB9 := Lib.hid hB9; replace hg9 := Lib.hid hg9; replace hk9 := Lib.hid hk9)
            | (go_at_call 6; (with_reducible refine (hHQAB.out _ ?_ _).mono ?_); (with_reducible first | exact SameMem.refl _ | exact (SameMem.refl _).drew | exact (SameMem.refl _).drewN _ | exact (SameMem.refl _).drew.drew | exact ((SameMem.refl _).drewN _).drew); rintro e w9 ⟨g4, c4, rfl, hI9, hB9, hg9, hk9⟩; have hs9 : w.heap.size < w9.heap.size := Nat.lt_of_lt_of_le hgl8 hB9.size; have hn9 : w.heap.size ≠ w9.heap.size := Nat.ne_of_lt hs9; have y0 : w9.cell? ⟨w.heap.size, 0, none⟩ = some (.int .i64 (a : Int)) := (hB9.cell (p := ⟨w.heap.size, 0, none⟩) hgl8).trans d0; have y1 : w9.cell? ⟨w.heap.size, 1, none⟩ = some (.int .i64 (b : Int)) := (hB9.cell (p := ⟨w.heap.size, 1, none⟩) hgl8).trans d1; have y2 : w9.cell? ⟨w.heap.size, 2, none⟩ = some (.slice q n c) := (hB9.cell (p := ⟨w.heap.size, 2, none⟩) hgl8).trans d2; have y0a : ∀ o, (w9.alloc o).cell? ⟨w.heap.size, 0, none⟩ = some (.int .i64 (a : Int)) := fun o => (((Below.refl _ _).alloc (Nat.le_refl _) o : Below w9.heap.size w9 _).cell (p := ⟨w.heap.size, 0, none⟩) hs9).trans y0; have y1a : ∀ o, (w9.alloc o).cell? ⟨w.heap.size, 1, none⟩ = some (.int .i64 (b : Int)) := fun o => (((Below.refl _ _).alloc (Nat.le_refl _) o : Below w9.heap.size w9 _).cell (p := ⟨w.heap.size, 1, none⟩) hs9).trans y1; have y2a : ∀ o, (w9.alloc o).cell? ⟨w.heap.size, 2, none⟩ = some (.slice q n c) := fun o => (((Below.refl _ _).alloc (Nat.le_refl _) o : Below w9.heap.size w9 _).cell (p := ⟨w.heap.size, 2, none⟩) hs9).trans y2; have uA0 : w9.cell? ⟨w8.heap.size, 0, none⟩ = some (.int .i64 0) := wcell (cs := [_, _, _]) hk9.1 0; have fA0 : w9.frozen? ⟨w8.heap.size, 0, none⟩ = false := wfree hk9.1 0; have uA1 : w9.cell? ⟨w8.heap.size, 1, none⟩ = some (.int .i64 0) := wcell (cs := [_, _, _]) hk9.1 1; have fA1 : w9.frozen? ⟨w8.heap.size, 1, none⟩ = false := wfree hk9.1 1; have uA2 : w9.cell? ⟨w8.heap.size, 2, none⟩ = some (.slice none 0 0) := wcell (cs := [_, _, _]) hk9.1 2; have fA2 : w9.frozen? ⟨w8.heap.size, 2, none⟩ = false := wfree hk9.1 2; have uB0 : w9.cell? ⟨w8.heap.size + 1, 0, none⟩ = some (.int .i64 0) := wcell (cs := [_, _]) hk9.2 0; have fB0 : w9.frozen? ⟨w8.heap.size + 1, 0, none⟩ = false := wfree hk9.2 0; have uB1 : w9.cell? ⟨w8.heap.size + 1, 1, none⟩ = some (.int .i64 0) := wcell (cs := [_, _]) hk9.2 1; have fB1 : w9.frozen? ⟨w8.heap.size + 1, 1, none⟩ = false := wfree hk9.2 1; have hl9 := lt_of_heap hk9.1; have hm9 := lt_of_heap hk9.2; replace hI9 := Lib.hid hI9; replace hB9 := Lib.hid hB9; replace hg9 := Lib.hid hg9; replace hk9 := Lib.hid hk9)
            | (go_at_call 6; (with_reducible refine (hHQBA.out _ ?_ _).mono ?_); (with_reducible first | exact SameMem.refl _ | exact (SameMem.refl _).drew | exact (SameMem.refl _).drewN _ | exact (SameMem.refl _).drew.drew | exact ((SameMem.refl _).drewN _).drew); rintro e w9 ⟨g4, c4, rfl, hI9, hB9, hg9, hk9⟩; have hs9 : w.heap.size < w9.heap.size := Nat.lt_of_lt_of_le hgl8 hB9.size; have hn9 : w.heap.size ≠ w9.heap.size := Nat.ne_of_lt hs9; have y0 : w9.cell? ⟨w.heap.size, 0, none⟩ = some (.int .i64 (a : Int)) := (hB9.cell (p := ⟨w.heap.size, 0, none⟩) hgl8).trans d0; have y1 : w9.cell? ⟨w.heap.size, 1, none⟩ = some (.int .i64 (b : Int)) := (hB9.cell (p := ⟨w.heap.size, 1, none⟩) hgl8).trans d1; have y2 : w9.cell? ⟨w.heap.size, 2, none⟩ = some (.slice q n c) := (hB9.cell (p := ⟨w.heap.size, 2, none⟩) hgl8).trans d2; have y0a : ∀ o, (w9.alloc o).cell? ⟨w.heap.size, 0, none⟩ = some (.int .i64 (a : Int)) := fun o => (((Below.refl _ _).alloc (Nat.le_refl _) o : Below w9.heap.size w9 _).cell (p := ⟨w.heap.size, 0, none⟩) hs9).trans y0; have y1a : ∀ o, (w9.alloc o).cell? ⟨w.heap.size, 1, none⟩ = some (.int .i64 (b : Int)) := fun o => (((Below.refl _ _).alloc (Nat.le_refl _) o : Below w9.heap.size w9 _).cell (p := ⟨w.heap.size, 1, none⟩) hs9).trans y1; have y2a : ∀ o, (w9.alloc o).cell? ⟨w.heap.size, 2, none⟩ = some (.slice q n c) := fun o => (((Below.refl _ _).alloc (Nat.le_refl _) o : Below w9.heap.size w9 _).cell (p := ⟨w.heap.size, 2, none⟩) hs9).trans y2; have uB0 : w9.cell? ⟨w8.heap.size, 0, none⟩ = some (.int .i64 0) := wcell (cs := [_, _]) hk9.1 0; have fB0 : w9.frozen? ⟨w8.heap.size, 0, none⟩ = false := wfree hk9.1 0; have uB1 : w9.cell? ⟨w8.heap.size, 1, none⟩ = some (.int .i64 0) := wcell (cs := [_, _]) hk9.1 1; have fB1 : w9.frozen? ⟨w8.heap.size, 1, none⟩ = false := wfree hk9.1 1; have uA0 : w9.cell? ⟨w8.heap.size + 1, 0, none⟩ = some (.int .i64 0) := wcell (cs := [_, _, _]) hk9.2 0; have fA0 : w9.frozen? ⟨w8.heap.size + 1, 0, none⟩ = false := wfree hk9.2 0; have uA1 : w9.cell? ⟨w8.heap.size + 1, 1, none⟩ = some (.int .i64 0) := wcell (cs := [_, _, _]) hk9.2 1; have fA1 : w9.frozen? ⟨w8.heap.size + 1, 1, none⟩ = false := wfree hk9.2 1; have uA2 : w9.cell? ⟨w8.heap.size + 1, 2, none⟩ = some (.slice none 0 0) := wcell (cs := [_, _, _]) hk9.2 2; have fA2 : w9.frozen? ⟨w8.heap.size + 1, 2, none⟩ = false := wfree hk9.2 2; have hl9 := lt_of_heap hk9.1; have hm9 := lt_of_heap hk9.2; replace hI9 := Lib.hid hI9; replace hB9 := Lib.hid hB9; replace hg9 := Lib.hid hg9; replace hk9 := Lib.hid hk9))
        all_goals
          go_wp2_with fail
          go_meet
          refine ⟨g4, c4, ?_, rfl, rfl⟩
          have hg9' := hg9.out
          with_reducible first
            | exact o32_n1 hI9.out hB9.out
            | exact o32_n2 hI9.out hB9.out
            | exact o32_a hI9.out hB9.out (Nat.le_refl _) (ne_of_le1 hg9') hk9.out
            | exact o32_b hI9.out hB9.out (Nat.le_refl _) (ne_of_le1 hg9') hk9.out
            | exact o32_ab hI9.out hB9.out (Nat.le_refl _) (Nat.le_add_right _ 1) (ne_add1 _) (ne_of_le2 hg9') (ne_of_le3 hg9') hk9.out.1 hk9.out.2
            | exact o32_ab hI9.out hB9.out (Nat.le_add_right _ 1) (Nat.le_refl _) (Ne.symm (ne_add1 _)) (ne_of_le3 hg9') (ne_of_le2 hg9') hk9.out.2 hk9.out.1
            | trace_state
    case rest =>
      obtain ⟨g4, c4, ⟨hBc, ⟨p1, p2, rfl, rfl, j1, j2⟩, hIc⟩, rfl, rfl⟩ := hcut
      have i1 := (hBc.block _ (lt_of_heap h98.out)).trans h98.out
      have i2 := (hBc.block _ (lt_of_heap h108.out)).trans h108.out
      have l0 : wc.cell? ⟨B9, 0, none⟩ = some (.int .i64 (a : Int)) := wcell (cs := [_, _, _]) i1 0
      have l1 : wc.cell? ⟨B9, 1, none⟩ = some (.int .i64 (b : Int)) := wcell (cs := [_, _, _]) i1 1
      have l2 : wc.cell? ⟨B9, 2, none⟩ = some (.slice (some ⟨g3, 0, none⟩) n c3) := wcell (cs := [_, _, _]) i1 2
      have l3 : wc.cell? ⟨p1, 0, none⟩ = some (.int .i64 (a : Int)) := wcell (cs := [_, _, _]) j1 0
      have l4 : wc.cell? ⟨p1, 1, none⟩ = some (.int .i64 (b : Int)) := wcell (cs := [_, _, _]) j1 1
      have l5 : wc.cell? ⟨p1, 2, none⟩ = some (.slice (some ⟨g4, 0, none⟩) n c4) := wcell (cs := [_, _, _]) j1 2
      have HG2 := Lib.hid (sameGrid_any (some ⟨g3, 0, none⟩) (some ⟨g4, 0, none⟩) a b n c3 c4 (asI z.s) wc (by omega) (hI8.out.below hBc) hIc)
      have hblc := Lib.hid (hbl8.out.trans (hBc.mono hbl8.out.size))
      replace i2 := Lib.hid i2; replace j2 := Lib.hid j2
      clear hBc i1 j1 d0 d1 d2 hHQn hHQA hHQB hHQAB hHQBA hHQ hneq hnA hnB
      go_wp2_with fail
      refine HG2.out.mono ?_
      rintro e w10 ⟨rfl, hB10⟩
      have i3 := (hB10.block _ (lt_of_heap i2.out)).trans i2.out
      have j3 := (hB10.block _ (lt_of_heap j2.out)).trans j2.out
      have n0 : w10.cell? ⟨B9 + 1, 0, none⟩ = some (.int .i64 (z.t0 : Int)) := wcell (cs := [_, _]) i3 0
      have n1 : w10.cell? ⟨B9 + 1, 1, none⟩ = some (.int .i64 (z.t1 : Int)) := wcell (cs := [_, _]) i3 1
      have n2 : w10.cell? ⟨p2, 0, none⟩ = some (.int .i64 (z.t0 : Int)) := wcell (cs := [_, _]) j3 0
      have n3 : w10.cell? ⟨p2, 1, none⟩ = some (.int .i64 (z.t1 : Int)) := wcell (cs := [_, _]) j3 1
      have hbl10 := Lib.hid (hblc.out.trans (hB10.mono hblc.out.size))
      clear HG2 hB10 i3 j3 l0 l1 l2 l3 l4 l5
      go_wp2_with fail
      rw [show Sem.run Try.prog (Op.equalIn 10000 25 (Value.agg #[.int .i64 (z.t0 : Int), .int .i64 (z.t1 : Int)]) (Value.agg #[.int .i64 (z.t0 : Int), .int .i64 (z.t1 : Int)])) w10 = .ok true w10 from eq25 _ _ _]
      simp only [Result.andThen]
      go_wp2_with fail
      go_ret
      exact ⟨rfl, hbl10.out⟩
end Go.Proofs.Ytefjliblaeadfaa
