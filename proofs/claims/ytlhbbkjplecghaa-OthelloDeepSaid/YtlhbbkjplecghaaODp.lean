/- What gameroomkeep.OthelloDeep computes; conditions: the arguments fit their kinds. -/
import Derived.Test.YtlhbbkjplecghaaODpS
import Derived.Test.YtlhbbkjplecghaaOBes
import Derived.Test.YtlhbbkjplecghaaStepA
namespace Go.Proofs.Ytlhbbkjplecghaa
open Go.RowKit

theorem Best_four (p : Option Addr) (w : World) (hx : IntsIn w p 16 (asI four0)) : Calls Try.prog 11 #[.agg #[.int .i64 4, .int .i64 4, .slice p 16 16], .int .i64 1, .int .i64 1] w fun e' w' => ∃ y : Int, e' = .returned (.tuple #[.int .i64 3, .int .i64 y, .int .i64 0]) ∧ Below w.heap.size w w' := by
  have h := Best_yes p 16 16 4 4 1 1 4 four0 w (by omega) (by omega) (by omega) (by omega) (by omega) (by omega) (by omega) (by omega) (by omega) (by omega) (by omega) four_st hx 1 1 (Lib.hid rfl) (Lib.hid rfl)
  rw [seek_first] at h
  exact h.mono fun e' w' ⟨h1, h2⟩ => ⟨_, h1, h2⟩
theorem cell3_ne {w : World} {g b : Nat} (i : Nat) (h : g ≠ b) (x y z : Value) : (((w.setCell ⟨b, 0, none⟩ x).setCell ⟨b, 1, none⟩ y).setCell ⟨b, 2, none⟩ z).cell? ⟨g, i, none⟩ = w.cell? ⟨g, i, none⟩ := by
  refine World.cell?_of_block (a := ⟨g, i, none⟩) ?_
  rw [wset_ne _ _ h, wset_ne _ _ h, wset_ne _ _ h]
/-- the board that Put told in a round. -/
def OutG (W : World) (n a b : Nat) (s : List Nat) (v ve : Value) (wx : World) : Prop := Below W.heap.size W wx ∧ ∃ bb, v = .pointer (some ⟨bb, 0, none⟩) ∧ ve = .int .i64 0 ∧
  ∃ (q : Option Addr) (c : Nat), W.heap.size ≤ bb ∧ wx.heap[bb]? = some (.cells #[.int .i64 (a : Int), .int .i64 (b : Int), .slice q n c] 24) ∧ IntsIn wx q n (asI s)
theorem outG_new {W w6 : World} {n a b c6 : Nat} {s : List Nat} {q6 : Option Addr} (hx : IntsIn w6 q6 n (asI s)) (hB : Below W.heap.size W w6) :
    OutG W n a b s (.pointer (some ⟨w6.heap.size, 0, none⟩)) (.int .i64 0) (w6.alloc (.cells #[.int .i64 (a : Int), .int .i64 (b : Int), .slice q6 n c6] 24)) :=
  ⟨hB.alloc hB.size _, _, rfl, rfl, q6, c6, hB.size, heap_alloc_new w6 _, hx.alloc _⟩
theorem outG_set {W w6 : World} {n a b c6 : Nat} {s : List Nat} {q6 : Option Addr} (hx : IntsIn w6 q6 n (asI s)) (hB : Below W.heap.size W w6)
    (h8 : w6.heap[W.heap.size]? = some (.cells #[.int .i64 0, .int .i64 0, .slice none 0 0] 24)) (hn : 4 ≤ n) :
    OutG W n a b s (.pointer (some ⟨W.heap.size, 0, none⟩)) (.int .i64 0) (((w6.setCell ⟨W.heap.size, 0, none⟩ (.int .i64 (a : Int))).setCell ⟨W.heap.size, 1, none⟩ (.int .i64 (b : Int))).setCell ⟨W.heap.size, 2, none⟩ (.slice q6 n c6)) := by
  refine ⟨((hB.setCell (p := ⟨W.heap.size, 0, none⟩) (Nat.le_refl _) _).setCell (p := ⟨W.heap.size, 1, none⟩) (Nat.le_refl _) _).setCell (p := ⟨W.heap.size, 2, none⟩) (Nat.le_refl _) _, _, rfl, rfl, q6, c6, Nat.le_refl _, ?_, ?_⟩
  · simpa using wset (wset (wset h8 0 (.int .i64 (a : Int))) 1 (.int .i64 (b : Int))) 2 (.slice q6 n c6)
  · refine hx.keep (by simp [World.setCell]) fun bb o e => ?_
    have hne : bb ≠ W.heap.size := by
      rintro rfl
      obtain ⟨b', o', e', _, hc'⟩ := hx.at (show 0 < n by omega)
      rw [e] at e'; cases e'
      have h9 := hc' 3 (by omega)
      rw [wcell (cs := [_, _, _]) h8] at h9
      simp at h9
    rw [wset_ne _ _ hne, wset_ne _ _ hne, wset_ne _ _ hne]

set_option maxRecDepth 100000 in
set_option maxHeartbeats 4000000 in
theorem deep_no (q : Option Addr) (n c : Nat) (W H who dp : Int) (xs : List Int) (w : World) (hn : n ≤ 9223372036854775807) (hW1 : -9223372036854775808 ≤ W) (hW2 : W ≤ 9223372036854775807) (hH1 : -9223372036854775808 ≤ H) (hH2 : H ≤ 9223372036854775807) (hw1 : -9223372036854775808 ≤ who) (hw2 : who ≤ 9223372036854775807) (hd1 : -9223372036854775808 ≤ dp) (hd2 : dp ≤ 9223372036854775807) (hx : IntsIn w q n xs) (h0 : chkF W H xs who ≠ 0) :
    Calls Try.prog 4 #[.agg #[.int .i64 W, .int .i64 H, .slice q n c], .int .i64 who, .int .i64 dp] w fun e w' => e = .returned (.bool true) ∧ Below w.heap.size w w' := by
  obtain ⟨e, he⟩ : ∃ e, chkF W H xs who = e := ⟨_, rfl⟩
  rw [he] at h0
  have hB0 := Lib.hid ((Below.refl w.heap.size w).alloc (Nat.le_refl _) (.cells #[.int .i64 W, .int .i64 H, .slice q n c] 24))
  have e0 := heap_alloc_new w (.cells #[.int .i64 W, .int .i64 H, .slice q n c] 24)
  have hx0 := Lib.hid (hx.alloc (.cells #[.int .i64 W, .int .i64 H, .slice q n c] 24))
  have hsz : w.heap.size < (w.alloc (.cells #[.int .i64 W, .int .i64 H, .slice q n c] 24)).heap.size := by simp
  have z0 : (e != 0) = true := by simp [h0]
  have HK := Lib.hid (fun W => picked_any dp 2 W hd1 hd2 (by omega) (by omega) 2 (Lib.hid rfl))
  generalize pick dp 2 = d at *
  replace he := Lib.hid he; replace h0 := Lib.hid h0; replace e0 := Lib.hid e0
  clear hx
  go_enter Try.func4, Try.ntmps4
  go_wp2_with fail
  generalize w.alloc (.cells #[.int .i64 W, .int .i64 H, .slice q n c] 24) = W0 at *
  refine (HK.out _).mono ?_
  rintro e' w8 ⟨rfl, rfl⟩
  go_wp2_with fail
  refine (new4_any W0).mono ?_
  rintro e' w1 ⟨p1, rfl, hp1, hB1⟩
  have HP := Lib.hid (Best_four p1 (w1.alloc (.cells #[.int .i64 4, .int .i64 4, .slice p1 16 16] 24)) (hp1.alloc _))
  have hB2 := Lib.hid (hB0.out.trans ((hB1.alloc hB1.size (.cells #[.int .i64 4, .int .i64 4, .slice p1 16 16] 24)).mono hB0.out.size))
  have hx2 := Lib.hid ((hx0.out.below hB1).alloc (.cells #[.int .i64 4, .int .i64 4, .slice p1 16 16] 24))
  have e2 := Lib.hid (((hB1.block _ hsz).trans e0.out))
  have hs2 : w.heap.size < w1.heap.size := Nat.lt_of_lt_of_le hsz hB1.size
  have e3 := Lib.hid ((Below.heap_alloc w1 (.cells #[.int .i64 4, .int .i64 4, .slice p1 16 16] 24) _ hs2).trans e2.out)
  have hs3 : w.heap.size < (w1.alloc (.cells #[.int .i64 4, .int .i64 4, .slice p1 16 16] 24)).heap.size := by simp; omega
  clear hp1 hB1 hB0 hx0 e0 e2 hs2 hsz HK
  go_wp2_with fail
  generalize w1.alloc (.cells #[.int .i64 4, .int .i64 4, .slice p1 16 16] 24) = W1 at *
  refine HP.out.mono ?_
  rintro e' w2 ⟨y2, rfl, hB⟩
  have hB5 := Lib.hid (hB2.out.trans (hB.mono hB2.out.size))
  have hx5 := Lib.hid (hx2.out.below hB)
  have e6 := (hB.block _ hs3).trans e3.out
  have hs6 : w.heap.size < w2.heap.size := Nat.lt_of_lt_of_le hs3 hB.size
  have d0 : w2.cell? ⟨w.heap.size, 0, none⟩ = some (.int .i64 W) := wcell (cs := [_, _, _]) e6 0
  have d1 : w2.cell? ⟨w.heap.size, 1, none⟩ = some (.int .i64 H) := wcell (cs := [_, _, _]) e6 1
  have d2 : w2.cell? ⟨w.heap.size, 2, none⟩ = some (.slice q n c) := wcell (cs := [_, _, _]) e6 2
  replace e6 := Lib.hid e6
  have HN := Lib.hid (Places_no q n c W H who xs w2 hn hW1 hW2 hH1 hH2 hw1 hw2 hx5.out e he.out h0.out)
  clear HP hB2 hx2 e3 hs3 hB
  go_wp2_with fail
  refine HN.out.mono ?_
  rintro e' w4 ⟨rfl, hB⟩
  have hB6 := Lib.hid (hB5.out.trans (hB.mono hB5.out.size))
  clear HN hB hB5 hx5 e6 d0 d1 d2
  go_wp2_with fail
  go_ret
  exact ⟨rfl, hB6.out⟩

set_option maxRecDepth 100000 in
set_option maxHeartbeats 8000000 in
theorem deep_yes (q : Option Addr) (n c a b who : Nat) (dp : Int) (s : List Nat) (w : World) (h1 : 4 ≤ a) (h2 : a ≤ 8) (h3 : 4 ≤ b) (h4 : b ≤ 8) (h5 : a % 2 = 0) (h6 : b % 2 = 0) (hn : n = a * b) (hw1 : 1 ≤ who) (hw2 : who ≤ 2) (hs : ∀ j, st s j ≤ 2) (hd1 : -9223372036854775808 ≤ dp) (hd2 : dp ≤ 9223372036854775807) (hx : IntsIn w q n (asI s)) :
    Calls Try.prog 4 #[.agg #[.int .i64 a, .int .i64 b, .slice q n c], .int .i64 who, .int .i64 dp] w fun e w' => e = .returned (.bool true) ∧ Below w.heap.size w w' := by
  have hn100 : n ≤ 100 := by rw [hn]; exact Nat.mul_le_mul (show a ≤ 10 by omega) (show b ≤ 10 by omega)
  have hn16 : 16 ≤ n := by rw [hn]; exact Nat.mul_le_mul h1 h3
  have hB0 := Lib.hid ((Below.refl w.heap.size w).alloc (Nat.le_refl _) (.cells #[.int .i64 a, .int .i64 b, .slice q n c] 24))
  have e0 := heap_alloc_new w (.cells #[.int .i64 a, .int .i64 b, .slice q n c] 24)
  have hx0 := Lib.hid (hx.alloc (.cells #[.int .i64 a, .int .i64 b, .slice q n c] 24))
  have hsz : w.heap.size < (w.alloc (.cells #[.int .i64 a, .int .i64 b, .slice q n c] 24)).heap.size := by simp
  have HK := Lib.hid (fun W => picked_any dp 2 W hd1 hd2 (by omega) (by omega) 2 (Lib.hid rfl))
  have hdl := pick_lt dp 2 (by omega)
  generalize pick dp 2 = d at *
  have hls : s.length = a * b := by have := hx.len; rw [asI_len] at this; omega
  have hPl := placesN_len s a b who n
  have hPm := Lib.hid (places_mem s a b who n)
  have HR : Hid (placesN s a b who n ≠ [] → seekS a b (2 * d + 3 + 1) s who (d + 1) (-1000) 1000 = bestL (fun p => valS a b (2 * d + 3) (putS s a b who p) (3 - who) d) (placesN s a b who n) (-1000, -1)) := fun h => by
    have := seek_root a b (by rw [← hn]; exact hn100) (2 * d + 3) s who d hw1 hw2 (by rw [← hn]; exact h)
    rw [this, hn]
  have HV : Hid (∀ p, (seekS a b (2 * d + 3) (putS s a b who p) (3 - who) d (-1000) 1000).1 = valS a b (2 * d + 3) (putS s a b who p) (3 - who) d) := fun p => seek_val a b (by rw [← hn]; exact hn100) _ _ _ _ (by omega) (by omega)
  have HVb : Hid (∀ p, -100 ≤ (seekS a b (2 * d + 3) (putS s a b who p) (3 - who) d (-1000) 1000).1 ∧ (seekS a b (2 * d + 3) (putS s a b who p) (3 - who) d (-1000) 1000).1 ≤ 100) := fun p => seek_bd a b (by rw [← hn]; exact hn100) _ _ _ _ _ _ (by omega) (by omega)
  replace e0 := Lib.hid e0; replace hn := Lib.hid hn; replace h5 := Lib.hid h5; replace h6 := Lib.hid h6; replace hs := Lib.hid hs; replace hls := Lib.hid hls
  clear hx
  go_enter Try.func4, Try.ntmps4
  go_wp2_with fail
  generalize w.alloc (.cells #[.int .i64 a, .int .i64 b, .slice q n c] 24) = W0 at *
  refine (HK.out _).mono ?_
  rintro e' w8 ⟨rfl, rfl⟩
  go_wp2_with fail
  refine (new4_any W0).mono ?_
  rintro e' w1 ⟨p1, rfl, hp1, hB1⟩
  have HP := Lib.hid (Best_four p1 (w1.alloc (.cells #[.int .i64 4, .int .i64 4, .slice p1 16 16] 24)) (hp1.alloc _))
  have hB2 := Lib.hid (hB0.out.trans ((hB1.alloc hB1.size (.cells #[.int .i64 4, .int .i64 4, .slice p1 16 16] 24)).mono hB0.out.size))
  have hx2 := Lib.hid ((hx0.out.below hB1).alloc (.cells #[.int .i64 4, .int .i64 4, .slice p1 16 16] 24))
  have e2 := Lib.hid (((hB1.block _ hsz).trans e0.out))
  have hs2 : w.heap.size < w1.heap.size := Nat.lt_of_lt_of_le hsz hB1.size
  have e3 := Lib.hid ((Below.heap_alloc w1 (.cells #[.int .i64 4, .int .i64 4, .slice p1 16 16] 24) _ hs2).trans e2.out)
  have hs3 : w.heap.size < (w1.alloc (.cells #[.int .i64 4, .int .i64 4, .slice p1 16 16] 24)).heap.size := by simp; omega
  clear hp1 hB1 hB0 hx0 e0 e2 hs2 hsz HK
  go_wp2_with fail
  generalize w1.alloc (.cells #[.int .i64 4, .int .i64 4, .slice p1 16 16] 24) = W1 at *
  refine HP.out.mono ?_
  rintro e' w2 ⟨y2, rfl, hB⟩
  have hB5 := Lib.hid (hB2.out.trans (hB.mono hB2.out.size))
  have hx5 := Lib.hid (hx2.out.below hB)
  have e6 := (hB.block _ hs3).trans e3.out
  have hs6 : w.heap.size < w2.heap.size := Nat.lt_of_lt_of_le hs3 hB.size
  have d0 : w2.cell? ⟨w.heap.size, 0, none⟩ = some (.int .i64 (a : Int)) := wcell (cs := [_, _, _]) e6 0
  have d1 : w2.cell? ⟨w.heap.size, 1, none⟩ = some (.int .i64 (b : Int)) := wcell (cs := [_, _, _]) e6 1
  have d2 : w2.cell? ⟨w.heap.size, 2, none⟩ = some (.slice q n c) := wcell (cs := [_, _, _]) e6 2
  replace e6 := Lib.hid e6
  have HY := Lib.hid (Places_yes q n c a b who s w2 (by omega) (by omega) (by omega) (by omega) h5.out h6.out hn.out hw1 hw2 hs.out hx5.out)
  clear HP hB2 hx2 e3 hs3 hB
  generalize placesN s a b who n = T at *
  go_wp2_with fail
  refine HY.out.mono ?_
  rintro e' w4 ⟨pT, cT, rfl, hpT, hB⟩
  have hB6 := Lib.hid (hB5.out.trans (hB.mono hB5.out.size))
  have hx6 := Lib.hid (hx5.out.below hB)
  have e7 := (hB.block _ hs6).trans e6.out
  have hs7 : w.heap.size < w4.heap.size := Nat.lt_of_lt_of_le hs6 hB.size
  replace d0 : w4.cell? ⟨w.heap.size, 0, none⟩ = some (.int .i64 (a : Int)) := wcell (cs := [_, _, _]) e7 0
  replace d1 : w4.cell? ⟨w.heap.size, 1, none⟩ = some (.int .i64 (b : Int)) := wcell (cs := [_, _, _]) e7 1
  replace d2 : w4.cell? ⟨w.heap.size, 2, none⟩ = some (.slice q n c) := wcell (cs := [_, _, _]) e7 2
  replace hpT := Lib.hid hpT
  replace e7 := Lib.hid e7
  clear HY hB hB5 hx5 e6 hs6
  by_cases hT0 : T = []
  · subst hT0
    go_wp2_with fail
    go_ret
    exact ⟨rfl, hB6.out⟩
  · have hTp : 0 < T.length := List.length_pos_iff.2 hT0
    have hlz : ((T.length : Int) == 0) = false := by simp; omega
    have HR' := Lib.hid (HR.out hT0)
    have HB := Lib.hid (Best_yes q n c a b who (d + 1) (2 * d + 3 + 1) s w4 (by omega) (by omega) (by omega) (by omega) h5.out h6.out hn.out hw1 hw2 (by omega) (by omega) hs.out hx6.out who ((d : Int) + 1) (Lib.hid rfl) (Lib.hid (by omega)))
    replace HR := HR'
    clear HR'
    replace hT0 := Lib.hid hT0
    generalize seekS a b (2 * d + 3 + 1) s who (d + 1) (-1000) 1000 = S at *
    go_wp2_with fail
    refine HB.out.mono ?_
    rintro e' w5 ⟨rfl, hB⟩
    have hB7 := Lib.hid (hB6.out.trans (hB.mono hB6.out.size))
    have hx7 := Lib.hid (hx6.out.below hB)
    have hpT7 := Lib.hid (hpT.out.below hB)
    have e8 := Lib.hid ((hB.block _ hs7).trans e7.out)
    have hs8 : w.heap.size < w5.heap.size := Nat.lt_of_lt_of_le hs7 hB.size
    clear HB hB hB6 hx6 hpT e7 hs7 d0 d1 d2
    go_wp2_with fail
    go_loopg [16, 17, 18, 19, 20, 21, 22, 23] T.length (fun gk v16 v17 v18 v19 v20 v21 v22 v23 W' => ∃ (i : Nat) (x y : Int), i ≤ T.length ∧ gk = T.length - i ∧ v16 = .int .i64 x ∧ v17 = .int .i64 y ∧ v18 = .int .i64 i ∧ -1000 ≤ x ∧ x ≤ 1000 ∧ Below w5.heap.size w5 W' ∧ Hid ((x, y) = bestL (fun p => valS a b (2 * d + 3) (putS s a b who p) (3 - who) d) (T.take i) (-1000, -1)))
    case atStart => exact ⟨0, -1000, -1, by omega, by omega, rfl, rfl, rfl, by omega, by omega, Below.refl _ _, Lib.hid rfl⟩
    case round =>
      obtain ⟨i, x, y, hi, hgk, rfl, rfl, rfl, hx1', hx2', hBr, hS⟩ := hrel
      obtain ⟨W3, rfl⟩ : ∃ W3 : World, W3 = wr := ⟨_, rfl⟩
      replace hgk := Lib.hid hgk
      by_cases hlt : i < T.length
      · have e9 := (hBr.block _ hs8).trans e8.out
        have hb9 : w.heap.size < W3.heap.size := Nat.lt_of_lt_of_le hs8 hBr.size
        have d0 : W3.cell? ⟨w.heap.size, 0, none⟩ = some (.int .i64 (a : Int)) := wcell (cs := [_, _, _]) e9 0
        have d1 : W3.cell? ⟨w.heap.size, 1, none⟩ = some (.int .i64 (b : Int)) := wcell (cs := [_, _, _]) e9 1
        have d2 : W3.cell? ⟨w.heap.size, 2, none⟩ = some (.slice q n c) := wcell (cs := [_, _, _]) e9 2
        have hxr := hx7.out.below hBr
        have hpr := hpT7.out.below hBr
        obtain ⟨lb, lo, rfl, hlb, hcx⟩ := hpr.at (by omega)
        clear hcx
        have d3 : W3.cell? ⟨lb, lo + i, none⟩ = some (.int .i64 (st T i : Nat)) := hpr.cellN hlt
        have hpe : st T i = T[i] := by unfold st; rw [List.getElem?_eq_getElem hlt]; rfl
        have hxm : st T i ∈ T := by rw [hpe]; exact List.getElem_mem hlt
        obtain ⟨hpn, hpt⟩ := (hPm.out _).1 hxm
        have hsn := bestL_snoc (fun p => valS a b (2 * d + 3) (putS s a b who p) (3 - who) d) (st T i) (T.take i) (-1000, -1)
        rw [hpe, ← List.take_succ_eq_append_getElem hlt, ← hS.out, ← hpe, ← HV.out] at hsn
        have hN := HVb.out (st T i)
        have HT := Lib.hid (fun W (h : Below W3.heap.size W3 W) => Put_yes q n c a b who (st T i) s W (by omega) (by omega) (by omega) (by omega) h5.out h6.out hn.out hw1 hw2 hpn hs.out hpt (hxr.below h))
        have HK := Lib.hid (fun (q2 : Option Addr) (c2 : Nat) (W : World) (hx : IntsIn W q2 n (asI (putS s a b who (st T i)))) => Best_yes q2 n c2 a b (3 - who) d (2 * d + 3) (putS s a b who (st T i)) W (by omega) (by omega) (by omega) (by omega) h5.out h6.out hn.out (by omega) (by omega) (by omega) (by omega) (putS_le s a b who (st T i) hls.out (by rw [← hn.out]; exact hpn) hw2 hs.out) hx (3 - (who : Int)) (d : Int) (Lib.hid (by omega)) (Lib.hid rfl))
        generalize (seekS a b (2 * d + 3) (putS s a b who (st T i)) (3 - who) d (-1000) 1000).1 = N at *
        generalize (seekS a b (2 * d + 3) (putS s a b who (st T i)) (3 - who) d (-1000) 1000).2 = N2 at *
        generalize putS s a b who (st T i) = U at *
        generalize hpd : st T i = p at *
        replace hpd := Lib.hid hpd
        replace e9 := Lib.hid e9; replace hxr := Lib.hid hxr; replace hpr := Lib.hid hpr; replace hBr := Lib.hid hBr; replace hpt := Lib.hid hpt; replace hpe := Lib.hid hpe; replace hxm := Lib.hid hxm; replace hsn := Lib.hid hsn
        have HS2 : Hid (∀ W : World, Below W3.heap.size W3 W → Calls Try.prog 10 #[.agg #[.int .i64 a, .int .i64 b, .slice q n c], .int .i64 who, .int .i64 p] W fun e w' => ∃ q2 c2, e = .returned (.tuple #[.agg #[.int .i64 a, .int .i64 b, .slice q2 n c2], .int .i64 0]) ∧ IntsIn w' q2 n (asI U) ∧ Below W3.heap.size W3 w') := fun W h =>
          (HT.out W h).mono fun e w' ⟨q2, c2, h1, h2, _, h3⟩ => ⟨q2, c2, h1, h2, h.trans (h3.mono h.size)⟩
        have HS1 : Hid (∀ W : World, Below W3.heap.size W3 W → W.heap[W3.heap.size]? = some (.cells #[.int .i64 0, .int .i64 0, .slice none 0 0] 24) → Calls Try.prog 10 #[.agg #[.int .i64 a, .int .i64 b, .slice q n c], .int .i64 who, .int .i64 p] W fun e w' => ∃ q2 c2, e = .returned (.tuple #[.agg #[.int .i64 a, .int .i64 b, .slice q2 n c2], .int .i64 0]) ∧ IntsIn w' q2 n (asI U) ∧ Below W3.heap.size W3 w' ∧ w'.heap[W3.heap.size]? = some (.cells #[.int .i64 0, .int .i64 0, .slice none 0 0] 24)) := fun W h h8 =>
          (HT.out W h).mono fun e w' ⟨q2, c2, h1, h2, _, h3⟩ => ⟨q2, c2, h1, h2, h.trans (h3.mono h.size), (h3.block _ (lt_of_heap h8)).trans h8⟩
        clear HT hS
        go_wp2_with fail
        go_upto_region 14 with fail
        go_cut [19, 20] (fun v ve wx => OutG W3 n a b U v ve wx)
        case first =>
          have hlb3 : lb < W3.heap.size := hlb
          go_region_held3 (fun w' => w'.cell? ⟨w.heap.size, 0, none⟩ = some (.int .i64 (a : Int)) ∧ w'.cell? ⟨w.heap.size, 1, none⟩ = some (.int .i64 (b : Int)) ∧ w'.cell? ⟨w.heap.size, 2, none⟩ = some (.slice q n c) ∧ w'.cell? ⟨lb, lo + i, none⟩ = some (.int .i64 (p : Int))) (first | exact ⟨d0', d1', d2', d3'⟩ | exact ⟨(cell3_ne _ (Nat.ne_of_lt hb9) _ _ _).trans d0', (cell3_ne _ (Nat.ne_of_lt hb9) _ _ _).trans d1', (cell3_ne _ (Nat.ne_of_lt hb9) _ _ _).trans d2', (cell3_ne _ (Nat.ne_of_lt hlb3) _ _ _).trans d3'⟩ | exact ⟨d0, d1, d2, d3⟩ | go_keep)
            (first
            | (go_at_call 10; refine (HS1.out _ ?_ ?_).mono ?_; (first | exact Below.refl _ _ | exact below_drewN (Below.refl _ _) 1 | exact (below_drewN (Below.refl _ _) 1).alloc (Nat.le_refl _) _ | exact below_drewN ((Below.refl _ _).alloc (Nat.le_refl _) _) 1); (first | exact heap_alloc_new W3 _ | exact heap_alloc_new W3.drew _); rintro e w6 ⟨q6, c6, rfl, hx6, hB6, x8⟩; have d0' : w6.cell? ⟨w.heap.size, 0, none⟩ = some (.int .i64 (a : Int)) := wcell (cs := [_, _, _]) ((hB6.block _ hb9).trans e9.out) 0; have d1' : w6.cell? ⟨w.heap.size, 1, none⟩ = some (.int .i64 (b : Int)) := wcell (cs := [_, _, _]) ((hB6.block _ hb9).trans e9.out) 1; have d2' : w6.cell? ⟨w.heap.size, 2, none⟩ = some (.slice q n c) := wcell (cs := [_, _, _]) ((hB6.block _ hb9).trans e9.out) 2; have d3' : w6.cell? ⟨lb, lo + i, none⟩ = some (.int .i64 (p : Int)) := (hB6.cell (p := ⟨lb, lo + i, none⟩) hlb3).trans d3; have hs56 := Lib.hid hB6.size; replace hB6 := Lib.hid hB6; replace hx6 := Lib.hid hx6; have y0 : w6.cell? ⟨W3.heap.size, 0, none⟩ = some (.int .i64 0) := wcell (cs := [_, _, _]) x8 0; have y1 : w6.cell? ⟨W3.heap.size, 1, none⟩ = some (.int .i64 0) := wcell (cs := [_, _, _]) x8 1; have y2 : w6.cell? ⟨W3.heap.size, 2, none⟩ = some (.slice none 0 0) := wcell (cs := [_, _, _]) x8 2; have f0' : w6.frozen? ⟨W3.heap.size, 0, none⟩ = false := wfree x8 0; have f1' : w6.frozen? ⟨W3.heap.size, 1, none⟩ = false := wfree x8 1; have f2' : w6.frozen? ⟨W3.heap.size, 2, none⟩ = false := wfree x8 2; replace x8 := Lib.hid x8)
            | (go_at_call 10; refine (HS2.out _ ?_).mono ?_; (first | exact Below.refl _ _ | exact below_drewN (Below.refl _ _) 1 | exact (below_drewN (Below.refl _ _) 1).alloc (Nat.le_refl _) _ | exact below_drewN ((Below.refl _ _).alloc (Nat.le_refl _) _) 1); rintro e w6 ⟨q6, c6, rfl, hx6, hB6⟩; have d0' : w6.cell? ⟨w.heap.size, 0, none⟩ = some (.int .i64 (a : Int)) := wcell (cs := [_, _, _]) ((hB6.block _ hb9).trans e9.out) 0; have d1' : w6.cell? ⟨w.heap.size, 1, none⟩ = some (.int .i64 (b : Int)) := wcell (cs := [_, _, _]) ((hB6.block _ hb9).trans e9.out) 1; have d2' : w6.cell? ⟨w.heap.size, 2, none⟩ = some (.slice q n c) := wcell (cs := [_, _, _]) ((hB6.block _ hb9).trans e9.out) 2; have d3' : w6.cell? ⟨lb, lo + i, none⟩ = some (.int .i64 (p : Int)) := (hB6.cell (p := ⟨lb, lo + i, none⟩) hlb3).trans d3; have hs56 := Lib.hid hB6.size; replace hB6 := Lib.hid hB6; replace hx6 := Lib.hid hx6))
          all_goals
            go_wp2_with fail
            go_meet
            first | exact outG_new hx6.out hB6.out | exact outG_set hx6.out hB6.out x8.out (by omega)
        case rest =>
          obtain ⟨hBc, bb, rfl, rfl, q6, c6, hbb, e6, hx6⟩ := hcut
          have hB9 := Lib.hid (hBr.out.trans (hBc.mono hBr.out.size))
          have hpr6 := Lib.hid (hpr.out.below hBc)
          replace hBc := Lib.hid hBc
          have k0 : wc.cell? ⟨bb, 0, none⟩ = some (.int .i64 (a : Int)) := wcell (cs := [_, _, _]) e6 0
          have k1 : wc.cell? ⟨bb, 1, none⟩ = some (.int .i64 (b : Int)) := wcell (cs := [_, _, _]) e6 1
          have k2 : wc.cell? ⟨bb, 2, none⟩ = some (.slice q6 n c6) := wcell (cs := [_, _, _]) e6 2
          replace e6 := Lib.hid e6
          have HK6 := Lib.hid (HK.out q6 c6 _ hx6)
          clear HK HS1 HS2 d0 d1 d2 d3
          go_wp2_with fail
          refine HK6.out.mono ?_
          rintro e w7 ⟨rfl, hB⟩
          have hBA := Lib.hid (hB9.out.trans (hB.mono hB9.out.size))
          have d3 : w7.cell? ⟨lb, lo + i, none⟩ = some (.int .i64 (p : Int)) := by
            have := (hpr6.out.below hB).cellN hlt
            rw [hpd.out] at this; exact this
          clear hB hB9 HK6 k0 k1 k2 hpr6
          by_cases hg : -N > x
          · have hsn' := hsn.out
            rw [if_pos hg] at hsn'
            have hg' : x < -N := hg
            replace hsn' := Lib.hid hsn'
            go_wp2_with fail
            have hgk := hgk.out
            go_roundg (T.length - (i + 1))
            case measure => omega
            case rel => exact ⟨i + 1, -N, p, by omega, rfl, rfl, rfl, by go_num, by omega, by omega, hBA.out, Lib.hid hsn'.out.symm⟩
          · have hsn' := hsn.out
            rw [if_neg hg] at hsn'
            have hg' : ¬ x < -N := hg
            replace hsn' := Lib.hid hsn'
            go_wp2_with fail
            have hgk := hgk.out
            go_roundg (T.length - (i + 1))
            case measure => omega
            case rel => exact ⟨i + 1, x, y, by omega, rfl, rfl, rfl, by go_num, by omega, by omega, hBA.out, Lib.hid hsn'.out.symm⟩
      · have hiT : i = T.length := by omega
        subst hiT
        have hS' := hS.out
        rw [List.take_length, ← HR.out] at hS'
        subst hS'
        have hB9 := Lib.hid (hB7.out.trans (hBr.mono hB7.out.size))
        clear hS HR HV HVb
        go_wp2_with fail
        go_ret
        exact ⟨rfl, hB9.out⟩
end Go.Proofs.Ytlhbbkjplecghaa
