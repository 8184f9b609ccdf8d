/- gameroomkeep.PegsClass returns true for every board that may be; a board of 1 to 10 by 1 to 10 places. -/
import Derived.Test.YtapoimadiiheaaaPCl
import Derived.Deep.CutBlock
namespace Go.Proofs.Ytapoimadiiheaaa
open Go.RowKit

theorem cell3_ne {w : World} {g b : Nat} (i : Nat) (h : g ≠ b) (x y z : Value) : (((w.setCell ⟨b, 0, none⟩ x).setCell ⟨b, 1, none⟩ y).setCell ⟨b, 2, none⟩ z).cell? ⟨g, i, none⟩ = w.cell? ⟨g, i, none⟩ := by
  refine World.cell?_of_block (a := ⟨g, i, none⟩) ?_
  rw [wset_ne _ _ h, wset_ne _ _ h, wset_ne _ _ h]
/-- what does not change: the board's box and its class's. -/
structure Ls (w X : World) (a b n c : Nat) (q : Option Addr) (b7 y1 y2 y3 y4 : Nat) : Prop where
  g : X.heap[w.heap.size]? = some (.cells #[.int .i64 (a : Int), .int .i64 (b : Int), .slice q n c] 24 (0, 0))
  y : X.heap[b7]? = some (.cells #[.int .i64 (y1 : Int), .int .i64 (y2 : Int), .int .i64 (y3 : Int), .int .i64 (y4 : Int)] 38 (0, 0))
  low : Below w.heap.size w X
theorem Ls.bw {w X Y : World} {a b n c : Nat} {q : Option Addr} {b7 y1 y2 y3 y4 : Nat} (h : Ls w X a b n c q b7 y1 y2 y3 y4) (hb : Bw X Y) : Ls w Y a b n c q b7 y1 y2 y3 y4 :=
  ⟨(Below.block hb _ (lt_of_heap h.g)).trans h.g, (Below.block hb _ (lt_of_heap h.y)).trans h.y, h.low.trans (Below.mono hb h.low.size)⟩
theorem Ls.set {w X : World} {a b n c : Nat} {q : Option Addr} {b7 y1 y2 y3 y4 : Nat} (h : Ls w X a b n c q b7 y1 y2 y3 y4) (p : Addr) (v : Value) (h1 : w.heap.size < p.block) (h2 : b7 ≠ p.block) : Ls w (X.setCell p v) a b n c q b7 y1 y2 y3 y4 :=
  ⟨(Below.heap_setCell X p v _ (by omega)).trans h.g, (Below.heap_setCell X p v _ h2).trans h.y, h.low.setCell (p := p) (by omega) v⟩
/-- a box of a board that was made. -/
def BoxR (W : World) (a b n : Nat) (t : List Nat) (v : Value) (X : World) : Prop := ∃ bb p c, v = .pointer (some ⟨bb, 0, none⟩) ∧ X.heap[bb]? = some (.cells #[.int .i64 (a : Int), .int .i64 (b : Int), .slice p n c] 24 (0, 0)) ∧ IntsIn X p n (asI t) ∧ (∀ x, p = some x → W.heap.size ≤ x.block ∧ x.block ≠ bb) ∧ W.heap.size ≤ bb ∧ Bw W X
theorem box_new {W w8 : World} {a b n c : Nat} {t : List Nat} {p : Option Addr} (hx : IntsIn w8 p n (asI t)) (hn : 0 < n) (hB : Bw W w8) (hf : ∀ x, p = some x → W.heap.size ≤ x.block) :
    BoxR W a b n t (.pointer (some ⟨w8.heap.size, 0, none⟩)) (w8.alloc (.cells #[.int .i64 (a : Int), .int .i64 (b : Int), .slice p n c] 24)) := by
  obtain ⟨b', o', rfl, hb', _⟩ := hx.at hn
  exact ⟨_, _, c, rfl, heap_alloc_new w8 _, hx.alloc _, fun x hx => by cases hx; exact ⟨hf _ rfl, by simp only; omega⟩, Below.size hB, hB.alloc _⟩
theorem box_set {W w8 : World} {a b n c bb : Nat} {t : List Nat} {p : Option Addr} {x0 y0 z0 : Value} (hx : IntsIn w8 p n (asI t)) (hB : Bw W w8) (h8 : w8.heap[bb]? = some (.cells #[x0, y0, z0] 24 (0, 0))) (hbb : W.heap.size ≤ bb) (hf : ∀ x, p = some x → bb < x.block) :
    BoxR W a b n t (.pointer (some ⟨bb, 0, none⟩)) (((w8.setCell ⟨bb, 0, none⟩ (.int .i64 (a : Int))).setCell ⟨bb, 1, none⟩ (.int .i64 (b : Int))).setCell ⟨bb, 2, none⟩ (.slice p n c)) := by
  refine ⟨bb, p, c, rfl, ?_, ?_, fun x hx => ⟨by have := hf x hx; omega, by have := hf x hx; omega⟩, hbb, ?_⟩
  · simp [World.setCell, Array.getElem?_modify, h8]
  · refine hx.keep (by simp [World.setCell]) fun b' o' e => ?_
    have hne : b' ≠ bb := by have := hf _ e; simp at this; omega
    rw [wset_ne _ _ hne, wset_ne _ _ hne, wset_ne _ _ hne]
  · exact ((Below.setCell hB (p := ⟨bb, 0, none⟩) hbb _).setCell (p := ⟨bb, 1, none⟩) hbb _).setCell (p := ⟨bb, 2, none⟩) hbb _
/-- a box of a board whose row is the call's own. -/
def BoxO (W : World) (a b n : Nat) (t : List Nat) (v : Value) (X : World) : Prop := ∃ bb p c, v = .pointer (some ⟨bb, 0, none⟩) ∧ X.heap[bb]? = some (.cells #[.int .i64 (a : Int), .int .i64 (b : Int), .slice p n c] 24 (0, 0)) ∧ Own 3 W.heap.size X p n c (asI t) ∧ (∀ x : Addr, p = some x → x.block ≠ bb) ∧ W.heap.size ≤ bb ∧ Bw W X
theorem boxO_new {W w9 : World} {a b n c B : Nat} {t : List Nat} {p : Option Addr} (hO : Own 3 B w9 p n c (asI t)) (hb : Bw W w9) (hB : W.heap.size ≤ B) : BoxO W a b n t (.pointer (some ⟨w9.heap.size, 0, none⟩)) (w9.alloc (.cells #[.int .i64 (a : Int), .int .i64 (b : Int), .slice p n c] 24)) :=
  ⟨_, p, c, rfl, heap_alloc_new w9 _, OwnC.mono (k := 1) (hO.alloc _) hB, fun x hx => by have := (hO.block x hx).2; omega, Below.size hb, hb.alloc _⟩
theorem boxO_set {W w9 : World} {a b n c : Nat} {t : List Nat} {p : Option Addr} {x0 y0 z0 : Value} (hO : Own 3 (W.heap.size + 1) w9 p n c (asI t)) (hb : Bw W w9) (h9 : w9.heap[W.heap.size]? = some (.cells #[x0, y0, z0] 24 (0, 0))) :
    BoxO W a b n t (.pointer (some ⟨W.heap.size, 0, none⟩)) (((w9.setCell ⟨W.heap.size, 0, none⟩ (.int .i64 (a : Int))).setCell ⟨W.heap.size, 1, none⟩ (.int .i64 (b : Int))).setCell ⟨W.heap.size, 2, none⟩ (.slice p n c)) := by
  have far : ∀ x : Addr, p = some x → x.block ≠ W.heap.size := fun x hx => by have := (hO.block x hx).1; omega
  refine ⟨_, p, c, rfl, ?_, ?_, far, Nat.le_refl _, ?_⟩
  · simp [World.setCell, Array.getElem?_modify, h9]
  · refine OwnC.mono (k := 1) (OwnC.keep hO fun x hx => ?_) (Nat.le_succ _)
    have hne := far x hx
    rw [wset_ne _ _ hne, wset_ne _ _ hne, wset_ne _ _ hne]
  · exact ((Below.setCell hb (p := ⟨W.heap.size, 0, none⟩) (Nat.le_refl _) _).setCell (p := ⟨W.heap.size, 1, none⟩) (Nat.le_refl _) _).setCell (p := ⟨W.heap.size, 2, none⟩) (Nat.le_refl _) _
/-- a box that was set anew. -/
def BoxSet (X : World) (bb a b n : Nat) (p : Option Addr) (c : Nat) (t : List Nat) : Prop := X.heap[bb]? = some (.cells #[.int .i64 (a : Int), .int .i64 (b : Int), .slice p n c] 24 (0, 0)) ∧ IntsIn X p n (asI t)
theorem boxset {w8 : World} {a b n c bb : Nat} {t : List Nat} {p : Option Addr} {x0 y0 z0 : Value} (h8 : w8.heap[bb]? = some (.cells #[x0, y0, z0] 24 (0, 0))) (hx : IntsIn w8 p n (asI t)) (hf : ∀ x : Addr, p = some x → x.block ≠ bb) :
    BoxSet (((w8.setCell ⟨bb, 0, none⟩ (.int .i64 (a : Int))).setCell ⟨bb, 1, none⟩ (.int .i64 (b : Int))).setCell ⟨bb, 2, none⟩ (.slice p n c)) bb a b n p c t := by
  refine ⟨?_, ?_⟩
  · simp [World.setCell, Array.getElem?_modify, h8]
  · refine hx.keep (by simp [World.setCell]) fun b' o' e => ?_
    have hne : b' ≠ bb := hf _ e
    rw [wset_ne _ _ hne, wset_ne _ _ hne, wset_ne _ _ hne]
theorem do_one (a b n c sz : Nat) (q : Option Addr) (t : List Nat) (j : Jm) (W : World) (ha1 : 1 ≤ a) (ha : a ≤ 10) (hbp : 1 ≤ b) (hb : b ≤ 10) (hn : n = a * b) (hx : IntsIn W q n (asI t)) (ht2 : ∀ j, st t j ≤ 2) (hj : inJ a b t j) (hc : canJ t j = true)
    (hs : W.heap[sz]? = some (.cells #[.int .i64 (j.1 : Int), .int .i64 (j.2.2 : Int), .int .i64 0] 32 (0, 0))) :
    Calls Try.prog 8 #[.agg #[.int .i64 (a : Int), .int .i64 (b : Int), .slice q n c], .slice (some ⟨sz, 0, none⟩) 1 1] W fun e w' => ∃ p' c', e = .returned (.tuple #[.agg #[.int .i64 (a : Int), .int .i64 (b : Int), .slice p' n c'], .int .i64 1, .int .i64 0]) ∧ IntsIn w' p' n (asI (doJ t j)) ∧ Bw W w' ∧ ∀ x, p' = some x → W.heap.size ≤ x.block := by
  refine (do_path a b n c 1 1 q (some ⟨sz, 0, none⟩) t (doJ t j) [j] [j] W ha1 ha hbp hb hn hx ht2 ⟨rfl, fun i hi => ?_⟩ ?_ (fun k hk => by rw [List.mem_singleton] at hk; subst hk; exact hj)).mono ?_
  · have : i = 0 := by omega
    subst this
    exact ⟨sz, j, rfl, lt_of_heap hs, rfl, wcell (cs := [_, _, _]) hs 0, wcell (cs := [_, _, _]) hs 1, wcell (cs := [_, _, _]) hs 2⟩
  · exact Pth.snoc (row := []) (.nil) (by simp) hc
  · rintro e w' ⟨p', c', h1, h2, h3, h4⟩
    exact ⟨p', c', h1, h2, h3, h4⟩
theorem do_cls {a b : Nat} {t : List Nat} {j : Jm} (hb : b ≤ 30) (hl : t.length = a * b) (hj : inJ a b t j) (hc : canJ t j = true) : clsS a (doJ t j) = clsS a t := by
  obtain ⟨k1, k2⟩ := inJ_tri hb hj
  exact cls_jump (inJ_wf hl hj) hc k1 k2
set_option maxHeartbeats 16000000 in
set_option maxRecDepth 100000 in
theorem class_yes (a b n c : Nat) (q : Option Addr) (s : List Nat) (pr : Option Addr) (nr cr : Nat) (raw : List Int) (w : World) (ha1 : 1 ≤ a) (ha : a ≤ 10) (hbp : 1 ≤ b) (hb : b ≤ 10) (hn : n = a * b) (hx : IntsIn w q n (asI s)) (hs2 : ∀ j, st s j ≤ 2)
    (hnr : nr ≤ 9223372036854775807) (hr : IntsIn w pr nr raw) (hrb : ∀ j, j < nr → -9223372036854775808 ≤ raw[j]?.getD 0 ∧ raw[j]?.getD 0 ≤ 9223372036854775807) :
    Calls Try.prog 4 #[.agg #[.int .i64 (a : Int), .int .i64 (b : Int), .slice q n c], .slice pr nr cr] w fun e w' => e = .returned (.bool true) ∧ Below w.heap.size w w' := by
  have hn100 : n ≤ 100 := by rw [hn]; exact Nat.mul_le_mul ha hb
  have hn0 : 0 < n := by rw [hn]; exact Nat.mul_pos ha1 hbp
  have hsl : s.length = n := by have := hx.len; rwa [asI_len] at this
  have hm : mayG a b (asI s) = true := mayG_of ha1 ha hbp hb (by rw [hsl, hn]) hs2
  have e0 := heap_alloc_new w (.cells #[.int .i64 (a : Int), .int .i64 (b : Int), .slice q n c] 24)
  have hb0 : Bw w (w.alloc (.cells #[.int .i64 (a : Int), .int .i64 (b : Int), .slice q n c] 24)) := (Bw.refl w).alloc _
  have hw0 := Lib.hid hx
  have hr0 := Lib.hid hr
  clear hx hr
  replace hn := Lib.hid hn; replace hrb := Lib.hid hrb
  obtain ⟨y1, hy1⟩ : ∃ y, y = kC1 a s s.length := ⟨_, rfl⟩
  obtain ⟨y2, hy2⟩ : ∃ y, y = kC2 a s s.length := ⟨_, rfl⟩
  obtain ⟨y3, hy3⟩ : ∃ y, y = kC3 a s s.length := ⟨_, rfl⟩
  obtain ⟨y4, hy4⟩ : ∃ y, y = kC4 a s s.length := ⟨_, rfl⟩
  have hY : Hid (clsV a s = .agg #[.int .i64 (y1 : Int), .int .i64 (y2 : Int), .int .i64 (y3 : Int), .int .i64 (y4 : Int)]) := by show _ = _; rw [hy1, hy2, hy3, hy4]; rfl
  have HCl : Hid (∀ (X : World) (p : Option Addr) (cc : Nat) (t : List Nat), IntsIn X p n (asI t) → (∀ j, st t j ≤ 2) → clsS a t = clsS a s → Calls Try.prog 10 #[.agg #[.int .i64 (a : Int), .int .i64 (b : Int), .slice p n cc]] X fun e X' => e = .returned (.tuple #[.agg #[.int .i64 (y1 : Int), .int .i64 (y2 : Int), .int .i64 (y3 : Int), .int .i64 (y4 : Int)], .int .i64 0]) ∧ Bw X X') := fun X p cc t h1 h2 h3 => by
    have := cls_yes a b n cc p t X ha1 ha hbp hb hn.out h1 h2
    rw [clsV_eq h3, hY.out] at this; exact this
  have heqY : ∀ X : World, (Op.equalIn 10000 38 (.agg #[.int .i64 (y1 : Int), .int .i64 (y2 : Int), .int .i64 (y3 : Int), .int .i64 (y4 : Int)]) (.agg #[.int .i64 (y1 : Int), .int .i64 (y2 : Int), .int .i64 (y3 : Int), .int .i64 (y4 : Int)])).run Try.prog X = .ok true X := fun X => by rw [eq38]; simp
  replace hy1 := Lib.hid hy1; replace hy2 := Lib.hid hy2; replace hy3 := Lib.hid hy3; replace hy4 := Lib.hid hy4
  go_enter Try.func4, Try.ntmps4
  go_upto_region 1 with fail
  generalize w.alloc (.cells #[.int .i64 (a : Int), .int .i64 (b : Int), .slice q n c] 24) = W0 at *
  have hsz := lt_of_heap e0
  have HX : Hid (∀ X : World, Below w.heap.size w X → IntsIn X q n (asI s)) := fun X hX => hw0.out.below hX
  have HR : Hid (∀ X : World, Below w.heap.size w X → IntsIn X pr nr raw) := fun X hX => hr0.out.below hX
  have e1 := heap_alloc_new W0 (.cells #[.int .i64 1, .int .i64 1, .int .i64 0] 3)
  have HE := Lib.hid (ex_few W0.heap.size 3 (W0.alloc (.cells #[.int .i64 1, .int .i64 1, .int .i64 0] 3)) e1)
  have hb1 : Hid (Bw W0 (W0.alloc (.cells #[.int .i64 1, .int .i64 1, .int .i64 0] 3))) := (Bw.refl W0).alloc _
  replace e0 := Lib.hid e0; replace e1 := Lib.hid e1; replace hb0 := Lib.hid hb0
  go_upto_region 4 with (go_at_call 5; (with_reducible refine HE.out.mono ?_); rintro e w2 ⟨rfl, hb2⟩; replace hb2 := Lib.hid hb2)
  have hb02 : Hid (Bw W0 w2) := hb1.out.trans hb2.out
  have g2 := (Below.block hb02.out _ hsz).trans e0.out
  have l2 : Hid (Below w.heap.size w w2) := hb0.out.trans (Below.mono hb02.out (by omega))
  have HC := Lib.hid (HCl.out w2 q c s (HX.out w2 l2.out) hs2 rfl)
  have d0 : w2.cell? ⟨w.heap.size, 0, none⟩ = some (.int .i64 (a : Int)) := wcell (cs := [_, _, _]) g2 0
  have d1 : w2.cell? ⟨w.heap.size, 1, none⟩ = some (.int .i64 (b : Int)) := wcell (cs := [_, _, _]) g2 1
  have d2 : w2.cell? ⟨w.heap.size, 2, none⟩ = some (.slice q n c) := wcell (cs := [_, _, _]) g2 2
  replace g2 := Lib.hid g2
  go_upto_region 5 with (go_at_call 10; (with_reducible refine HC.out.mono ?_); rintro e w3 ⟨rfl, hb3⟩; replace hb3 := Lib.hid hb3)
  have hL4 : Hid (Ls w (w3.alloc (.cells #[.int .i64 (y1 : Int), .int .i64 (y2 : Int), .int .i64 (y3 : Int), .int .i64 (y4 : Int)] 38)) a b n c q w3.heap.size y1 y2 y3 y4) :=
    ⟨(Below.block (hb3.out.trans ((Bw.refl w3).alloc _)) _ (lt_of_heap g2.out)).trans g2.out, heap_alloc_new w3 _, l2.out.trans (Below.mono (hb3.out.trans ((Bw.refl w3).alloc _)) l2.out.size)⟩
  have hb7 : w.heap.size < w3.heap.size := Nat.lt_of_lt_of_le (lt_of_heap g2.out) (Below.size hb3.out)
  clear d0 d1 d2 HC HE hb2 hb1
  generalize hW4 : w3.alloc (.cells #[.int .i64 (y1 : Int), .int .i64 (y2 : Int), .int .i64 (y3 : Int), .int .i64 (y4 : Int)] 38) = W4 at *
  clear hW4
  have d0 : W4.cell? ⟨w.heap.size, 0, none⟩ = some (.int .i64 (a : Int)) := wcell (cs := [_, _, _]) hL4.out.g 0
  have d1 : W4.cell? ⟨w.heap.size, 1, none⟩ = some (.int .i64 (b : Int)) := wcell (cs := [_, _, _]) hL4.out.g 1
  have d2 : W4.cell? ⟨w.heap.size, 2, none⟩ = some (.slice q n c) := wcell (cs := [_, _, _]) hL4.out.g 2
  have HM := may_any q n c a b (asI s) W4 (by omega) (by omega) (by omega) (by omega) (by omega) (HX.out W4 hL4.out.low)
  rw [hm] at HM
  replace HM := Lib.hid HM
  have hlt7 : w3.heap.size < W4.heap.size := lt_of_heap hL4.out.y
  go_upto_region 7 with (go_at_call 11; (with_reducible refine HM.out.mono ?_); rintro e w5 ⟨rfl, hb5⟩; replace hb5 := Lib.hid hb5)
  have hL5 : Hid (Ls w w5 a b n c q w3.heap.size y1 y2 y3 y4) := hL4.out.bw hb5.out
  have hlt5 : w3.heap.size < w5.heap.size := lt_of_heap hL5.out.y
  clear d0 d1 d2 HM
  have d0 : w5.cell? ⟨w.heap.size, 0, none⟩ = some (.int .i64 (a : Int)) := wcell (cs := [_, _, _]) hL5.out.g 0
  have d1 : w5.cell? ⟨w.heap.size, 1, none⟩ = some (.int .i64 (b : Int)) := wcell (cs := [_, _, _]) hL5.out.g 1
  have d2 : w5.cell? ⟨w.heap.size, 2, none⟩ = some (.slice q n c) := wcell (cs := [_, _, _]) hL5.out.g 2
  go_upto_region 8 with fail
  have hL6 : Hid (Ls w (w5.alloc (.cells #[.int .i64 (a : Int), .int .i64 (b : Int), .slice q n c] 24)) a b n c q w3.heap.size y1 y2 y3 y4) := hL5.out.bw ((Bw.refl w5).alloc _)
  have n6 := heap_alloc_new w5 (.cells #[.int .i64 (a : Int), .int .i64 (b : Int), .slice q n c] 24)
  clear d0 d1 d2
  generalize hW6 : w5.alloc (.cells #[.int .i64 (a : Int), .int .i64 (b : Int), .slice q n c] 24) = W6 at *
  clear hW6
  have d0 : W6.cell? ⟨w.heap.size, 0, none⟩ = some (.int .i64 (a : Int)) := wcell (cs := [_, _, _]) hL6.out.g 0
  have d1 : W6.cell? ⟨w.heap.size, 1, none⟩ = some (.int .i64 (b : Int)) := wcell (cs := [_, _, _]) hL6.out.g 1
  have d2 : W6.cell? ⟨w.heap.size, 2, none⟩ = some (.slice q n c) := wcell (cs := [_, _, _]) hL6.out.g 2
  have HCt : Hid (∀ (X : World) (p : Option Addr) (cc : Nat) (t : List Nat), IntsIn X p n (asI t) → Calls Try.prog 9 #[.agg #[.int .i64 (a : Int), .int .i64 (b : Int), .slice p n cc], .int .i64 1] X fun e X' => e = .returned (.int .i64 ((cnt1 t : Nat) : Int)) ∧ Bw X X') := fun X p cc t h1 => count_any a b n cc p t 1 X (by omega) h1
  have HC := Lib.hid (HCt.out W6 q c s (HX.out W6 hL6.out.low))
  obtain ⟨ct, hct⟩ : ∃ ct, ct = cnt1 s := ⟨_, rfl⟩
  rw [← hct] at HC
  have hctn : ct ≤ n := by rw [hct, ← hsl]; exact List.countP_le_length
  replace hct := Lib.hid hct; replace n6 := Lib.hid n6
  go_upto_region 9 with (go_at_call 9; (with_reducible refine HC.out.mono ?_); rintro e w7 ⟨rfl, hb7'⟩; replace hb7' := Lib.hid hb7')
  have hL7 : Hid (Ls w w7 a b n c q w3.heap.size y1 y2 y3 y4) := hL6.out.bw hb7'.out
  have n7 : Hid (w7.heap[w5.heap.size]? = some (.cells #[.int .i64 (a : Int), .int .i64 (b : Int), .slice q n c] 24 (0, 0))) := (Below.block hb7'.out _ (lt_of_heap n6.out)).trans n6.out
  clear d0 d1 d2 HC hL4 hL5 hL6 hb5 n6 hb7' g2 l2 hb02 e0 e1 hb0 hb3
  go_upto_block 0 with fail
  go_cut [10] (fun _ X => Ls w X a b n c q w3.heap.size y1 y2 y3 y4)
  case first =>
    go_wp2_with fail
    have hst0 : Hid (IntsIn w7 q n (asI s)) := HX.out w7 hL7.out.low
    have hqn : Hid (∀ x : Addr, q = some x → x.block ≠ w5.heap.size) := fun x hx => by
      obtain ⟨bq, oq, e, hlt, _⟩ := hw0.out.at hn0
      rw [e] at hx; cases hx; simp only; omega
    go_loopg [9, 10] 8 (fun gk mv iv W' => ∃ (i : Nat) (t : List Nat) (p : Option Addr) (cc : Nat), i ≤ 8 ∧ gk = 8 - i ∧ mv = .int .i64 ((cnt1 t : Nat) : Int) ∧ iv = .int .i64 i ∧ W'.heap[w5.heap.size]? = some (.cells #[.int .i64 (a : Int), .int .i64 (b : Int), .slice p n cc] 24 (0, 0)) ∧ IntsIn W' p n (asI t) ∧ (∀ x : Addr, p = some x → x.block ≠ w5.heap.size) ∧ (∀ j, st t j ≤ 2) ∧ clsS a t = clsS a s ∧ Ls w W' a b n c q w3.heap.size y1 y2 y3 y4)
    case atStart => exact ⟨0, s, q, c, Nat.zero_le _, rfl, by rw [hct.out], rfl, n7.out, hst0.out, hqn.out, hs2, rfl, hL7.out⟩
    case round =>
      obtain ⟨i, t, p, cc, hi8, hgk, rfl, rfl, hnb, hxt, hpn, ht2, hcl, hL⟩ := hrel
      obtain ⟨W2, rfl⟩ : ∃ W2 : World, W2 = wr := ⟨_, rfl⟩
      replace hgk := Lib.hid hgk
      clear hst0 hqn n7 hL7
      by_cases hc1 : i < nr
      · by_cases hc2 : i < 8
        · have d0 : W2.cell? ⟨w5.heap.size, 0, none⟩ = some (.int .i64 (a : Int)) := wcell (cs := [_, _, _]) hnb 0
          have d1 : W2.cell? ⟨w5.heap.size, 1, none⟩ = some (.int .i64 (b : Int)) := wcell (cs := [_, _, _]) hnb 1
          have d2 : W2.cell? ⟨w5.heap.size, 2, none⟩ = some (.slice p n cc) := wcell (cs := [_, _, _]) hnb 2
          have HJ := Lib.hid (jmp_yes a b n cc p t W2 ha1 ha hbp hb hn.out hxt ht2)
          have htl : t.length = n := by have := hxt.len; rwa [asI_len] at this
          have q1 : (i : Int) < (nr : Int) := by omega
          have q2 : (i : Int) < 8 := by omega
          replace hnb := Lib.hid hnb; replace hxt := Lib.hid hxt; replace hpn := Lib.hid hpn; replace ht2 := Lib.hid ht2; replace hcl := Lib.hid hcl; replace hL := Lib.hid hL; replace htl := Lib.hid htl
          go_upto_region 15 with (go_at_call 12; (with_reducible refine HJ.out.mono ?_); rintro e w8 ⟨⟨p3, m, c3, row, rfl, hm4, hMv, hrow⟩, hb8⟩; replace hMv := Lib.hid hMv; replace hrow := Lib.hid hrow; replace hb8 := Lib.hid hb8)
          have hL8 : Hid (Ls w w8 a b n c q w3.heap.size y1 y2 y3 y4) := hL.out.bw hb8.out
          have hn8 : Hid (w8.heap[w5.heap.size]? = some (.cells #[.int .i64 (a : Int), .int .i64 (b : Int), .slice p n cc] 24 (0, 0))) := (Below.block hb8.out _ (lt_of_heap hnb.out)).trans hnb.out
          have hx8 : Hid (IntsIn w8 p n (asI t)) := hxt.out.below hb8.out
          clear d0 d1 d2 HJ
          by_cases hm0 : m = 0
          · subst hm0
            go_wp2_with fail
            go_meet
            exact hL8.out
          · have hmb : ((m : Int) == 0) = false := by simp; omega
            have hi0 : ¬ (m : Int) = 0 := by omega
            obtain ⟨rb, ro, rfl, hrlt, hcr⟩ := (HR.out w8 hL8.out.low).at (by omega)
            have r0 := hcr i hc1
            clear hcr
            obtain ⟨hx1, hx2⟩ := hrb.out i hc1
            obtain ⟨x, hxe⟩ : ∃ x, x = raw[i]?.getD 0 := ⟨_, rfl⟩
            rw [← hxe] at r0 hx1 hx2
            replace hxe := Lib.hid hxe
            have P2 := Lib.hid (fun X => picked_any x m X hx1 hx2 (by omega) (by omega) m (Lib.hid rfl))
            have hkm := pick_lt x m (by omega)
            generalize pick x m = k at *
            obtain ⟨lg, j, rfl, hlg, hj, c0, c1, c2⟩ := hMv.out.2 k hkm
            have hgood := hrow.out j (List.mem_of_getElem? hj)
            have hlw8 := lt_of_heap hn8.out
            have hDc : Hid (clsS a (doJ t j) = clsS a s) := (do_cls (by omega) (by rw [htl.out, hn.out]) hgood.1 hgood.2).trans hcl.out
            have hDn : Hid (cnt1 (doJ t j) + 1 = cnt1 t) := doJ_cnt (inJ_wf (by rw [htl.out, hn.out]) hgood.1) hgood.2
            have hD2 : Hid (∀ l, st (doJ t j) l ≤ 2) := fun l => (do_wall (inJ_wf (by rw [htl.out, hn.out]) hgood.1) hgood.2 l).2 (ht2.out l)
            have c0' : w8.cell? ⟨lg, k * 3, none⟩ = some (.int .i64 (j.1 : Int)) := by rw [Nat.mul_comm]; exact c0
            have c1' : w8.cell? ⟨lg, k * 3 + 1, none⟩ = some (.int .i64 (j.2.2 : Int)) := by rw [Nat.mul_comm]; exact c1
            have c2' : w8.cell? ⟨lg, k * 3 + 2, none⟩ = some (.int .i64 0) := by rw [Nat.mul_comm]; exact c2
            have D0 : Hid (∀ (X : World) (sz : Nat), Bw w8 X → X.heap[sz]? = some (.cells #[.int .i64 (j.1 : Int), .int .i64 (j.2.2 : Int), .int .i64 0] 32 (0, 0)) → Calls Try.prog 8 #[.agg #[.int .i64 (a : Int), .int .i64 (b : Int), .slice p n cc], .slice (some ⟨sz, 0, none⟩) 1 1] X fun e w' => ∃ p' c', e = .returned (.tuple #[.agg #[.int .i64 (a : Int), .int .i64 (b : Int), .slice p' n c'], .int .i64 1, .int .i64 0]) ∧ IntsIn w' p' n (asI (doJ t j)) ∧ Bw X w' ∧ Bw w8 w' ∧ ∀ x, p' = some x → X.heap.size ≤ x.block) := fun X sz hX hs =>
              (do_one a b n cc sz p t j X ha1 ha hbp hb hn.out (hx8.out.below hX) ht2.out hgood.1 hgood.2 hs).mono fun e w' ⟨p', c', h1, h2, h3, h4⟩ => ⟨p', c', h1, h2, h3, hX.trans h3, h4⟩
            obtain ⟨u, hu⟩ : ∃ u, u = doJ t j := ⟨_, rfl⟩
            rw [← hu] at hDc hDn hD2
            simp only [← hu] at D0
            replace hu := Lib.hid hu; replace hgood := Lib.hid hgood; replace hj := Lib.hid hj
            obtain ⟨jf, jo, jt⟩ := j
            simp only at c0 c1 c2 c0' c1' c2' D0
            have d0 : w8.cell? ⟨w5.heap.size, 0, none⟩ = some (.int .i64 (a : Int)) := wcell (cs := [_, _, _]) hn8.out 0
            have d1 : w8.cell? ⟨w5.heap.size, 1, none⟩ = some (.int .i64 (b : Int)) := wcell (cs := [_, _, _]) hn8.out 1
            have d2 : w8.cell? ⟨w5.heap.size, 2, none⟩ = some (.slice p n cc) := wcell (cs := [_, _, _]) hn8.out 2
            have v1 : (0 : Int) ≤ (k : Int) := by omega
            have v2 : (k : Int) < (m : Int) := by omega
            have v3 : (0 : Int) ≤ (i : Int) := by omega
            have fa : ((w8.alloc (.cells #[.int .i64 (jf : Int), .int .i64 (jt : Int), .int .i64 0] 32)).drew).heap[w8.heap.size]? = some (.cells #[.int .i64 (jf : Int), .int .i64 (jt : Int), .int .i64 0] 32 (0, 0)) := heap_alloc_new w8 _
            have fb : (((w8.alloc (.cells #[.int .i64 0, .int .i64 0, .slice none 0 0] 24)).alloc (.cells #[.int .i64 (jf : Int), .int .i64 (jt : Int), .int .i64 0] 32)).drew).heap[w8.heap.size + 1]? = some (.cells #[.int .i64 (jf : Int), .int .i64 (jt : Int), .int .i64 0] 32 (0, 0)) := (heap2 w8 (.cells #[.int .i64 0, .int .i64 0, .slice none 0 0] 24) (.cells #[.int .i64 (jf : Int), .int .i64 (jt : Int), .int .i64 0] 32)).2
            have fc : (((w8.alloc (.cells #[.int .i64 (jf : Int), .int .i64 (jt : Int), .int .i64 0] 32)).alloc (.cells #[.int .i64 0, .int .i64 0, .slice none 0 0] 24)).drew).heap[w8.heap.size]? = some (.cells #[.int .i64 (jf : Int), .int .i64 (jt : Int), .int .i64 0] 32 (0, 0)) := (heap2 w8 (.cells #[.int .i64 (jf : Int), .int .i64 (jt : Int), .int .i64 0] 32) (.cells #[.int .i64 0, .int .i64 0, .slice none 0 0] 24)).1
            have fbx : (((w8.alloc (.cells #[.int .i64 0, .int .i64 0, .slice none 0 0] 24)).alloc (.cells #[.int .i64 (jf : Int), .int .i64 (jt : Int), .int .i64 0] 32)).drew).heap[w8.heap.size]? = some (.cells #[.int .i64 0, .int .i64 0, .slice none 0 0] 24 (0, 0)) := (heap2 w8 (.cells #[.int .i64 0, .int .i64 0, .slice none 0 0] 24) (.cells #[.int .i64 (jf : Int), .int .i64 (jt : Int), .int .i64 0] 32)).1
            have fcx : (((w8.alloc (.cells #[.int .i64 (jf : Int), .int .i64 (jt : Int), .int .i64 0] 32)).alloc (.cells #[.int .i64 0, .int .i64 0, .slice none 0 0] 24)).drew).heap[w8.heap.size + 1]? = some (.cells #[.int .i64 0, .int .i64 0, .slice none 0 0] 24 (0, 0)) := (heap2 w8 (.cells #[.int .i64 (jf : Int), .int .i64 (jt : Int), .int .i64 0] 32) (.cells #[.int .i64 0, .int .i64 0, .slice none 0 0] 24)).2
            have ba : Bw w8 ((w8.alloc (.cells #[.int .i64 (jf : Int), .int .i64 (jt : Int), .int .i64 0] 32)).drew) := ((Bw.refl w8).alloc _).drew
            have bb : Bw w8 (((w8.alloc (.cells #[.int .i64 0, .int .i64 0, .slice none 0 0] 24)).alloc (.cells #[.int .i64 (jf : Int), .int .i64 (jt : Int), .int .i64 0] 32)).drew) := (((Bw.refl w8).alloc _).alloc _).drew
            have bc : Bw w8 (((w8.alloc (.cells #[.int .i64 (jf : Int), .int .i64 (jt : Int), .int .i64 0] 32)).alloc (.cells #[.int .i64 0, .int .i64 0, .slice none 0 0] 24)).drew) := (((Bw.refl w8).alloc _).alloc _).drew
            have zb : (((w8.alloc (.cells #[.int .i64 0, .int .i64 0, .slice none 0 0] 24)).alloc (.cells #[.int .i64 (jf : Int), .int .i64 (jt : Int), .int .i64 0] 32)).drew).heap.size = w8.heap.size + 2 := by show ((w8.alloc (.cells #[.int .i64 0, .int .i64 0, .slice none 0 0] 24)).alloc (.cells #[.int .i64 (jf : Int), .int .i64 (jt : Int), .int .i64 0] 32)).heap.size = _; simp
            have zc : (((w8.alloc (.cells #[.int .i64 (jf : Int), .int .i64 (jt : Int), .int .i64 0] 32)).alloc (.cells #[.int .i64 0, .int .i64 0, .slice none 0 0] 24)).drew).heap.size = w8.heap.size + 2 := by show ((w8.alloc (.cells #[.int .i64 (jf : Int), .int .i64 (jt : Int), .int .i64 0] 32)).alloc (.cells #[.int .i64 0, .int .i64 0, .slice none 0 0] 24)).heap.size = _; simp
            replace zb := Lib.hid zb; replace zc := Lib.hid zc; replace fbx := Lib.hid fbx; replace fcx := Lib.hid fcx
            have g1 : w5.heap.size ≠ w8.heap.size := by omega
            have g2 : w5.heap.size ≠ w8.heap.size + 1 := by omega
            have g3 : rb ≠ w8.heap.size := by omega
            have g4 : rb ≠ w8.heap.size + 1 := by omega
            have g5 : lg ≠ w8.heap.size := by omega
            have g6 : lg ≠ w8.heap.size + 1 := by omega
            go_upto_region 16 with fail
            clear c0 c1 c2
            go_cut [13, 14, 15] (fun v vn ve X => BoxR w8 a b n u v X ∧ vn = .int .i64 1 ∧ ve = .int .i64 0)
            case first =>
              go_region_held3 (fun X => X.cell? ⟨w5.heap.size, 0, none⟩ = some (.int .i64 (a : Int)) ∧ X.cell? ⟨w5.heap.size, 1, none⟩ = some (.int .i64 (b : Int)) ∧ X.cell? ⟨w5.heap.size, 2, none⟩ = some (.slice p n cc) ∧ X.cell? ⟨rb, ro + i, none⟩ = some (.int .i64 x) ∧ X.cell? ⟨lg, k * 3, none⟩ = some (.int .i64 (jf : Int)) ∧ X.cell? ⟨lg, k * 3 + 1, none⟩ = some (.int .i64 (jt : Int)) ∧ X.cell? ⟨lg, k * 3 + 2, none⟩ = some (.int .i64 0)) (first | with_reducible exact ⟨d0, d1, d2, r0, c0', c1', c2'⟩ | with_reducible exact ⟨x0, x1, x2, x3, x4, x5, x6⟩ | with_reducible exact ⟨(cell3_ne _ g1 _ _ _).trans x0, (cell3_ne _ g1 _ _ _).trans x1, (cell3_ne _ g1 _ _ _).trans x2, (cell3_ne _ g3 _ _ _).trans x3, (cell3_ne _ g5 _ _ _).trans x4, (cell3_ne _ g5 _ _ _).trans x5, (cell3_ne _ g5 _ _ _).trans x6⟩ | with_reducible exact ⟨(cell3_ne _ g2 _ _ _).trans x0, (cell3_ne _ g2 _ _ _).trans x1, (cell3_ne _ g2 _ _ _).trans x2, (cell3_ne _ g4 _ _ _).trans x3, (cell3_ne _ g6 _ _ _).trans x4, (cell3_ne _ g6 _ _ _).trans x5, (cell3_ne _ g6 _ _ _).trans x6⟩ | go_keep)
                (first
                | (go_at_call 13; (with_reducible refine (P2.out _).mono ?_); rintro e w9 ⟨rfl, rfl⟩)
                | (go_at_call 8; (with_reducible refine (D0.out _ _ ?_ ?_).mono ?_); (with_reducible exact bb); (with_reducible exact fb); rintro e w9 ⟨p9, c9, rfl, hx9, hbX, hb9, hf9⟩; have x0 : w9.cell? ⟨w5.heap.size, 0, none⟩ = some (.int .i64 (a : Int)) := (Below.cell (p := ⟨w5.heap.size, 0, none⟩) hb9 hlw8).trans d0; have x1 : w9.cell? ⟨w5.heap.size, 1, none⟩ = some (.int .i64 (b : Int)) := (Below.cell (p := ⟨w5.heap.size, 1, none⟩) hb9 hlw8).trans d1; have x2 : w9.cell? ⟨w5.heap.size, 2, none⟩ = some (.slice p n cc) := (Below.cell (p := ⟨w5.heap.size, 2, none⟩) hb9 hlw8).trans d2; have x3 : w9.cell? ⟨rb, ro + i, none⟩ = some (.int .i64 x) := (Below.cell (p := ⟨rb, ro + i, none⟩) hb9 hrlt).trans r0; have x4 : w9.cell? ⟨lg, k * 3, none⟩ = some (.int .i64 (jf : Int)) := (Below.cell (p := ⟨lg, k * 3, none⟩) hb9 hlg).trans c0'; have x5 : w9.cell? ⟨lg, k * 3 + 1, none⟩ = some (.int .i64 (jt : Int)) := (Below.cell (p := ⟨lg, k * 3 + 1, none⟩) hb9 hlg).trans c1'; have x6 : w9.cell? ⟨lg, k * 3 + 2, none⟩ = some (.int .i64 0) := (Below.cell (p := ⟨lg, k * 3 + 2, none⟩) hb9 hlg).trans c2'; have hbx9 := (Below.block hbX _ (by rw [zb.out]; omega)).trans fbx.out; have bx0 : w9.cell? ⟨w8.heap.size, 0, none⟩ = some (.int .i64 0) := wcell (cs := [_, _, _]) hbx9 0; have bz0 : w9.frozen? ⟨w8.heap.size, 0, none⟩ = false := wfree hbx9 0; have bx1 : w9.cell? ⟨w8.heap.size, 1, none⟩ = some (.int .i64 0) := wcell (cs := [_, _, _]) hbx9 1; have bz1 : w9.frozen? ⟨w8.heap.size, 1, none⟩ = false := wfree hbx9 1; have bx2 : w9.cell? ⟨w8.heap.size, 2, none⟩ = some (.slice none 0 0) := wcell (cs := [_, _, _]) hbx9 2; have bz2 : w9.frozen? ⟨w8.heap.size, 2, none⟩ = false := wfree hbx9 2; have hfb : Hid (∀ x : Addr, p9 = some x → w8.heap.size < x.block) := (fun x hx => (by have := hf9 x hx; rw [zb.out] at this; omega)); replace hbx9 := Lib.hid hbx9; replace hx9 := Lib.hid hx9; replace hb9 := Lib.hid hb9; replace hf9 := Lib.hid hf9; replace hbX := Lib.hid hbX)
                | (go_at_call 8; (with_reducible refine (D0.out _ _ ?_ ?_).mono ?_); (with_reducible exact bc); (with_reducible exact fc); rintro e w9 ⟨p9, c9, rfl, hx9, hbX, hb9, hf9⟩; have x0 : w9.cell? ⟨w5.heap.size, 0, none⟩ = some (.int .i64 (a : Int)) := (Below.cell (p := ⟨w5.heap.size, 0, none⟩) hb9 hlw8).trans d0; have x1 : w9.cell? ⟨w5.heap.size, 1, none⟩ = some (.int .i64 (b : Int)) := (Below.cell (p := ⟨w5.heap.size, 1, none⟩) hb9 hlw8).trans d1; have x2 : w9.cell? ⟨w5.heap.size, 2, none⟩ = some (.slice p n cc) := (Below.cell (p := ⟨w5.heap.size, 2, none⟩) hb9 hlw8).trans d2; have x3 : w9.cell? ⟨rb, ro + i, none⟩ = some (.int .i64 x) := (Below.cell (p := ⟨rb, ro + i, none⟩) hb9 hrlt).trans r0; have x4 : w9.cell? ⟨lg, k * 3, none⟩ = some (.int .i64 (jf : Int)) := (Below.cell (p := ⟨lg, k * 3, none⟩) hb9 hlg).trans c0'; have x5 : w9.cell? ⟨lg, k * 3 + 1, none⟩ = some (.int .i64 (jt : Int)) := (Below.cell (p := ⟨lg, k * 3 + 1, none⟩) hb9 hlg).trans c1'; have x6 : w9.cell? ⟨lg, k * 3 + 2, none⟩ = some (.int .i64 0) := (Below.cell (p := ⟨lg, k * 3 + 2, none⟩) hb9 hlg).trans c2'; have hbx9 := (Below.block hbX _ (by rw [zc.out]; omega)).trans fcx.out; have bx0 : w9.cell? ⟨w8.heap.size + 1, 0, none⟩ = some (.int .i64 0) := wcell (cs := [_, _, _]) hbx9 0; have bz0 : w9.frozen? ⟨w8.heap.size + 1, 0, none⟩ = false := wfree hbx9 0; have bx1 : w9.cell? ⟨w8.heap.size + 1, 1, none⟩ = some (.int .i64 0) := wcell (cs := [_, _, _]) hbx9 1; have bz1 : w9.frozen? ⟨w8.heap.size + 1, 1, none⟩ = false := wfree hbx9 1; have bx2 : w9.cell? ⟨w8.heap.size + 1, 2, none⟩ = some (.slice none 0 0) := wcell (cs := [_, _, _]) hbx9 2; have bz2 : w9.frozen? ⟨w8.heap.size + 1, 2, none⟩ = false := wfree hbx9 2; have hfb : Hid (∀ x : Addr, p9 = some x → w8.heap.size + 1 < x.block) := (fun x hx => (by have := hf9 x hx; rw [zc.out] at this; omega)); replace hbx9 := Lib.hid hbx9; replace hx9 := Lib.hid hx9; replace hb9 := Lib.hid hb9; replace hf9 := Lib.hid hf9; replace hbX := Lib.hid hbX)
                | (go_at_call 8; (with_reducible refine (D0.out _ _ ?_ ?_).mono ?_); (with_reducible exact ba); (with_reducible exact fa); rintro e w9 ⟨p9, c9, rfl, hx9, hbX, hb9, hf9⟩; have x0 : w9.cell? ⟨w5.heap.size, 0, none⟩ = some (.int .i64 (a : Int)) := (Below.cell (p := ⟨w5.heap.size, 0, none⟩) hb9 hlw8).trans d0; have x1 : w9.cell? ⟨w5.heap.size, 1, none⟩ = some (.int .i64 (b : Int)) := (Below.cell (p := ⟨w5.heap.size, 1, none⟩) hb9 hlw8).trans d1; have x2 : w9.cell? ⟨w5.heap.size, 2, none⟩ = some (.slice p n cc) := (Below.cell (p := ⟨w5.heap.size, 2, none⟩) hb9 hlw8).trans d2; have x3 : w9.cell? ⟨rb, ro + i, none⟩ = some (.int .i64 x) := (Below.cell (p := ⟨rb, ro + i, none⟩) hb9 hrlt).trans r0; have x4 : w9.cell? ⟨lg, k * 3, none⟩ = some (.int .i64 (jf : Int)) := (Below.cell (p := ⟨lg, k * 3, none⟩) hb9 hlg).trans c0'; have x5 : w9.cell? ⟨lg, k * 3 + 1, none⟩ = some (.int .i64 (jt : Int)) := (Below.cell (p := ⟨lg, k * 3 + 1, none⟩) hb9 hlg).trans c1'; have x6 : w9.cell? ⟨lg, k * 3 + 2, none⟩ = some (.int .i64 0) := (Below.cell (p := ⟨lg, k * 3 + 2, none⟩) hb9 hlg).trans c2'; replace hx9 := Lib.hid hx9; replace hb9 := Lib.hid hb9; replace hf9 := Lib.hid hf9; replace hbX := Lib.hid hbX))
              all_goals
                go_wp2_with fail
                go_meet
                first
                | exact ⟨box_new hx9.out hn0 hb9.out (fun x hx => Nat.le_trans (Below.size ba) (hf9.out x hx)), rfl, rfl⟩
                | exact ⟨box_set hx9.out hb9.out hbx9.out (by omega) hfb.out, rfl, rfl⟩
            case rest =>
              obtain ⟨⟨b13, p13, c13, rfl, e13, hx13, hf13, hb13, hbw13⟩, rfl, rfl⟩ := hcut
              obtain ⟨W9, rfl⟩ : ∃ W9 : World, W9 = wc := ⟨_, rfl⟩
              have hL9 : Hid (Ls w W9 a b n c q w3.heap.size y1 y2 y3 y4) := hL8.out.bw hbw13
              have hn9 : Hid (W9.heap[w5.heap.size]? = some (.cells #[.int .i64 (a : Int), .int .i64 (b : Int), .slice p n cc] 24 (0, 0))) := (Below.block hbw13 _ hlw8).trans hn8.out
              have hf5 : Hid (∀ x : Addr, p13 = some x → x.block ≠ w5.heap.size) := fun x hx => by have := (hf13 x hx).1; omega
              have hx13' : Hid (∀ X : World, Bw W9 X → IntsIn X p13 n (asI u)) := fun X hX => hx13.below hX
              have hlt13 := lt_of_heap e13
              have HC := Lib.hid (HCl.out W9 p13 c13 u hx13 hD2.out hDc.out)
              clear d0 d1 d2 r0 c0' c1' c2' fa fb fc fbx fcx ba bb bc zb zc g1 g2 g3 g4 g5 g6 P2 D0
              have d0 : W9.cell? ⟨b13, 0, none⟩ = some (.int .i64 (a : Int)) := wcell (cs := [_, _, _]) e13 0
              have d1 : W9.cell? ⟨b13, 1, none⟩ = some (.int .i64 (b : Int)) := wcell (cs := [_, _, _]) e13 1
              have d2 : W9.cell? ⟨b13, 2, none⟩ = some (.slice p13 n c13) := wcell (cs := [_, _, _]) e13 2
              replace e13 := Lib.hid e13; replace hx13 := Lib.hid hx13; replace hf13 := Lib.hid hf13; replace hbw13 := Lib.hid hbw13
              go_upto_region 18 with (go_at_call 10; (with_reducible refine HC.out.mono ?_); rintro e w10 ⟨rfl, hb10⟩; replace hb10 := Lib.hid hb10)
              have hb11 : Hid (Bw W9 (w10.alloc (.cells #[.int .i64 (y1 : Int), .int .i64 (y2 : Int), .int .i64 (y3 : Int), .int .i64 (y4 : Int)] 38))) := hb10.out.trans ((Bw.refl w10).alloc _)
              have e16 := heap_alloc_new w10 (.cells #[.int .i64 (y1 : Int), .int .i64 (y2 : Int), .int .i64 (y3 : Int), .int .i64 (y4 : Int)] 38)
              clear d0 d1 d2 HC
              generalize hW11 : w10.alloc (.cells #[.int .i64 (y1 : Int), .int .i64 (y2 : Int), .int .i64 (y3 : Int), .int .i64 (y4 : Int)] 38) = W11 at *
              clear hW11
              have hL11 : Hid (Ls w W11 a b n c q w3.heap.size y1 y2 y3 y4) := hL9.out.bw hb11.out
              have e13' := (Below.block hb11.out _ hlt13).trans e13.out
              have HK := HCt.out W11 p13 c13 u (hx13'.out W11 hb11.out)
              obtain ⟨cu, hcu⟩ : ∃ cu, cu = cnt1 u := ⟨_, rfl⟩
              obtain ⟨cv, hcv⟩ : ∃ cv, cv = cnt1 t := ⟨_, rfl⟩
              rw [← hcu] at HK
              have hcuv : cu + 1 = cv := by rw [hcu, hcv]; exact hDn.out
              have hcvn : cv ≤ 100 := by rw [hcv]; exact Nat.le_trans List.countP_le_length (by rw [htl.out]; exact hn100)
              rw [← hcv]
              replace HK := Lib.hid HK; replace hcu := Lib.hid hcu; replace hcv := Lib.hid hcv
              have hq1 : IntKind.i64.wrap ((cv : Int) - 1) = (cu : Int) := by rw [IntWalk.i64_in _ (by omega)]; omega
              have hq2 : (cv : Int) - 1 = (cu : Int) := by omega
              have d0 : W11.cell? ⟨b13, 0, none⟩ = some (.int .i64 (a : Int)) := wcell (cs := [_, _, _]) e13' 0
              have d1 : W11.cell? ⟨b13, 1, none⟩ = some (.int .i64 (b : Int)) := wcell (cs := [_, _, _]) e13' 1
              have d2 : W11.cell? ⟨b13, 2, none⟩ = some (.slice p13 n c13) := wcell (cs := [_, _, _]) e13' 2
              have k0 : W11.cell? ⟨w10.heap.size, 0, none⟩ = some (.int .i64 (y1 : Int)) := wcell (cs := [_, _, _, _]) e16 0
              have k1 : W11.cell? ⟨w10.heap.size, 1, none⟩ = some (.int .i64 (y2 : Int)) := wcell (cs := [_, _, _, _]) e16 1
              have k2 : W11.cell? ⟨w10.heap.size, 2, none⟩ = some (.int .i64 (y3 : Int)) := wcell (cs := [_, _, _, _]) e16 2
              have k3 : W11.cell? ⟨w10.heap.size, 3, none⟩ = some (.int .i64 (y4 : Int)) := wcell (cs := [_, _, _, _]) e16 3
              have l0 : W11.cell? ⟨w3.heap.size, 0, none⟩ = some (.int .i64 (y1 : Int)) := wcell (cs := [_, _, _, _]) hL11.out.y 0
              have l1 : W11.cell? ⟨w3.heap.size, 1, none⟩ = some (.int .i64 (y2 : Int)) := wcell (cs := [_, _, _, _]) hL11.out.y 1
              have l2 : W11.cell? ⟨w3.heap.size, 2, none⟩ = some (.int .i64 (y3 : Int)) := wcell (cs := [_, _, _, _]) hL11.out.y 2
              have l3 : W11.cell? ⟨w3.heap.size, 3, none⟩ = some (.int .i64 (y4 : Int)) := wcell (cs := [_, _, _, _]) hL11.out.y 3
              have hn11 : Hid (W11.heap[w5.heap.size]? = some (.cells #[.int .i64 (a : Int), .int .i64 (b : Int), .slice p n cc] 24 (0, 0))) := (Below.block hb11.out _ (lt_of_heap hn9.out)).trans hn9.out
              replace e13' := Lib.hid e13'; replace e16 := Lib.hid e16
              go_upto_region 20 with (go_at_call 9; (with_reducible refine HK.out.mono ?_); rintro e w12 ⟨rfl, hb12⟩; replace hb12 := Lib.hid hb12)
              have hL12 : Hid (Ls w w12 a b n c q w3.heap.size y1 y2 y3 y4) := hL11.out.bw hb12.out
              have e13'' := (Below.block hb12.out _ (lt_of_heap e13'.out)).trans e13'.out
              have hn12 := (Below.block hb12.out _ (lt_of_heap hn11.out)).trans hn11.out
              have hx12 : Hid (IntsIn w12 p13 n (asI u)) := hx13'.out w12 (hb11.out.trans hb12.out)
              clear d0 d1 d2 k0 k1 k2 k3 l0 l1 l2 l3
              have d0 : w12.cell? ⟨b13, 0, none⟩ = some (.int .i64 (a : Int)) := wcell (cs := [_, _, _]) e13'' 0
              have d1 : w12.cell? ⟨b13, 1, none⟩ = some (.int .i64 (b : Int)) := wcell (cs := [_, _, _]) e13'' 1
              have d2 : w12.cell? ⟨b13, 2, none⟩ = some (.slice p13 n c13) := wcell (cs := [_, _, _]) e13'' 2
              have k0 : w12.cell? ⟨w5.heap.size, 0, none⟩ = some (.int .i64 (a : Int)) := wcell (cs := [_, _, _]) hn12 0
              have k1 : w12.cell? ⟨w5.heap.size, 1, none⟩ = some (.int .i64 (b : Int)) := wcell (cs := [_, _, _]) hn12 1
              have k2 : w12.cell? ⟨w5.heap.size, 2, none⟩ = some (.slice p n cc) := wcell (cs := [_, _, _]) hn12 2
              have l0 : w12.frozen? ⟨w5.heap.size, 0, none⟩ = false := wfree hn12 0
              have l1 : w12.frozen? ⟨w5.heap.size, 1, none⟩ = false := wfree hn12 1
              have l2 : w12.frozen? ⟨w5.heap.size, 2, none⟩ = false := wfree hn12 2
              have hbd : (BoxSet (((w12.setCell ⟨w5.heap.size, 0, none⟩ (.int .i64 (a : Int))).setCell ⟨w5.heap.size, 1, none⟩ (.int .i64 (b : Int))).setCell ⟨w5.heap.size, 2, none⟩ (.slice p13 n c13)) w5.heap.size a b n p13 c13 u) := boxset hn12 hx12.out hf5.out
              have hLs : Hid (Ls w (((w12.setCell ⟨w5.heap.size, 0, none⟩ (.int .i64 (a : Int))).setCell ⟨w5.heap.size, 1, none⟩ (.int .i64 (b : Int))).setCell ⟨w5.heap.size, 2, none⟩ (.slice p13 n c13)) a b n c q w3.heap.size y1 y2 y3 y4) :=
                ((hL12.out.set ⟨w5.heap.size, 0, none⟩ _ (by simp only; omega) (by simp only; omega)).set ⟨w5.heap.size, 1, none⟩ _ (by simp only; omega) (by simp only; omega)).set ⟨w5.heap.size, 2, none⟩ _ (by simp only; omega) (by simp only; omega)
              replace e13'' := Lib.hid e13''; replace hn12 := Lib.hid hn12; replace hbd := Lib.hid hbd
              have hmv : Hid ((Value.int .i64 (cu : Int)) = .int .i64 ((cnt1 u : Nat) : Int)) := by show _ = _; rw [hcu.out]
              go_wp2_with fail
              have hgk := hgk.out
              go_roundg (8 - (i + 1))
              case measure => omega
              case rel => exact ⟨i + 1, u, p13, c13, by omega, rfl, by rw [← hmv.out], by go_num, hbd.out.1, hbd.out.2, hf5.out, hD2.out, hDc.out, hLs.out⟩
        · have q1 : (i : Int) < (nr : Int) := by omega
          have q2 : ¬ (i : Int) < 8 := by omega
          replace hL := Lib.hid hL; replace hnb := Lib.hid hnb; replace hxt := Lib.hid hxt; replace hpn := Lib.hid hpn; replace ht2 := Lib.hid ht2; replace hcl := Lib.hid hcl
          go_wp2_with fail
          go_meet
          exact hL.out
      · have q1 : ¬ (i : Int) < (nr : Int) := by omega
        replace hL := Lib.hid hL; replace hnb := Lib.hid hnb; replace hxt := Lib.hid hxt; replace hpn := Lib.hid hpn; replace ht2 := Lib.hid ht2; replace hcl := Lib.hid hcl
        go_wp2_with fail
        go_meet
        exact hL.out
  case rest =>
    obtain ⟨W7, rfl⟩ : ∃ W7 : World, W7 = wc := ⟨_, rfl⟩
    replace hcut := Lib.hid hcut
    clear hL7 n7
    go_wp2_with fail
    go_loopg [18, 19] n (fun gk sv iv W' => ∃ (i : Nat) (bs : Bool), i ≤ n ∧ gk = n - i ∧ sv = .bool bs ∧ iv = .int .i64 i ∧ (bs = false → ∀ k, k < i → st s k ≠ 2 → clsS a (oneS s k) ≠ clsS a s) ∧ Ls w W' a b n c q w3.heap.size y1 y2 y3 y4)
    case atStart => exact ⟨0, false, Nat.zero_le _, rfl, rfl, rfl, fun _ k h => absurd h (by omega), hcut.out⟩
    case round =>
      obtain ⟨i, bs, hin, hgk, rfl, rfl, hno, hL⟩ := hrel
      obtain ⟨W2, rfl⟩ : ∃ W2 : World, W2 = wr := ⟨_, rfl⟩
      replace hgk := Lib.hid hgk
      clear hcut
      have hltw := lt_of_heap hL.g
      have d0 : W2.cell? ⟨w.heap.size, 0, none⟩ = some (.int .i64 (a : Int)) := wcell (cs := [_, _, _]) hL.g 0
      have d1 : W2.cell? ⟨w.heap.size, 1, none⟩ = some (.int .i64 (b : Int)) := wcell (cs := [_, _, _]) hL.g 1
      have d2 : W2.cell? ⟨w.heap.size, 2, none⟩ = some (.slice q n c) := wcell (cs := [_, _, _]) hL.g 2
      by_cases hlt : i < n
      · have hxs := HX.out W2 hL.low
        obtain ⟨bq, oq, rfl, hqlt, hcq⟩ := hxs.at hn0
        have k0 := hcq i hlt
        rw [asI_at] at k0
        clear hcq
        have f1 : (0 : Int) ≤ (i : Int) := by omega
        have f2 : (i : Int) < (n : Int) := by omega
        by_cases hwall : st s i = 2
        · rw [hwall] at k0
          have hno' : Hid (bs = false → ∀ k, k < i + 1 → st s k ≠ 2 → clsS a (oneS s k) ≠ clsS a s) := fun h k hk h2 => by
            by_cases e : k = i
            · subst e; exact absurd hwall h2
            · exact hno h k (by omega) h2
          replace hL := Lib.hid hL; replace hno := Lib.hid hno; replace hxs := Lib.hid hxs; replace hwall := Lib.hid hwall
          go_wp2_with fail
          have hgk := hgk.out
          go_roundg (n - (i + 1))
          case measure => omega
          case rel => exact ⟨i + 1, bs, hlt, rfl, rfl, by go_num, hno'.out, hL.out⟩
        · have hwb : (((st s i : Nat) : Int) == 2) = false := by simp; omega
          have I0 : Hid (∀ X : World, Bw W2 X → Calls Try.prog 14 #[.slice (some ⟨bq, oq, none⟩) n c] X fun e w' => ∃ p' c', e = .returned (.slice p' n c') ∧ Own 3 X.heap.size w' p' n c' (asI s) ∧ Bw X w' ∧ Bw W2 w') := fun X hX =>
            (ints_any (some ⟨bq, oq, none⟩) n c (asI s) X (by omega) hn0 (hxs.below hX)).mono fun e w' ⟨p', c', h1, h2, h3⟩ => ⟨p', c', h1, h2, h3, hX.trans h3⟩
          have ba : Bw W2 W2.drew := (Bw.refl W2).drew
          have bb : Bw W2 ((W2.alloc (.cells #[.int .i64 0, .int .i64 0, .slice none 0 0] 24)).drew) := ((Bw.refl W2).alloc _).drew
          have fbx : Hid (((W2.alloc (.cells #[.int .i64 0, .int .i64 0, .slice none 0 0] 24)).drew).heap[W2.heap.size]? = some (.cells #[.int .i64 0, .int .i64 0, .slice none 0 0] 24 (0, 0))) := heap_alloc_new W2 _
          have zb : Hid (((W2.alloc (.cells #[.int .i64 0, .int .i64 0, .slice none 0 0] 24)).drew).heap.size = W2.heap.size + 1) := by show (W2.alloc (.cells #[.int .i64 0, .int .i64 0, .slice none 0 0] 24)).heap.size = _; simp
          have g1 : w.heap.size ≠ W2.heap.size := by omega
          replace hxs := Lib.hid hxs; replace hno := Lib.hid hno; replace hwall := Lib.hid hwall; replace hL := Lib.hid hL
          go_upto_region 27 with fail
          clear k0
          go_cut [20] (fun v X => BoxO W2 a b n s v X)
          case first =>
            go_region_held3 (fun X => X.cell? ⟨w.heap.size, 0, none⟩ = some (.int .i64 (a : Int)) ∧ X.cell? ⟨w.heap.size, 1, none⟩ = some (.int .i64 (b : Int)) ∧ X.cell? ⟨w.heap.size, 2, none⟩ = some (.slice (some ⟨bq, oq, none⟩) n c)) (first | with_reducible exact ⟨d0, d1, d2⟩ | with_reducible exact ⟨x0, x1, x2⟩ | with_reducible exact ⟨(cell3_ne _ g1 _ _ _).trans x0, (cell3_ne _ g1 _ _ _).trans x1, (cell3_ne _ g1 _ _ _).trans x2⟩ | go_keep)
              (first
              | (go_at_call 14; (with_reducible refine (I0.out _ ?_).mono ?_); (with_reducible exact bb); rintro e w9 ⟨p9, c9, rfl, hO9, hbX, hb9⟩; have x0 : w9.cell? ⟨w.heap.size, 0, none⟩ = some (.int .i64 (a : Int)) := (Below.cell (p := ⟨w.heap.size, 0, none⟩) hb9 hltw).trans d0; have x1 : w9.cell? ⟨w.heap.size, 1, none⟩ = some (.int .i64 (b : Int)) := (Below.cell (p := ⟨w.heap.size, 1, none⟩) hb9 hltw).trans d1; have x2 : w9.cell? ⟨w.heap.size, 2, none⟩ = some (.slice (some ⟨bq, oq, none⟩) n c) := (Below.cell (p := ⟨w.heap.size, 2, none⟩) hb9 hltw).trans d2; have hbx9 := (Below.block hbX W2.heap.size (by rw [zb.out]; omega)).trans fbx.out; have bx0 : w9.cell? ⟨W2.heap.size, 0, none⟩ = some (.int .i64 0) := wcell (cs := [_, _, _]) hbx9 0; have bx1 : w9.cell? ⟨W2.heap.size, 1, none⟩ = some (.int .i64 0) := wcell (cs := [_, _, _]) hbx9 1; have bx2 : w9.cell? ⟨W2.heap.size, 2, none⟩ = some (.slice none 0 0) := wcell (cs := [_, _, _]) hbx9 2; have bz0 : w9.frozen? ⟨W2.heap.size, 0, none⟩ = false := wfree hbx9 0; have bz1 : w9.frozen? ⟨W2.heap.size, 1, none⟩ = false := wfree hbx9 1; have bz2 : w9.frozen? ⟨W2.heap.size, 2, none⟩ = false := wfree hbx9 2; have hO9' := Lib.hid (OwnC.mono (k := 1) hO9 (show W2.heap.size + 1 ≤ _ by rw [zb.out]; exact Nat.le_refl _)); replace hO9 := Lib.hid hO9; replace hbX := Lib.hid hbX; replace hb9 := Lib.hid hb9; replace hbx9 := Lib.hid hbx9)
              | (go_at_call 14; (with_reducible refine (I0.out _ ?_).mono ?_); (with_reducible exact ba); rintro e w9 ⟨p9, c9, rfl, hO9, hbX, hb9⟩; have x0 : w9.cell? ⟨w.heap.size, 0, none⟩ = some (.int .i64 (a : Int)) := (Below.cell (p := ⟨w.heap.size, 0, none⟩) hb9 hltw).trans d0; have x1 : w9.cell? ⟨w.heap.size, 1, none⟩ = some (.int .i64 (b : Int)) := (Below.cell (p := ⟨w.heap.size, 1, none⟩) hb9 hltw).trans d1; have x2 : w9.cell? ⟨w.heap.size, 2, none⟩ = some (.slice (some ⟨bq, oq, none⟩) n c) := (Below.cell (p := ⟨w.heap.size, 2, none⟩) hb9 hltw).trans d2; replace hO9 := Lib.hid hO9; replace hbX := Lib.hid hbX; replace hb9 := Lib.hid hb9))
            all_goals
              go_wp2_with fail
              go_meet
              first
              | exact boxO_new hO9.out hb9.out (Nat.le_refl _)
              | exact boxO_set hO9'.out hb9.out hbx9.out
          case rest =>
            obtain ⟨b20, p20, c20, rfl, e20, hO20, hf20, hB20, hbw20⟩ := hcut
            obtain ⟨W9, rfl⟩ : ∃ W9 : World, W9 = wc := ⟨_, rfl⟩
            obtain ⟨g20, rfl, hgB20, hgl20, _⟩ := OwnC.where (k := 1) hO20 hn0
            have hgne : g20 ≠ b20 := hf20 _ rfl
            have hO20' : Hid (Own 3 W2.heap.size W9 (some ⟨g20, 0, none⟩) n c20 (asI s)) := hO20
            have hq0 : Hid (∀ j, st s j = if j < 0 then (if st s j = 1 then 0 else st s j) else st s j) := fun j => by rw [if_neg (by omega)]
            have hw9 : Hid (Bw W2 W9) := hbw20
            replace e20 := Lib.hid e20; replace hbw20 := Lib.hid hbw20; replace hO20 := Lib.hid hO20; replace hf20 := Lib.hid hf20
            clear d0 d1 d2 fbx zb ba bb I0 g1
            go_wp2_with fail
            go_loopg [21] n (fun gk kv W' => ∃ (k : Nat) (u : List Nat), k ≤ n ∧ gk = n - k ∧ kv = .int .i64 k ∧ u.length = n ∧ (∀ j, st u j = if j < k then (if st s j = 1 then 0 else st s j) else st s j) ∧ Own 3 W2.heap.size W' (some ⟨g20, 0, none⟩) n c20 (asI u) ∧ W'.heap[b20]? = some (.cells #[.int .i64 (a : Int), .int .i64 (b : Int), .slice (some ⟨g20, 0, none⟩) n c20] 24 (0, 0)) ∧ Bw W2 W')
            case atStart => exact ⟨0, s, Nat.zero_le _, rfl, rfl, hsl, hq0.out, hO20'.out, e20.out, hw9.out⟩
            case round =>
              obtain ⟨k, u, hkn, hgk2, rfl, hul, hu, hO, hbx, hbw⟩ := hrel
              obtain ⟨V, rfl⟩ : ∃ V : World, V = wr := ⟨_, rfl⟩
              replace hgk2 := Lib.hid hgk2
              clear hO20' e20 hw9
              have x2 : V.cell? ⟨b20, 2, none⟩ = some (.slice (some ⟨g20, 0, none⟩) n c20) := wcell (cs := [_, _, _]) hbx 2
              by_cases hkl : k < n
              · have kk := Own.cell hO hkl
                rw [asI_at] at kk
                replace kk : V.cell? ⟨g20, k, none⟩ = some (.int .i64 ((st u k : Nat) : Int)) := kk
                have kf : V.frozen? ⟨g20, k, none⟩ = false := Own.free hO k
                have huk : st u k = st s k := by rw [hu, if_neg (by omega)]
                have f3 : (0 : Int) ≤ (k : Int) := by omega
                have f4 : (k : Int) < (n : Int) := by omega
                by_cases hpg : st s k = 1
                · rw [huk, hpg] at kk
                  have hs' := Own.set hO k 0
                  have hs'' : Hid (Own 3 W2.heap.size (V.setCell ⟨g20, k, none⟩ (.int .i64 0)) (some ⟨g20, 0, none⟩) n c20 (asI (u.set k 0))) := by show Own _ _ _ _ _ _ _; rw [asI_set2]; exact hs'
                  have hu' : Hid (∀ j, st (u.set k 0) j = if j < k + 1 then (if st s j = 1 then 0 else st s j) else st s j) := fun j => by
                    rw [st_set _ _ _ _ (by omega), hu]
                    by_cases e : j = k
                    · subst e; rw [if_pos rfl, if_pos (by omega), if_pos hpg]
                    · rw [if_neg e]
                      by_cases h1 : j < k
                      · have h2 : j < k + 1 := by omega
                        simp only [if_pos h1, if_pos h2]
                      · have h2 : ¬ j < k + 1 := by omega
                        simp only [if_neg h1, if_neg h2]
                  have hbx' : Hid ((V.setCell ⟨g20, k, none⟩ (.int .i64 0)).heap[b20]? = some (.cells #[.int .i64 (a : Int), .int .i64 (b : Int), .slice (some ⟨g20, 0, none⟩) n c20] 24 (0, 0))) := (Below.heap_setCell V ⟨g20, k, none⟩ _ _ (fun e => hgne e.symm)).trans hbx
                  have hbw' : Hid (Bw W2 (V.setCell ⟨g20, k, none⟩ (.int .i64 0))) := Below.setCell hbw (p := ⟨g20, k, none⟩) hgB20 _
                  have hul' : (u.set k 0).length = n := by simpa using hul
                  replace hO := Lib.hid hO; replace hbx := Lib.hid hbx; replace hbw := Lib.hid hbw; replace hu := Lib.hid hu; replace hs' := Lib.hid hs'; replace huk := Lib.hid huk; replace hpg := Lib.hid hpg
                  go_wp2_with fail
                  have hgk2 := hgk2.out
                  go_roundg (n - (k + 1))
                  case measure => omega
                  case rel => exact ⟨k + 1, u.set k 0, hkl, rfl, by go_num, hul', hu'.out, hs''.out, hbx'.out, hbw'.out⟩
                · have hpb : (((st u k : Nat) : Int) == 1) = false := by rw [huk]; simp; omega
                  have hu' : Hid (∀ j, st u j = if j < k + 1 then (if st s j = 1 then 0 else st s j) else st s j) := fun j => by
                    rw [hu]
                    by_cases e : j = k
                    · subst e; rw [if_neg (by omega), if_pos (by omega), if_neg hpg]
                    · by_cases h1 : j < k
                      · have h2 : j < k + 1 := by omega
                        simp only [if_pos h1, if_pos h2]
                      · have h2 : ¬ j < k + 1 := by omega
                        simp only [if_neg h1, if_neg h2]
                  replace hO := Lib.hid hO; replace hbx := Lib.hid hbx; replace hbw := Lib.hid hbw; replace hu := Lib.hid hu; replace huk := Lib.hid huk; replace hpg := Lib.hid hpg
                  go_wp2_with fail
                  have hgk2 := hgk2.out
                  go_roundg (n - (k + 1))
                  case measure => omega
                  case rel => exact ⟨k + 1, u, hkl, rfl, by go_num, hul, hu'.out, hO.out, hbx.out, hbw.out⟩
              · have hke : k = n := by omega
                subst hke
                have hkk : ¬ (k : Int) < (k : Int) := by omega
                have huo : u = offS s := by
                  refine st_ext (by rw [offS_len, hul, hsl]) fun j hj => ?_
                  rw [hu, offS_at, if_pos (by omega)]
                have hso : u.set i 1 = oneS s i := by rw [huo]; rfl
                have kk := Own.cell hO hlt
                rw [asI_at] at kk
                replace kk : V.cell? ⟨g20, i, none⟩ = some (.int .i64 ((st u i : Nat) : Int)) := kk
                have kf : V.frozen? ⟨g20, i, none⟩ = false := Own.free hO i
                have hOi := Own.set hO i 1
                rw [show (asI u).set i (1 : Int) = asI (u.set i 1) from (asI_set2 u i 1).symm, hso] at hOi
                have hbi : (V.setCell ⟨g20, i, none⟩ (.int .i64 1)).heap[b20]? = some (.cells #[.int .i64 (a : Int), .int .i64 (b : Int), .slice (some ⟨g20, 0, none⟩) k c20] 24 (0, 0)) := (Below.heap_setCell V ⟨g20, i, none⟩ _ _ (fun e => hgne e.symm)).trans hbx
                have hwi : Hid (Bw W2 (V.setCell ⟨g20, i, none⟩ (.int .i64 1))) := Below.setCell hbw (p := ⟨g20, i, none⟩) hgB20 _
                have hone2 : ∀ j, st (oneS s i) j ≤ 2 := fun j => by
                  rw [oneS_at (by rw [hsl]; exact hlt)]
                  have := hs2 j
                  split <;> (try split) <;> omega
                replace hO := Lib.hid hO; replace hbx := Lib.hid hbx; replace hbw := Lib.hid hbw; replace hu := Lib.hid hu; replace huo := Lib.hid huo; replace hso := Lib.hid hso; replace hOi := Lib.hid hOi; replace hbi := Lib.hid hbi; replace hone2 := Lib.hid hone2
                go_upto_region 34 with fail
                clear x2 kk kf
                have hLi : Hid (Ls w (V.setCell ⟨g20, i, none⟩ (.int .i64 1)) a b k c (some ⟨bq, oq, none⟩) w3.heap.size y1 y2 y3 y4) := hL.out.bw hwi.out
                generalize hX1 : V.setCell ⟨g20, i, none⟩ (.int .i64 1) = X1 at *
                clear hX1
                have HZ := cls_yes a b k c20 (some ⟨g20, 0, none⟩) (oneS s i) X1 ha1 ha hbp hb hn.out hOi.out.in hone2.out
                obtain ⟨z1, hz1⟩ : ∃ z, z = kC1 a (oneS s i) (oneS s i).length := ⟨_, rfl⟩
                obtain ⟨z2, hz2⟩ : ∃ z, z = kC2 a (oneS s i) (oneS s i).length := ⟨_, rfl⟩
                obtain ⟨z3, hz3⟩ : ∃ z, z = kC3 a (oneS s i) (oneS s i).length := ⟨_, rfl⟩
                obtain ⟨z4, hz4⟩ : ∃ z, z = kC4 a (oneS s i) (oneS s i).length := ⟨_, rfl⟩
                have hZ : clsV a (oneS s i) = .agg #[.int .i64 (z1 : Int), .int .i64 (z2 : Int), .int .i64 (z3 : Int), .int .i64 (z4 : Int)] := by rw [hz1, hz2, hz3, hz4]; rfl
                have heqZ : ∀ X : World, (Op.equalIn 10000 38 (.agg #[.int .i64 (z1 : Int), .int .i64 (z2 : Int), .int .i64 (z3 : Int), .int .i64 (z4 : Int)]) (.agg #[.int .i64 (y1 : Int), .int .i64 (y2 : Int), .int .i64 (y3 : Int), .int .i64 (y4 : Int)])).run Try.prog X = .ok (decide (clsS a (oneS s i) = clsS a s)) X := fun X => by rw [← hZ, ← hY.out]; exact eqCls a (oneS s i) s X
                rw [hZ] at HZ
                obtain ⟨be, hbe⟩ : ∃ be, be = decide (clsS a (oneS s i) = clsS a s) := ⟨_, rfl⟩
                rw [← hbe] at heqZ
                replace HZ := Lib.hid HZ; replace hZ := Lib.hid hZ; replace hz1 := Lib.hid hz1; replace hz2 := Lib.hid hz2; replace hz3 := Lib.hid hz3; replace hz4 := Lib.hid hz4; replace hbe := Lib.hid hbe
                have x0 : X1.cell? ⟨b20, 0, none⟩ = some (.int .i64 (a : Int)) := wcell (cs := [_, _, _]) hbi.out 0
                have x1 : X1.cell? ⟨b20, 1, none⟩ = some (.int .i64 (b : Int)) := wcell (cs := [_, _, _]) hbi.out 1
                have x2 : X1.cell? ⟨b20, 2, none⟩ = some (.slice (some ⟨g20, 0, none⟩) k c20) := wcell (cs := [_, _, _]) hbi.out 2
                go_upto_region 35 with (go_at_call 10; (with_reducible refine HZ.out.mono ?_); rintro e w10 ⟨rfl, hb10⟩; replace hb10 := Lib.hid hb10)
                have hb11 : Hid (Bw X1 (w10.alloc (.cells #[.int .i64 (z1 : Int), .int .i64 (z2 : Int), .int .i64 (z3 : Int), .int .i64 (z4 : Int)] 38))) := hb10.out.trans ((Bw.refl w10).alloc _)
                have e16 := heap_alloc_new w10 (.cells #[.int .i64 (z1 : Int), .int .i64 (z2 : Int), .int .i64 (z3 : Int), .int .i64 (z4 : Int)] 38)
                clear x0 x1 x2
                generalize hW11 : w10.alloc (.cells #[.int .i64 (z1 : Int), .int .i64 (z2 : Int), .int .i64 (z3 : Int), .int .i64 (z4 : Int)] 38) = W11 at *
                clear hW11
                have hL11 : Hid (Ls w W11 a b k c (some ⟨bq, oq, none⟩) w3.heap.size y1 y2 y3 y4) := hLi.out.bw hb11.out
                have k0 : W11.cell? ⟨w10.heap.size, 0, none⟩ = some (.int .i64 (z1 : Int)) := wcell (cs := [_, _, _, _]) e16 0
                have k1 : W11.cell? ⟨w10.heap.size, 1, none⟩ = some (.int .i64 (z2 : Int)) := wcell (cs := [_, _, _, _]) e16 1
                have k2 : W11.cell? ⟨w10.heap.size, 2, none⟩ = some (.int .i64 (z3 : Int)) := wcell (cs := [_, _, _, _]) e16 2
                have k3 : W11.cell? ⟨w10.heap.size, 3, none⟩ = some (.int .i64 (z4 : Int)) := wcell (cs := [_, _, _, _]) e16 3
                have l0 : W11.cell? ⟨w3.heap.size, 0, none⟩ = some (.int .i64 (y1 : Int)) := wcell (cs := [_, _, _, _]) hL11.out.y 0
                have l1 : W11.cell? ⟨w3.heap.size, 1, none⟩ = some (.int .i64 (y2 : Int)) := wcell (cs := [_, _, _, _]) hL11.out.y 1
                have l2 : W11.cell? ⟨w3.heap.size, 2, none⟩ = some (.int .i64 (y3 : Int)) := wcell (cs := [_, _, _, _]) hL11.out.y 2
                have l3 : W11.cell? ⟨w3.heap.size, 3, none⟩ = some (.int .i64 (y4 : Int)) := wcell (cs := [_, _, _, _]) hL11.out.y 3
                replace e16 := Lib.hid e16
                have hno' : Hid (∀ bs' : Bool, bs' = (bs || be) → bs' = false → ∀ l, l < i + 1 → st s l ≠ 2 → clsS a (oneS s l) ≠ clsS a s) := fun bs' h1 h2 l hl h3 => by
                  rw [h2] at h1
                  have h4 := h1.symm
                  rw [Bool.or_eq_false_iff] at h4
                  by_cases e : l = i
                  · subst e
                    have := hbe.out
                    rw [h4.2] at this
                    exact of_decide_eq_false this.symm
                  · exact hno.out h4.1 l (by omega) h3
                cases bs with
                | true =>
                  go_wp2_with fail
                  have hgk := hgk.out
                  go_roundg (k - (i + 1))
                  case measure => omega
                  case rel => exact ⟨i + 1, true, hlt, rfl, rfl, by go_num, hno'.out true rfl, hL11.out⟩
                | false =>
                  cases be with
                  | true =>
                    go_wp2_with fail
                    have hgk := hgk.out
                    go_roundg (k - (i + 1))
                    case measure => omega
                    case rel => exact ⟨i + 1, true, hlt, rfl, rfl, by go_num, hno'.out true rfl, hL11.out⟩
                  | false =>
                    go_wp2_with fail
                    have hgk := hgk.out
                    go_roundg (k - (i + 1))
                    case measure => omega
                    case rel => exact ⟨i + 1, false, hlt, rfl, rfl, by go_num, hno'.out false rfl, hL11.out⟩
      · have hii : ¬ (i : Int) < (n : Int) := by omega
        have hxs := HX.out W2 hL.low
        have hall : Hid (bs = false → ∀ k, k < n → st s k ≠ 2 → clsS a (oneS s k) ≠ clsS a s) := fun h k hk h2 => hno h k (by omega) h2
        have hlow : Hid (Below w.heap.size w W2) := hL.low
        have hwf : ∀ j ∈ allJ a b s n, inJ a b s j := fun j hj => by rw [hn.out] at hj; exact (mem_allJ ha1).1 hj
        have hJ1 : ∀ j, j ∈ allJ a b s n ↔ inJ a b s j := fun j => by rw [hn.out]; exact mem_allJ ha1
        have hsab : s.length = a * b := by rw [hsl, hn.out]
        by_cases hg : grtS s = true
        · have HS := Lib.hid (sol_great a b n c q s (-1) W2 ha1 ha hbp hb hn.out hxs hs2 (by omega) (by omega) (fun h => by omega) hg)
          replace hL := Lib.hid hL; replace hno := Lib.hid hno; replace hxs := Lib.hid hxs; replace hwf := Lib.hid hwf; replace hJ1 := Lib.hid hJ1; replace hsab := Lib.hid hsab
          cases bs with
          | true =>
            go_wp2_with (go_at_call 6; (with_reducible refine HS.out.mono ?_); rintro e w9 ⟨rfl, hb9⟩; replace hb9 := Lib.hid hb9)
            go_ret
            exact ⟨rfl, hlow.out.trans (Below.mono hb9.out hlow.out.size)⟩
          | false =>
            go_wp2_with (go_at_call 6; (with_reducible refine HS.out.mono ?_); rintro e w9 ⟨rfl, hb9⟩; replace hb9 := Lib.hid hb9)
            go_ret
            exact ⟨rfl, hlow.out.trans (Below.mono hb9.out hlow.out.size)⟩
        · have hg' : grtS s = false := by simpa using hg
          by_cases hone : mostS (allJ a b s n) s + 1 = cnt1 s
          · have HS := Lib.hid (sol_found a b n c q s W2 ha1 ha hbp hb hn.out hxs hs2 hg' (allJ a b s n) hJ1 hone)
            have hbt : bs = true := by
              cases bs with
              | true => rfl
              | false =>
                exfalso
                have hwf' : ∀ j ∈ allJ a b s n, wfJ s.length j := fun j hj => inJ_wf hsab (hwf j hj)
                obtain ⟨t, hp, ht⟩ := sol_some hwf' ((sol_iff hwf').2 hone)
                obtain ⟨k, hk, hk2, hk3⟩ := solved_class hsab (by omega) hs2 hwf hp.rch ht
                exact hall.out rfl k (by omega) hk2 hk3
            subst hbt
            replace hL := Lib.hid hL; replace hno := Lib.hid hno; replace hxs := Lib.hid hxs; replace hwf := Lib.hid hwf; replace hJ1 := Lib.hid hJ1; replace hsab := Lib.hid hsab; replace hone := Lib.hid hone
            go_wp2_with (go_at_call 6; (with_reducible refine HS.out.mono ?_); rintro e w9 ⟨⟨p9, m9, c9, row9, t9, J9, rfl, _, _, _, _⟩, hb9⟩; replace hb9 := Lib.hid hb9)
            go_ret
            exact ⟨rfl, hlow.out.trans (Below.mono hb9.out hlow.out.size)⟩
          · have HS := Lib.hid (sol_lost a b n c q s W2 ha1 ha hbp hb hn.out hxs hs2 hg' (allJ a b s n) hJ1 hone)
            replace hL := Lib.hid hL; replace hno := Lib.hid hno; replace hxs := Lib.hid hxs; replace hwf := Lib.hid hwf; replace hJ1 := Lib.hid hJ1; replace hsab := Lib.hid hsab; replace hone := Lib.hid hone
            cases bs with
            | true =>
              go_wp2_with (go_at_call 6; (with_reducible refine HS.out.mono ?_); rintro e w9 ⟨rfl, hb9⟩; replace hb9 := Lib.hid hb9)
              go_ret
              exact ⟨rfl, hlow.out.trans (Below.mono hb9.out hlow.out.size)⟩
            | false =>
              go_wp2_with (go_at_call 6; (with_reducible refine HS.out.mono ?_); rintro e w9 ⟨rfl, hb9⟩; replace hb9 := Lib.hid hb9)
              go_ret
              exact ⟨rfl, hlow.out.trans (Below.mono hb9.out hlow.out.size)⟩
theorem class_law (A H : Int) (q : Option Addr) (n c : Nat) (xs : List Int) (pr : Option Addr) (nr cr : Nat) (raw : List Int) (w : World) (hW1 : -9223372036854775808 ≤ A) (hW2 : A ≤ 9223372036854775807) (hH1 : -9223372036854775808 ≤ H) (hH2 : H ≤ 9223372036854775807) (hn : n ≤ 9223372036854775807) (hx : IntsIn w q n xs)
    (hnr : nr ≤ 9223372036854775807) (hr : IntsIn w pr nr raw) (hrb : ∀ j, j < nr → -9223372036854775808 ≤ raw[j]?.getD 0 ∧ raw[j]?.getD 0 ≤ 9223372036854775807) :
    Calls Try.prog 4 #[.agg #[.int .i64 A, .int .i64 H, .slice q n c], .slice pr nr cr] w fun e w' => e = .returned (.bool true) ∧ Below w.heap.size w w' := by
  by_cases hm : mayG A H xs = true
  · obtain ⟨a, b, s, rfl, rfl, rfl, h1, h2, h3, h4, h5, h6⟩ := mayG_yes hm
    have hl : n = a * b := by have := hx.len; rw [asI_len] at this; omega
    exact class_yes a b n c q s pr nr cr raw w h1 h2 h3 h4 hl hx h6 hnr hr hrb
  · exact class_no A H n c q xs pr nr cr w hn hW1 hW2 hH1 hH2 hx (by simpa using hm)
end Go.Proofs.Ytapoimadiiheaaa
