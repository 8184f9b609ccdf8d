/- What slide.Do makes of a board by one move; conditions: a board of 2 or 3 by 2 or 3 places, a direction below 4. -/
import Derived.Test.YtkakggagaplaiaaSlV
namespace Go.Proofs.Ytkakggagaplaiaa
open Go.RowKit

/-- the board behind a move, how many were made, and the error. -/
def mvS (a b : Nat) (l : List Nat) (d : Nat) : List Nat × Nat × Nat := match frm a b (ixN l 0) d with
  | none => (l, 0, 8)
  | some k => (exc l (ixN l 0) k, 1, 0)
theorem do_fin {w W : World} {B tb a b n cq g rb : Nat} {q : Option Addr} {l : List Nat} (hT : Tray B W tb a b n q cq g l) (hB : Below w.heap.size w W) (hr : w.heap.size ≤ rb) (hrB : rb < B) (x y z : Value) :
    IntsIn (((W.setCell ⟨rb, 0, none⟩ x).setCell ⟨rb, 1, none⟩ y).setCell ⟨rb, 2, none⟩ z) q n (asI l) ∧ Below w.heap.size w (((W.setCell ⟨rb, 0, none⟩ x).setCell ⟨rb, 1, none⟩ y).setCell ⟨rb, 2, none⟩ z) := by
  refine ⟨hT.own.in.keep (by simp [World.setCell]) fun b' o' e => ?_, ((hB.setCell (p := ⟨rb, 0, none⟩) hr _).setCell (p := ⟨rb, 1, none⟩) hr _).setCell (p := ⟨rb, 2, none⟩) hr _⟩
  have := (OwnC.block (k := 1) hT.own _ e).1
  have hne : b' ≠ rb := by simp at this; omega
  rw [wset_ne _ _ hne, wset_ne _ _ hne, wset_ne _ _ hne]
set_option maxRecDepth 20000 in
set_option maxHeartbeats 8000000 in
theorem do_any (a b n c d sz : Nat) (p : Option Addr) (l : List Nat) (w : World) (ha : 2 ≤ a) (ha3 : a ≤ 3) (hb : 2 ≤ b) (hb3 : b ≤ 3) (hn : Hid (n = a * b)) (hd : d < 4) (hx : IntsIn w p n (asI l)) (hl : IsOrd n l)
    (hs : w.heap[sz]? = some (.cells #[.int .i64 (d : Int)] 3 (0, 0))) :
    Calls Try.prog 23 #[.agg #[.int .i64 a, .int .i64 b, .slice p n c], .slice (some ⟨sz, 0, none⟩) 1 1] w fun e w' => ∃ p' c', e = .returned (.tuple #[.agg #[.int .i64 a, .int .i64 b, .slice p' n c'], .int .i64 ((mvS a b l d).2.1 : Nat), .int .i64 ((mvS a b l d).2.2 : Nat)]) ∧
      IntsIn w' p' n (asI (mvS a b l d).1) ∧ n ≤ c' ∧ Below w.heap.size w w' ∧ ∀ x, p' = some x → w.heap.size ≤ x.block := by
  have hn9 : n ≤ 9 := by rw [hn.out]; have := Nat.mul_le_mul ha3 hb3; omega
  have hn0 : 0 < n := by rw [hn.out]; exact Nat.mul_pos (by omega) (by omega)
  obtain ⟨M, hM⟩ : ∃ M, M = mvS a b l d := ⟨_, rfl⟩
  rw [← hM]
  obtain ⟨hgl, hg0⟩ := st_ix hl hn0
  obtain ⟨g, hg⟩ : ∃ g, ixN l 0 = g := ⟨_, rfl⟩
  unfold mvS at hM
  rw [hg] at hM hgl hg0
  replace hM := Lib.hid hM
  obtain ⟨f0, f1⟩ := heap2 w (.cells #[.int .i64 (a : Int), .int .i64 (b : Int), .slice p n c] 39) (.cells #[.int .i64 0, .int .i64 0, .slice none 0 0] 39)
  have hB0 := below2 w (.cells #[.int .i64 (a : Int), .int .i64 (b : Int), .slice p n c] 39) (.cells #[.int .i64 0, .int .i64 0, .slice none 0 0] 39)
  have hs0 : ((w.alloc (.cells #[.int .i64 (a : Int), .int .i64 (b : Int), .slice p n c] 39)).alloc (.cells #[.int .i64 0, .int .i64 0, .slice none 0 0] 39)).heap.size = w.heap.size + 2 := by simp
  have hx0 := hx.below hB0
  have hs1 := (Below.block hB0 _ (lt_of_heap hs)).trans hs
  clear hx hs
  go_enter Try.func23, Try.ntmps23
  go_upto_region 1 with fail
  generalize (w.alloc (.cells #[.int .i64 (a : Int), .int .i64 (b : Int), .slice p n c] 39)).alloc (.cells #[.int .i64 0, .int .i64 0, .slice none 0 0] 39) = W0 at *
  have d0 : W0.cell? ⟨w.heap.size, 0, none⟩ = some (.int .i64 (a : Int)) := wcell (cs := [_, _, _]) f0 0
  have d1 : W0.cell? ⟨w.heap.size, 1, none⟩ = some (.int .i64 (b : Int)) := wcell (cs := [_, _, _]) f0 1
  have d2 : W0.cell? ⟨w.heap.size, 2, none⟩ = some (.slice p n c) := wcell (cs := [_, _, _]) f0 2
  have HM := Lib.hid (may_any a b n c p l W0 ha ha3 hb hb3 hn hx0 hl)
  replace f0 := Lib.hid f0; replace f1 := Lib.hid f1; replace hB0 := Lib.hid hB0; replace hx0 := Lib.hid hx0; replace hs1 := Lib.hid hs1; replace hs0 := Lib.hid hs0
  go_wp2_with fail
  refine HM.out.mono ?_
  rintro e w1 ⟨rfl, hB1⟩
  have g0 := (Below.block hB1 _ (lt_of_heap f0.out)).trans f0.out
  have g1 := Lib.hid ((Below.block hB1 _ (lt_of_heap f1.out)).trans f1.out)
  have gs := Lib.hid ((Below.block hB1 _ (lt_of_heap hs1.out)).trans hs1.out)
  have hx1 := hx0.out.below hB1
  have hB2 := Lib.hid (hB0.out.trans (hB1.mono (by rw [hs0.out]; omega)))
  have hz1 : Hid (w.heap.size + 2 ≤ w1.heap.size) := by show _ ≤ _; rw [← hs0.out]; exact hB1.size
  clear d0 d1 d2 HM hB1 hB0 f0 f1 hs1 hx0 hs0
  have d0 : w1.cell? ⟨w.heap.size, 0, none⟩ = some (.int .i64 (a : Int)) := wcell (cs := [_, _, _]) g0 0
  have d1 : w1.cell? ⟨w.heap.size, 1, none⟩ = some (.int .i64 (b : Int)) := wcell (cs := [_, _, _]) g0 1
  have d2 : w1.cell? ⟨w.heap.size, 2, none⟩ = some (.slice p n c) := wcell (cs := [_, _, _]) g0 2
  have HT := Lib.hid (newTray_any a b n c p l w1 hn0 hn9 hx1 hl)
  rw [hg] at HT
  clear hx1 g0
  go_wp2_with fail
  refine HT.out.mono ?_
  rintro e w2 ⟨tb, q, cq, rfl, hT, hB3⟩
  have r1 := Lib.hid ((Below.block hB3 _ (lt_of_heap g1.out)).trans g1.out)
  have s1 := Lib.hid ((Below.block hB3 _ (lt_of_heap gs.out)).trans gs.out)
  have hB4 := Lib.hid (hB2.out.trans (hB3.mono hB2.out.size))
  have hsl := Lib.hid (lt_of_heap gs.out)
  clear d0 d1 d2 HT hB3 hB2 g1 gs
  have c0 : w2.cell? ⟨sz, 0, none⟩ = some (.int .i64 (d : Int)) := wcell (cs := [_]) s1.out 0
  rcases hf : frm a b g d with _ | k
  · have hMe : Hid (M = (l, 0, 8)) := by show _ = _; rw [hM.out, hf]
    have HV := Lib.hid (move_no w1.heap.size tb a b n cq g d q l w2 ha ha3 hb hb3 (by rw [← hn.out]; exact hgl) hd hT hf)
    replace hT := Lib.hid hT
    clear hM hf
    go_wp2_with fail
    go_loopg [18] 1 (fun gk iv W' => gk = 1 ∧ iv = .int .i64 0 ∧ w2 = W')
    case atStart => exact ⟨rfl, rfl, rfl⟩
    case round =>
      obtain ⟨_, rfl, rfl⟩ := hrel
      go_wp2_with fail
      refine HV.out.mono ?_
      rintro e w' ⟨rfl, r, rfl⟩
      have hT3 := Lib.hid (hT.out.drewN r)
      have hB5 := Lib.hid (below_drewN hB4.out r)
      clear c0 HV
      have r2 : (w2.drewN r).heap[w.heap.size + 1]? = some (.cells #[.int .i64 0, .int .i64 0, .slice none 0 0] 39 (0, 0)) := r1.out
      have e0 : (w2.drewN r).cell? ⟨tb, 0, none⟩ = some (.int .i64 (a : Int)) := wcell (cs := [_, _, _, _]) hT3.out.box 0
      have e1 : (w2.drewN r).cell? ⟨tb, 1, none⟩ = some (.int .i64 (b : Int)) := wcell (cs := [_, _, _, _]) hT3.out.box 1
      have e2 : (w2.drewN r).cell? ⟨tb, 2, none⟩ = some (.slice q n cq) := wcell (cs := [_, _, _, _]) hT3.out.box 2
      have k0 : (w2.drewN r).cell? ⟨w.heap.size + 1, 0, none⟩ = some (.int .i64 0) := wcell (cs := [_, _, _]) r2 0
      have k1 : (w2.drewN r).cell? ⟨w.heap.size + 1, 1, none⟩ = some (.int .i64 0) := wcell (cs := [_, _, _]) r2 1
      have k2 : (w2.drewN r).cell? ⟨w.heap.size + 1, 2, none⟩ = some (.slice none 0 0) := wcell (cs := [_, _, _]) r2 2
      have z0 := wfree r2 0
      have z1 := wfree r2 1
      have z2 := wfree r2 2
      have t0 := Lib.hid (wset (wset (wset r2 0 (.int .i64 (a : Int))) 1 (.int .i64 (b : Int))) 2 (.slice q n cq))
      have hfin := Lib.hid (do_fin (rb := w.heap.size + 1) hT3.out hB5.out (by omega) (by have := hz1.out; omega) (.int .i64 (a : Int)) (.int .i64 (b : Int)) (.slice q n cq))
      have hcp := Lib.hid (OwnC.cap (k := 1) hT3.out.own)
      have hqb : Hid (∀ x : Addr, q = some x → w.heap.size ≤ x.block) := fun x hx => Nat.le_trans (by have := hz1.out; omega) (OwnC.block (k := 1) hT3.out.own x hx).1
      clear r2
      generalize w2.drewN r = W3 at *
      go_wp2_with fail
      have u0 := Lib.hid (wcell (cs := [.int .i64 (a : Int), .int .i64 (b : Int), .slice q n cq]) t0.out 0)
      have u1 := Lib.hid (wcell (cs := [.int .i64 (a : Int), .int .i64 (b : Int), .slice q n cq]) t0.out 1)
      have u2 := Lib.hid (wcell (cs := [.int .i64 (a : Int), .int .i64 (b : Int), .slice q n cq]) t0.out 2)
      refine bodyPost_ret (v := .tuple #[.agg #[.int .i64 (a : Int), .int .i64 (b : Int), .slice q n cq], .int .i64 0, .int .i64 8]) (by simp [results, Try.results23, go_sem, u0.out, u1.out, u2.out]) rfl ⟨q, cq, by rw [hMe.out]; rfl, by rw [hMe.out]; exact hfin.out.1, hcp.out, hfin.out.2, hqb.out⟩
  · have hMe : Hid (M = (exc l g k, 1, 0)) := by show _ = _; rw [hM.out, hf]
    have HV := Lib.hid (move_yes w1.heap.size tb a b n cq g d k q l w2 ha ha3 hb hb3 hn.out hd hT hl hg hf)
    clear hM hf hT
    go_wp2_with fail
    go_loopg [18] 1 (fun gk iv W' => (gk = 1 ∧ iv = .int .i64 0 ∧ w2 = W') ∨ (gk = 0 ∧ iv = .int .i64 1 ∧ Tray w1.heap.size W' tb a b n q cq k (exc l g k) ∧ Below w1.heap.size w2 W'))
    case atStart => exact .inl ⟨rfl, rfl, rfl⟩
    case round =>
      rcases hrel with ⟨hgk, rfl, rfl⟩ | ⟨_, rfl, hT2, hB5⟩
      · go_wp2_with fail
        refine HV.out.mono ?_
        rintro e W3 ⟨rfl, hT3, hB5⟩
        replace hT3 := Lib.hid hT3; replace hB5 := Lib.hid hB5
        go_wp2_with fail
        go_roundg 0
        case measure => omega
        case rel => exact .inr ⟨rfl, rfl, hT3.out, hB5.out⟩
      · obtain ⟨W3, rfl⟩ : ∃ W3 : World, W3 = wr := ⟨_, rfl⟩
        have hT3 := Lib.hid hT2
        have hr3 := Lib.hid ((Below.block hB5 (w.heap.size + 1) (by have := hz1.out; omega)).trans r1.out)
        replace hB5 := Lib.hid (hB4.out.trans (hB5.mono (by have := hz1.out; omega)))
        clear c0 HV hT2
        have r2 : W3.heap[w.heap.size + 1]? = some (.cells #[.int .i64 0, .int .i64 0, .slice none 0 0] 39 (0, 0)) := hr3.out
        have e0 : W3.cell? ⟨tb, 0, none⟩ = some (.int .i64 (a : Int)) := wcell (cs := [_, _, _, _]) hT3.out.box 0
        have e1 : W3.cell? ⟨tb, 1, none⟩ = some (.int .i64 (b : Int)) := wcell (cs := [_, _, _, _]) hT3.out.box 1
        have e2 : W3.cell? ⟨tb, 2, none⟩ = some (.slice q n cq) := wcell (cs := [_, _, _, _]) hT3.out.box 2
        have k0 : W3.cell? ⟨w.heap.size + 1, 0, none⟩ = some (.int .i64 0) := wcell (cs := [_, _, _]) r2 0
        have k1 : W3.cell? ⟨w.heap.size + 1, 1, none⟩ = some (.int .i64 0) := wcell (cs := [_, _, _]) r2 1
        have k2 : W3.cell? ⟨w.heap.size + 1, 2, none⟩ = some (.slice none 0 0) := wcell (cs := [_, _, _]) r2 2
        have z0 := wfree r2 0
        have z1 := wfree r2 1
        have z2 := wfree r2 2
        have t0 := Lib.hid (wset (wset (wset r2 0 (.int .i64 (a : Int))) 1 (.int .i64 (b : Int))) 2 (.slice q n cq))
        have hfin := Lib.hid (do_fin (rb := w.heap.size + 1) hT3.out hB5.out (by omega) (by have := hz1.out; omega) (.int .i64 (a : Int)) (.int .i64 (b : Int)) (.slice q n cq))
        have hcp := Lib.hid (OwnC.cap (k := 1) hT3.out.own)
        have hqb : Hid (∀ x : Addr, q = some x → w.heap.size ≤ x.block) := fun x hx => Nat.le_trans (by have := hz1.out; omega) (OwnC.block (k := 1) hT3.out.own x hx).1
        clear r2
        go_wp2_with fail
        have u0 := Lib.hid (wcell (cs := [.int .i64 (a : Int), .int .i64 (b : Int), .slice q n cq]) t0.out 0)
        have u1 := Lib.hid (wcell (cs := [.int .i64 (a : Int), .int .i64 (b : Int), .slice q n cq]) t0.out 1)
        have u2 := Lib.hid (wcell (cs := [.int .i64 (a : Int), .int .i64 (b : Int), .slice q n cq]) t0.out 2)
        refine bodyPost_ret (v := .tuple #[.agg #[.int .i64 (a : Int), .int .i64 (b : Int), .slice q n cq], .int .i64 1, .int .i64 0]) (by simp [results, Try.results23, go_sem, u0.out, u1.out, u2.out]) rfl ⟨q, cq, by rw [hMe.out]; rfl, by rw [hMe.out]; exact hfin.out.1, hcp.out, hfin.out.2, hqb.out⟩
end Go.Proofs.Ytkakggagaplaiaa
