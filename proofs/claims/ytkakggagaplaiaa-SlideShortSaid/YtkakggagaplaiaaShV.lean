/- What a move makes of a tray, and that two blocks alone are turned; conditions: a board of 2 or 3 by 2 or 3 places. -/
import Derived.Test.YtkakggagaplaiaaShC
import Derived.Test.YtkakggagaplaiaaSlV
import Derived.BigRegion
namespace Go.Proofs.Ytkakggagaplaiaa
open Go.RowKit

set_option maxRecDepth 20000 in
set_option maxHeartbeats 8000000 in
theorem move_two (B tb a b n cq g d k : Nat) (q : Option Addr) (l : List Nat) (w : World) (ha : 2 ≤ a) (ha3 : a ≤ 3) (hb : 2 ≤ b) (hb3 : b ≤ 3) (hn : n = a * b) (hd : d < 4) (hT : Tray B w tb a b n q cq g l) (hl : IsOrd n l) (hg : ixN l 0 = g) (hf : frm a b g d = some k) :
    Calls Try.prog 48 #[.pointer (some ⟨tb, 0, none⟩), .int .i64 d] w fun e w' => e = .returned (.bool true) ∧ Tray B w' tb a b n q cq k (exc l g k) ∧ Below B w w' ∧ ∀ z, q = some ⟨z, 0, none⟩ → TwS tb z w w' := by
  have hn0 : 0 < n := by rw [hn]; exact Nat.mul_pos (by omega) (by omega)
  have hn9 : n ≤ 9 := by rw [hn]; have := Nat.mul_le_mul ha3 hb3; omega
  obtain ⟨hgl, hg0⟩ := st_ix hl hn0
  rw [hg] at hgl hg0
  obtain ⟨hk1, hk2, _⟩ := frm_at ha ha3 hb hb3 (by rw [← hn]; exact hgl) hd hf
  rw [← hn] at hk1
  have HF := Lib.hid (from_any B tb a b n cq g d q l w ha ha3 hb hb3 (by rw [← hn]; exact hgl) hd hT)
  have he : frmI a b g d = (k : Int) := by unfold frmI; rw [hf]
  rw [he] at HF
  obtain ⟨gb, rfl, hgB, hgb, _⟩ := OwnC.where (k := 1) hT.own hn0
  have hne : gb ≠ tb := hT.ne _ rfl
  have c0 := hT.own.cellN hgl
  have c1 := hT.own.cellN hk1
  have f0 := OwnC.free (k := 1) hT.own g
  have f1 := OwnC.free (k := 1) hT.own k
  have d2 : w.cell? ⟨tb, 2, none⟩ = some (.slice (some ⟨gb, 0, none⟩) n cq) := wcell (cs := [_, _, _, _]) hT.box 2
  have d3 : w.cell? ⟨tb, 3, none⟩ = some (.int .i64 (g : Int)) := wcell (cs := [_, _, _, _]) hT.box 3
  have hO2 := (hT.own.setN g (st l k)).setN k 0
  have hexc : (l.set g (st l k)).set k 0 = exc l g k := by unfold exc; rw [hg0]
  rw [hexc] at hO2
  have hx2 : (((w.setCell ⟨gb, g, none⟩ (.int .i64 (st l k : Nat))).setCell ⟨gb, k, none⟩ (.int .i64 ((0 : Nat) : Int))).heap[tb]?) = _ := (wset_ne _ _ (fun e => hne e.symm)).trans ((wset_ne _ _ (fun e => hne e.symm)).trans hT.box)
  have hB2 := Lib.hid (((Below.refl B w).setCell (p := ⟨gb, g, none⟩) hgB (.int .i64 (st l k : Nat))).setCell (p := ⟨gb, k, none⟩) hgB (.int .i64 ((0 : Nat) : Int)))
  have hW2 := Lib.hid (((TwS.refl tb gb w).set (x := gb) (i := g) (.inr rfl) (.int .i64 (st l k : Nat))).set (x := gb) (i := k) (.inr rfl) (.int .i64 ((0 : Nat) : Int)))
  have hlow := Lib.hid hT.low
  have hTn := Lib.hid hT.ne
  rw [hg0] at c0
  clear hT he hexc hg hg0 hf
  generalize st l k = v0 at *
  replace hO2 := Lib.hid hO2; replace hx2 := Lib.hid hx2; replace hl := Lib.hid hl; replace hn := Lib.hid hn
  have i1 : (g : Int) < (n : Int) := by omega
  have i2 : (k : Int) < (n : Int) := by omega
  have i3 : (0 : Int) ≤ (g : Int) := by omega
  have i4 : (0 : Int) ≤ (k : Int) := by omega
  have i5 : g ≠ k := fun e => hk2 e.symm
  go_enter Try.func48, Try.ntmps48
  go_wp2_with fail
  refine HF.out.mono ?_
  rintro e w' ⟨rfl, r, rfl⟩
  clear HF
  go_wp2_with fail
  have c0' : (w.drewN r).cell? ⟨gb, g, none⟩ = some (.int .i64 ((0 : Nat) : Int)) := c0
  have c1' : (w.drewN r).cell? ⟨gb, k, none⟩ = some (.int .i64 (v0 : Nat)) := c1
  have f0' : (w.drewN r).frozen? ⟨gb, g, none⟩ = false := f0
  have f1' : (w.drewN r).frozen? ⟨gb, k, none⟩ = false := f1
  have d2' : (w.drewN r).cell? ⟨tb, 2, none⟩ = some (.slice (some ⟨gb, 0, none⟩) n cq) := d2
  have d3' : (w.drewN r).cell? ⟨tb, 3, none⟩ = some (.int .i64 (g : Int)) := d3
  clear c0 c1 f0 f1 d2 d3
  have hwr : Hid (∀ r2, (((w.drewN r).setCell ⟨gb, g, none⟩ (.int .i64 (v0 : Nat))).setCell ⟨gb, k, none⟩ (.int .i64 0)).drewN r2 = ((w.setCell ⟨gb, g, none⟩ (.int .i64 (v0 : Nat))).setCell ⟨gb, k, none⟩ (.int .i64 0)).drewN (r + r2)) := fun r2 => (show (((w.setCell ⟨gb, g, none⟩ (.int .i64 (v0 : Nat))).setCell ⟨gb, k, none⟩ (.int .i64 0)).drewN r).drewN r2 = _ from World.drewN_drewN _ _ _)
  generalize w.drewN r = W1 at *
  go_cut [5] (fun v wx => v = .int .i64 k ∧ ∃ r, wx = ((W1.setCell ⟨gb, g, none⟩ (.int .i64 (v0 : Nat))).setCell ⟨gb, k, none⟩ (.int .i64 0)).drewN r)
  case first =>
    go_region
    all_goals
      go_wp2_with fail
      go_meet
      exact ⟨rfl, _, rfl⟩
  case rest =>
    obtain ⟨rfl, r2, rfl⟩ := hcut
    rw [hwr.out r2]
    generalize r + r2 = r2 at *
    have hx3 : ((((w.setCell ⟨gb, g, none⟩ (.int .i64 (v0 : Nat))).setCell ⟨gb, k, none⟩ (.int .i64 0))).drewN r2).heap[tb]? = _ := hx2.out
    have hO3 : Own 3 B ((((w.setCell ⟨gb, g, none⟩ (.int .i64 (v0 : Nat))).setCell ⟨gb, k, none⟩ (.int .i64 0))).drewN r2) (some ⟨gb, 0, none⟩) n cq (asI (exc l g k)) := hO2.out
    have hB3 := below_drewN hB2.out r2
    have hWe : TwS tb gb w ((((w.setCell ⟨gb, g, none⟩ (.int .i64 (v0 : Nat))).setCell ⟨gb, k, none⟩ (.int .i64 0))).drewN r2) := hW2.out.low (below_drewN (Below.refl w.heap.size _) r2) (Nat.le_refl _)
    have hBe : Below B w ((((w.setCell ⟨gb, g, none⟩ (.int .i64 (v0 : Nat))).setCell ⟨gb, k, none⟩ (.int .i64 0))).drewN r2) := hB3
    clear c0' c1' f0' f1' d2' d3' hwr
    generalize (((w.setCell ⟨gb, g, none⟩ (.int .i64 (v0 : Nat))).setCell ⟨gb, k, none⟩ (.int .i64 0))).drewN r2 = W3 at *
    have e3 : W3.cell? ⟨tb, 3, none⟩ = some (.int .i64 (g : Int)) := wcell (cs := [_, _, _, _]) hx3 3
    have fz := wfree hx3 3
    have hx4 := wset hx3 3 (.int .i64 (k : Int))
    have hfin : Hid (Tray B (W3.setCell ⟨tb, 3, none⟩ (.int .i64 (k : Int))) tb a b n (some ⟨gb, 0, none⟩) cq k (exc l g k) ∧ Below B w (W3.setCell ⟨tb, 3, none⟩ (.int .i64 (k : Int))) ∧ TwS tb gb w (W3.setCell ⟨tb, 3, none⟩ (.int .i64 (k : Int)))) :=
      ⟨⟨hx4, OwnC.keep (k := 1) hO3 fun x hx => by cases hx; exact wset_ne _ _ hne, hlow.out, hTn.out⟩, hBe.setCell (p := ⟨tb, 3, none⟩) hlow.out _, hWe.set (.inl rfl) _⟩
    clear hx3 hx4 hO3 hBe hB3 hWe
    go_wp2_with fail
    go_ret
    exact ⟨rfl, hfin.out.1, hfin.out.2.1, fun z hz => by cases hz; exact hfin.out.2.2⟩
end Go.Proofs.Ytkakggagaplaiaa
