/- What Run and Left compute; conditions: the slice's length fits its kind, and the control and the uses are known. -/
import Derived.Test.YtlmgfikjkflffaaDoorCkT
import Derived.Laws.CopyOwn
namespace Go.Proofs.YtlmgfikjkflffaaDoor
open Go.RowKit

def clk (d : Dv) : Value := .agg #[.int .i64 d.t0, .int .i64 d.t1, .int .i64 d.fl, .int .i64 d.mv]
def dvZ : Dv := ⟨0, 0, 0, 0, 0, 0⟩
theorem below_only {w0 w w' : World} {g : Nat} (h : Below w0.heap.size w0 w) (ho : OnlyG w w' g) (hg : w0.heap.size ≤ g) : Below w0.heap.size w0 w' :=
  ⟨ho.gr.os.trans h.os, ho.gr.tape.trans h.tape, ho.gr.output.trans h.output, Nat.le_trans h.size (by have := ho.sz; omega), fun i hi => (ho.gr.block i (Nat.lt_of_lt_of_le hi h.size) (by intro e; cases e; omega)).trans (h.block i hi)⟩

theorem row_set {w : World} {g : Nat} {old : Array Value} {t : TypeId} (h : w.heap[g]? = some (.cells old t (0, 0))) (cs : Array Value) : (w.setRow g cs).heap[g]? = some (.cells cs t (0, 0)) := by
  simp [World.setRow, Array.getElem?_modify, h]
set_option maxHeartbeats 4000000 in
theorem Run_no (b k m r n : Int) (p : Option Addr) (l cq : Nat) (xs : List Int) (w : World) (hl : l ≤ 9223372036854775807) (hx : IntsIn w p l xs) (h : errD b k n m r xs ≠ 0) :
    Calls Tryd.prog 4 #[ctl b k n m r, .slice p l cq] w fun e w' => e = .returned (.tuple #[clk dvZ, .int .i64 (errD b k n m r xs)]) ∧ Below w.heap.size w w' := by
  have hB0 : Hid (Below w.heap.size w ((w.alloc (.cells #[.int .i64 b, .int .i64 k, .int .i64 n, .int .i64 m, .int .i64 r] 23)).alloc (.cells #[.int .i64 0, .int .i64 0, .int .i64 0, .int .i64 0] 27))) := below2 w _ _
  have HX := newDevice_no b k n m r p l cq xs ((w.alloc (.cells #[.int .i64 b, .int .i64 k, .int .i64 n, .int .i64 m, .int .i64 r] 23)).alloc (.cells #[.int .i64 0, .int .i64 0, .int .i64 0, .int .i64 0] 27)) hl ((hx.alloc _).alloc _) h
  have hz := bne_ne h
  unfold ctl at *
  replace HX := Lib.hid HX; replace h := Lib.hid h
  clear hx
  generalize errD b k n m r xs = er at *
  go_enter Tryd.func4, Tryd.ntmps4
  go_wp2_with fail
  refine HX.out.mono ?_
  rintro e w1 ⟨rfl, hB1⟩
  have hb2 := (hB1.block (w.heap.size + 1) (by simp)).trans (heap2 w (.cells #[.int .i64 b, .int .i64 k, .int .i64 n, .int .i64 m, .int .i64 r] 23) (.cells #[.int .i64 0, .int .i64 0, .int .i64 0, .int .i64 0] 27)).2
  replace hB1 := Lib.hid hB1
  have e0 := wcell (cs := [_, _, _, _]) hb2 0; have e1 := wcell (cs := [_, _, _, _]) hb2 1; have e2 := wcell (cs := [_, _, _, _]) hb2 2; have e3 := wcell (cs := [_, _, _, _]) hb2 3
  have f0 := wfree hb2 0; have f1 := wfree hb2 1; have f2 := wfree hb2 2; have f3 := wfree hb2 3
  replace hb2 := Lib.hid hb2
  go_wp2_with fail
  refine bodyPost_ret (v := .tuple #[.agg #[.int .i64 0, .int .i64 0, .int .i64 0, .int .i64 0], .int .i64 er]) (by simp [results, Tryd.results4, go_sem, e0, e1, e2, e3]) rfl ⟨rfl, ?_⟩
  refine (((Below.setCell ?_ ?_ _).setCell ?_ _).setCell ?_ _).setCell ?_ _
  · exact hB0.out.trans (hB1.out.mono (by simp; omega))
  all_goals simp

theorem row0 {c : Ct} : rowD c.base c.kind c.bonus c.moves c.more = devR c (dev0 c) := rfl
/-- what Run answers. -/
def runD (R : Option Dv) : Dv := R.getD dvZ
def runE (R : Option Dv) : Int := match R with | some _ => 0 | none => 9

set_option maxHeartbeats 4000000 in
theorem Run_yes (c : Ct) (s : List Nat) (p : Option Addr) (l cq : Nat) (w : World) (hl : l ≤ 9223372036854775807) (hx : IntsIn w p l (asI s)) (h : errD c.base c.kind c.bonus c.moves c.more (asI s) = 0)
    (h1 : c.base ≤ 36000000) (hb : c.bonus ≤ 36000000) (hmo : c.more ≤ 36000000) (hmv : c.moves ≤ 1000) (hn : l ≤ 200) (hs : ∀ j, st s j ≤ 36000000) :
    Calls Tryd.prog 4 #[ctl c.base c.kind c.bonus c.moves c.more, .slice p l cq] w fun e w' => e = .returned (.tuple #[clk (runD (runS c (dev0 c) s)), .int .i64 (runE (runS c (dev0 c) s))]) ∧ Below w.heap.size w w' := by
  obtain ⟨wA, hwA⟩ : ∃ wA : World, wA = ((w.alloc (.cells #[.int .i64 c.base, .int .i64 c.kind, .int .i64 c.bonus, .int .i64 c.moves, .int .i64 c.more] 23)).alloc (.cells #[.int .i64 0, .int .i64 0, .int .i64 0, .int .i64 0] 27)) := ⟨_, rfl⟩
  have hB0 : Below w.heap.size w wA := by rw [hwA]; exact below2 w _ _
  have hAs : wA.heap.size = w.heap.size + 2 := by rw [hwA]; simp
  have hA1 : wA.heap[w.heap.size + 1]? = some (.cells #[.int .i64 0, .int .i64 0, .int .i64 0, .int .i64 0] 27 (0, 0)) := by rw [hwA]; exact (heap2 w _ _).2
  have hxA := hx.below hB0
  have HX := newDevice_yes c.base c.kind c.bonus c.moves c.more p l cq (asI s) wA hl hxA h
  have HR := fun g (hg : wA.heap.size ≤ g) W (h0 : DevAt W g c (dev0 c) ∧ Below wA.heap.size wA W) => runs12_any g c s p l cq (fun _ d W => DevAt W g c d ∧ Below wA.heap.size wA W) h1 hb hmo hmv hn hs
    (fun k d W _ hE => by
      go_enter Tryd.func12, Tryd.ntmps12
      go_wp2_with fail
      go_end0
      exact ⟨rfl, hE⟩)
    (fun k d d' W W' hE hD ho => ⟨hD, below_only hE.2 ho hg⟩) (fun k d W hE => hE.1) (fun k d W hE => hxA.below hE.2) W h0
  rw [hwA] at HX
  obtain ⟨R, hR⟩ : ∃ R, runS c (dev0 c) s = R := ⟨_, rfl⟩
  rw [hR] at HR ⊢
  have hAs2 : w.heap.size + 1 < wA.heap.size := by omega
  replace HX := Lib.hid HX; replace h := Lib.hid h; replace HR := Lib.hid HR; replace hx := Lib.hid hx; replace hxA := Lib.hid hxA; replace hB0 := Lib.hid hB0; replace hAs := Lib.hid hAs; replace hA1 := Lib.hid hA1; replace hwA := Lib.hid hwA; replace hs := Lib.hid hs; replace hR := Lib.hid hR; replace hAs2 := Lib.hid hAs2
  unfold ctl at *
  go_enter Tryd.func4, Tryd.ntmps4
  go_wp2_with fail
  refine HX.out.mono ?_
  rintro e w1 ⟨g, rfl, hg, hrow, hB1⟩
  rw [← hwA.out] at hg hB1
  rw [row0] at hrow
  have HR2 := Lib.hid (HR.out g hg w1 ⟨hrow, hB1⟩)
  clear HX HR
  replace hrow := Lib.hid hrow; replace hB1 := Lib.hid hB1; replace hg := Lib.hid hg
  go_wp2_with fail
  refine HR2.out.mono ?_
  rintro e w2 ⟨k1, k2⟩
  clear HR2
  cases R with
  | none =>
    obtain ⟨rfl, _, d, hD, hB2⟩ := k2 rfl
    clear k1 k2
    have hb2 := (hB2.block (w.heap.size + 1) hAs2.out).trans hA1.out
    have e0 := wcell (cs := [_, _, _, _]) hb2 0; have e1 := wcell (cs := [_, _, _, _]) hb2 1; have e2 := wcell (cs := [_, _, _, _]) hb2 2; have e3 := wcell (cs := [_, _, _, _]) hb2 3
    have f0 := wfree hb2 0; have f1 := wfree hb2 1; have f2 := wfree hb2 2; have f3 := wfree hb2 3
    replace hb2 := Lib.hid hb2; replace hB2 := Lib.hid hB2; replace hD := Lib.hid hD
    go_wp2_with fail
    refine bodyPost_ret (v := .tuple #[.agg #[.int .i64 0, .int .i64 0, .int .i64 0, .int .i64 0], .int .i64 9]) (by simp [results, Tryd.results4, go_sem, e0, e1, e2, e3]) rfl ⟨rfl, ?_⟩
    refine (((Below.setCell ?_ ?_ _).setCell ?_ _).setCell ?_ _).setCell ?_ _
    · exact hB0.out.trans (hB2.out.mono (by have := hAs.out; omega))
    all_goals simp
  | some d =>
    obtain ⟨rfl, hD, hB2⟩ := k1 d rfl
    clear k1 k2
    have hb2 := (hB2.block (w.heap.size + 1) hAs2.out).trans hA1.out
    have e0 := wcell (cs := [_, _, _, _]) hb2 0; have e1 := wcell (cs := [_, _, _, _]) hb2 1; have e2 := wcell (cs := [_, _, _, _]) hb2 2; have e3 := wcell (cs := [_, _, _, _]) hb2 3
    have f0 := wfree hb2 0; have f1 := wfree hb2 1; have f2 := wfree hb2 2; have f3 := wfree hb2 3
    have d5 : w2.cell? ⟨g, 5, none⟩ = some (.int .i64 d.t0) := by rw [hD.cell]; rfl
    have d6 : w2.cell? ⟨g, 6, none⟩ = some (.int .i64 d.t1) := by rw [hD.cell]; rfl
    have d7 : w2.cell? ⟨g, 7, none⟩ = some (.int .i64 d.fl) := by rw [hD.cell]; rfl
    have d8 : w2.cell? ⟨g, 8, none⟩ = some (.int .i64 d.mv) := by rw [hD.cell]; rfl
    replace hb2 := Lib.hid hb2; replace hB2 := Lib.hid hB2; replace hD := Lib.hid hD
    go_wp2_with fail
    refine bodyPost_ret (v := .tuple #[clk d, .int .i64 0]) (by simp [results, Tryd.results4, go_sem, e0, e1, e2, e3, clk]) rfl ⟨rfl, ?_⟩
    refine (((Below.setCell ?_ ?_ _).setCell ?_ _).setCell ?_ _).setCell ?_ _
    · exact hB0.out.trans (hB2.out.mono (by have := hAs.out; omega))
    all_goals simp
end Go.Proofs.YtlmgfikjkflffaaDoor
