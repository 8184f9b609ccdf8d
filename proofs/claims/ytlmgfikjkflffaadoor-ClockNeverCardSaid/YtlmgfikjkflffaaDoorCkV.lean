/- What Left computes; conditions: the slice's length fits its kind, and the control and the uses are known. -/
import Derived.Test.YtlmgfikjkflffaaDoorCkU
namespace Go.Proofs.YtlmgfikjkflffaaDoor
open Go.RowKit

set_option maxHeartbeats 4000000 in
theorem Left_no (b k m r n : Int) (p : Option Addr) (l cq : Nat) (xs : List Int) (w : World) (hl : l ≤ 9223372036854775807) (hx : IntsIn w p l xs) (h : errD b k n m r xs ≠ 0) :
    Calls Tryd.prog 5 #[ctl b k n m r, .slice p l cq] w fun e w' => e = .returned (.tuple #[.slice none 0 0, .int .i64 (errD b k n m r xs)]) ∧ Below w.heap.size w w' := by
  have hB0 : Hid (Below w.heap.size w (w.alloc (.cells #[.int .i64 b, .int .i64 k, .int .i64 n, .int .i64 m, .int .i64 r] 23))) := (Below.refl _ _).alloc (Nat.le_refl _) _
  have HX := newDevice_no b k n m r p l cq xs (w.alloc (.cells #[.int .i64 b, .int .i64 k, .int .i64 n, .int .i64 m, .int .i64 r] 23)) hl (hx.alloc _) h
  have hz := bne_ne h
  unfold ctl at *
  replace HX := Lib.hid HX; replace h := Lib.hid h
  clear hx
  generalize errD b k n m r xs = er at *
  go_enter Tryd.func5, Tryd.ntmps5
  go_wp2_with fail
  refine HX.out.mono ?_
  rintro e w1 ⟨rfl, hB1⟩
  have hsz : w.heap.size + 1 ≤ w1.heap.size := by have := hB1.size; simpa using this
  replace hB1 := Lib.hid hB1; replace hsz := Lib.hid hsz
  go_wp2_with fail
  go_ret2
  exact ⟨rfl, (hB0.out.trans (hB1.out.mono (by simp))).alloc (by have := hsz.out; omega) _⟩

def runL (R : Option Dv) : Nat := match R with | some d => d.mv + 1 | none => 0

set_option maxHeartbeats 4000000 in
theorem Left_yes (c : Ct) (s : List Nat) (p : Option Addr) (l cq : Nat) (w : World) (hl : l ≤ 9223372036854775807) (hx : IntsIn w p l (asI s)) (h : errD c.base c.kind c.bonus c.moves c.more (asI s) = 0)
    (h1 : c.base ≤ 36000000) (hb : c.bonus ≤ 36000000) (hmo : c.more ≤ 36000000) (hmv : c.moves ≤ 1000) (hn : l ≤ 200) (hs : ∀ j, st s j ≤ 36000000) :
    Calls Tryd.prog 5 #[ctl c.base c.kind c.bonus c.moves c.more, .slice p l cq] w fun e w' => (∃ q cc, e = .returned (.tuple #[.slice q (runL (runS c (dev0 c) s)) cc, .int .i64 (runE (runS c (dev0 c) s))])) ∧ Below w.heap.size w w' := by
  obtain ⟨wA, hwA⟩ : ∃ wA : World, wA = (w.alloc (.cells #[.int .i64 c.base, .int .i64 c.kind, .int .i64 c.bonus, .int .i64 c.moves, .int .i64 c.more] 23)) := ⟨_, rfl⟩
  have hB0 : Below w.heap.size w wA := by rw [hwA]; exact (Below.refl _ _).alloc (Nat.le_refl _) _
  have hAs : wA.heap.size = w.heap.size + 1 := by rw [hwA]; simp
  have hxA := hx.below hB0
  have HX := newDevice_yes c.base c.kind c.bonus c.moves c.more p l cq (asI s) wA hl hxA h
  have HR := fun g db lb B W (h0 : Lf wA g db lb B c 0 (dev0 c) W) => runs13_any g c s p l cq lb db (fun k d W => Lf wA g db lb B c k d W) h1 hb hmo hmv hn hs
    (fun k d W hk hE => tell13_any wA g db lb B c k d W (by omega) hE)
    (fun k d d' W W' hE hD ho => hE.press hD ho) (fun k d W hE => hE.dev) (fun k d W hE => hxA.below hE.bel) W h0
  rw [hwA] at HX
  obtain ⟨R, hR⟩ : ∃ R, runS c (dev0 c) s = R := ⟨_, rfl⟩
  rw [hR] at HR ⊢
  replace HX := Lib.hid HX; replace h := Lib.hid h; replace HR := Lib.hid HR; replace hx := Lib.hid hx; replace hxA := Lib.hid hxA; replace hB0 := Lib.hid hB0; replace hAs := Lib.hid hAs; replace hwA := Lib.hid hwA; replace hs := Lib.hid hs; replace hR := Lib.hid hR
  unfold ctl at *
  go_enter Tryd.func5, Tryd.ntmps5
  go_wp2_with fail
  refine HX.out.mono ?_
  rintro e w1 ⟨g, rfl, hg, hrow, hB1⟩
  rw [← hwA.out] at hg hB1
  rw [row0] at hrow
  have hgl := lt_of_heap hrow
  have hL0 : Lf wA g w1.heap.size (w1.heap.size + 1) (w1.heap.size + 2) c 0 (dev0 c) ((w1.alloc (.cells #[.pointer (some ⟨g, 0, none⟩)] 40)).alloc (.cells #[.slice none 0 0] 24)) := by
    have h2 := heap2 w1 (.cells #[.pointer (some ⟨g, 0, none⟩)] 40) (.cells #[.slice none 0 0] 24)
    have hB2 := below2 w1 (.cells #[.pointer (some ⟨g, 0, none⟩)] 40) (.cells #[.slice none 0 0] 24)
    have hsA := hB1.size
    exact ⟨(hB2.block g hgl).trans hrow, h2.1, ⟨none, 0, [], h2.2, Own.nil _ _ _⟩, hB1.trans (hB2.mono hsA), ⟨by omega, by omega, by omega⟩, ⟨by omega, by omega, by omega⟩, ⟨hg, hsA, by omega⟩, by simp⟩
  have HR2 := Lib.hid (HR.out g _ _ _ _ hL0)
  clear HX HR
  have hdc : ((w1.alloc (.cells #[.pointer (some ⟨g, 0, none⟩)] 40)).alloc (.cells #[.slice none 0 0] 24)).cell? ⟨w1.heap.size, 0, none⟩ = some (.pointer (some ⟨g, 0, none⟩)) := box_cell hL0.dbx
  replace hrow := Lib.hid hrow; replace hB1 := Lib.hid hB1; replace hg := Lib.hid hg; replace hL0 := Lib.hid hL0
  go_wp2_with fail
  refine HR2.out.mono ?_
  rintro e w2 ⟨k1, k2⟩
  clear HR2
  cases R with
  | none =>
    obtain ⟨rfl, _, d, hL⟩ := k2 rfl
    clear k1 k2
    replace hL := Lib.hid hL
    go_wp2_with fail
    go_ret2
    exact ⟨⟨none, 0, rfl⟩, hB0.out.trans (hL.out.bel.mono (by have := hAs.out; omega))⟩
  | some d =>
    obtain ⟨rfl, hL⟩ := k1 d rfl
    clear k1 k2
    obtain ⟨q, cc, xs, hl2, hO⟩ := hL.row
    have e0 := box_cell hl2
    replace hL := Lib.hid hL; replace hl2 := Lib.hid hl2; replace hO := Lib.hid hO
    go_wp2_with fail
    go_ret2
    exact ⟨⟨q, cc, rfl⟩, hB0.out.trans (hL.out.bel.mono (by have := hAs.out; omega))⟩
end Go.Proofs.YtlmgfikjkflffaaDoor
