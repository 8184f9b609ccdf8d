/- What slide.nameOf makes of six places: their array; conditions stand in it. -/
import Derived.Test.YtkakggagaplaiaaSlV
import Derived.Laws.CopyOwn
namespace Go.Proofs.Ytkakggagaplaiaa
open Go.RowKit

/-- a board as an array. -/
def nmV (l : List Nat) : Value := .agg #[.int .i64 (st l 0 : Nat), .int .i64 (st l 1 : Nat), .int .i64 (st l 2 : Nat), .int .i64 (st l 3 : Nat), .int .i64 (st l 4 : Nat), .int .i64 (st l 5 : Nat)]
set_option maxRecDepth 20000 in
set_option maxHeartbeats 2000000 in
theorem name_any (q : Option Addr) (c : Nat) (l : List Nat) (w : World) (hx : IntsIn w q 6 (asI l)) :
    Calls Try.prog 57 #[.slice q 6 c] w fun e w' => e = .returned (nmV l) ∧ Below w.heap.size w w' := by
  have hl : l.length = 6 := by have := hx.len; rwa [asI_len] at this
  obtain ⟨b, o, rfl, hb, hc⟩ := hx.at (by omega)
  have hl6 : l = [st l 0, st l 1, st l 2, st l 3, st l 4, st l 5] := by
    match l, hl with
    | [a0, a1, a2, a3, a4, a5], _ => rfl
  obtain ⟨cs, hcs⟩ : ∃ cs, cs = (asI l).map (Value.int .i64) := ⟨_, rfl⟩
  have hcl : cs.length = 6 := by rw [hcs]; simp [asI_len, hl]
  have hin : (Try.prog.info? 3).map (·.size) = some 1 := by kernel_rfl
  go_enter Try.func57, Try.ntmps57
  go_upto_region 1 with fail
  generalize hW : w.alloc (Obj.cells _ 96) = W0
  have hg0 : W0.heap[w.heap.size]? = some (.cells [Value.int .i64 0, .int .i64 0, .int .i64 0, .int .i64 0, .int .i64 0, .int .i64 0].toArray 96 (0, 0)) := by rw [← hW]; exact heap_alloc_new w _
  have hB0 : Below w.heap.size w W0 := by rw [← hW]; exact (Below.refl _ _).alloc (Nat.le_refl _) _
  have hsrc : ∀ j v, cs[j]? = some v → W0.cell? (Addr.add ⟨b, o, none⟩ j) = some v := fun j v hv => by
    have hj : j < 6 := by rw [← hcl]; exact (List.getElem?_eq_some_iff.1 hv).1
    have h1 := (hB0.cell (p := ⟨b, o + j, none⟩) hb).trans (hc j hj)
    rw [Addr.add_lit, h1]
    rw [hcs, List.getElem?_map] at hv
    have hj2 : j < (asI l).length := by rw [asI_len, hl]; exact hj
    rw [List.getElem?_eq_getElem hj2] at hv ⊢
    simpa using hv
  have h1c : ∀ v ∈ cs, v.oneCell' = true := fun v hv => by
    rw [hcs] at hv; obtain ⟨x, _, rfl⟩ := List.mem_map.1 hv; rfl
  have hn6 : cs.length = Nat.min 6 6 := by rw [hcl]; rfl
  have hrun := run_copy_row (P := Try.prog) W0 22 22 3 3 w.heap.size 0 6 6 ⟨b, o, none⟩ 6 c _ 96 cs Try.underlying22 hin hg0 hn6 hsrc (by rw [hcl]; decide) h1c
  obtain ⟨W2, hW2⟩ : ∃ W2, W2 = W0.setRow w.heap.size (([Value.int .i64 0, .int .i64 0, .int .i64 0, .int .i64 0, .int .i64 0, .int .i64 0].toArray.toList.take 0 ++ cs ++ [Value.int .i64 0, .int .i64 0, .int .i64 0, .int .i64 0, .int .i64 0, .int .i64 0].toArray.toList.drop (0 + cs.length)).toArray) := ⟨_, rfl⟩
  rw [← hW2, hcl] at hrun
  have hB2 : Hid (Below w.heap.size w W2) := by rw [hW2]; exact below_setRow hB0 (Nat.le_refl _) _
  have hg2 : W2.heap[w.heap.size]? = some (.cells #[.int .i64 (st l 0 : Nat), .int .i64 (st l 1 : Nat), .int .i64 (st l 2 : Nat), .int .i64 (st l 3 : Nat), .int .i64 (st l 4 : Nat), .int .i64 (st l 5 : Nat)] 96 (0, 0)) := by
    rw [hW2, setRow_heap W0 w.heap.size _ _ 96 _ hg0, hcs, hl6]; rfl
  have c0 := wcell (cs := [_, _, _, _, _, _]) hg2 0
  have c1 := wcell (cs := [_, _, _, _, _, _]) hg2 1
  have c2 := wcell (cs := [_, _, _, _, _, _]) hg2 2
  have c3 := wcell (cs := [_, _, _, _, _, _]) hg2 3
  have c4 := wcell (cs := [_, _, _, _, _, _]) hg2 4
  have c5 := wcell (cs := [_, _, _, _, _, _]) hg2 5
  have z0 := wfree hg2 0
  have z1 := wfree hg2 1
  have z2 := wfree hg2 2
  have z3 := wfree hg2 3
  have z4 := wfree hg2 4
  have z5 := wfree hg2 5
  clear hW hc hcs hl6 hx hg0 hsrc h1c hB0 hn6 hcl hin hW2 hg2 hl
  go_wp2_with fail
  refine bodyPost_ret (v := nmV l) (by simp [results, Try.results57, go_sem, c0, c1, c2, c3, c4, c5, nmV]) rfl ⟨rfl, ?_⟩
  repeat' (first | exact hB2.out | refine Below.setCell ?_ (by simp) _)
end Go.Proofs.Ytkakggagaplaiaa
