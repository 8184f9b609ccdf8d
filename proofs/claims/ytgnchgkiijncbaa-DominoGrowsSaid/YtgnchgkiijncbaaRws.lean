/- What domino.Rows computes at the one piece (0, 1): two rows; conditions: the piece lies in a block of its own. -/
import Derived.Test.YtgnchgkiijncbaaCnt
import Derived.Deep.DeepCutAuto
import Derived.Laws.EntriesVeiled
namespace Go.Proofs.Ytgnchgkiijncbaa
open Go.RowKit Go.Maps
open Go.ChangeMaps (setBlock)

set_option maxHeartbeats 8000000 in
set_option maxRecDepth 100000 in
theorem rows_one (g : Nat) (w : World) (hg : w.heap[g]? = some (.cells #[.int .i64 0, .int .i64 1] 30 (0, 0))) :
    Calls Try.prog 9 #[.slice (some ⟨g, 0, none⟩) 1 1] w fun e w' => e = .returned (.tuple #[.int .i64 2, .int .i64 0]) ∧ Below w.heap.size w w' := by
  have hgl := lt_of_heap hg
  have hx : PIn w.heap.size w (some ⟨g, 0, none⟩) 1 [(0, 1)] := pin_of (ps := [(0, 1)]) hgl hgl fun j hj => wcell (cs := [.int .i64 0, .int .i64 1]) hg j
  have HC := Lib.hid (contains_none (some ⟨g, 0, none⟩) 1 1 w.heap.size [(0, 1)] w (by omega) hx (by intro q hq; rw [List.mem_singleton.1 hq]; exact ⟨by decide, by decide⟩))
  have hmm := @run_makeMap Try.prog
  replace hg := Lib.hid hg
  clear hx
  go_enter Try.func9, Try.ntmps9
  go_wp2_with fail
  refine HC.out.mono ?_
  rintro e w1 ⟨rfl, hB1⟩
  have hg1 := (hB1.block g hgl).trans hg.out
  have hz1 := hB1.size
  have hgl1 := lt_of_heap hg1
  clear HC hg
  go_wp2_with fail
  have hBa : Hid (Below w.heap.size w ((w1.alloc (.map #[] 0)).alloc (.cells #[.map (some w1.heap.size)] 46))) := (hB1.alloc hz1 _).alloc (by simp; omega) _
  obtain ⟨r, hr⟩ : ∃ r, r = w1.heap.size := ⟨_, rfl⟩
  have hg2 : ((w1.alloc (.map #[] 0)).alloc (.cells #[.map (some w1.heap.size)] 46)).heap[g]? = some (.cells #[.int .i64 0, .int .i64 1] 30 (0, 0)) := by
    rw [Below.heap_alloc _ _ g (by simp; omega), Below.heap_alloc _ _ g (by omega)]; exact hg1
  have hm2 : ((w1.alloc (.map #[] 0)).alloc (.cells #[.map (some w1.heap.size)] 46)).heap[w1.heap.size]? = some (.map #[] 0) := by
    rw [Below.heap_alloc _ _ _ (by simp)]; show (w1.heap.push _)[w1.heap.size]? = _; simp
  have hb2 : ((w1.alloc (.map #[] 0)).alloc (.cells #[.map (some w1.heap.size)] 46)).heap[w1.heap.size + 1]? = some (.cells #[.map (some w1.heap.size)] 46 (0, 0)) := by
    have := heap_alloc_new (w1.alloc (.map #[] 0)) (.cells #[.map (some w1.heap.size)] 46)
    simpa using this
  have hs2 : ((w1.alloc (.map #[] 0)).alloc (.cells #[.map (some w1.heap.size)] 46)).heap.size = w1.heap.size + 2 := by simp
  generalize (w1.alloc (.map #[] 0)).alloc (.cells #[.map (some w1.heap.size)] 46) = W2 at *
  have hrw : w.heap.size ≤ w1.heap.size := hz1
  rw [← hr] at hm2 hb2 hs2 hrw hgl1 ⊢
  have hs3 : r + 2 ≤ W2.heap.size := by omega
  replace hr := Lib.hid hr
  have p0 : W2.cell? ⟨g, 0, none⟩ = some (.int .i64 0) := wcell (cs := [_, _]) hg2 0
  have p1 : W2.cell? ⟨g, 1, none⟩ = some (.int .i64 1) := wcell (cs := [_, _]) hg2 1
  clear hB1 hg1 hmm hs2 hz1
  refine wp_loop_rounds 2 ?_
  rw [rounds_succ]
  go_upto_region 9 with fail
  have hV1 := heap_alloc_new W2 (.cells #[.int .i64 0, .int .i64 1] 30)
  have hb3 := (Below.heap_alloc W2 (.cells #[.int .i64 0, .int .i64 1] 30) (r + 1) (by omega)).trans hb2
  have hm3 := (Below.heap_alloc W2 (.cells #[.int .i64 0, .int .i64 1] 30) r (by omega)).trans hm2
  have hBb : Hid (Below w.heap.size w (W2.alloc (.cells #[.int .i64 0, .int .i64 1] 30))) := hBa.out.alloc (by omega) _
  generalize hGe : W2.heap.size = G at *
  generalize W2.alloc (.cells #[.int .i64 0, .int .i64 1] 30) = W3 at *
  replace hGe := Lib.hid hGe
  clear p0 p1 hg2 hm2 hb2 hBa
  have q0 : W3.cell? ⟨G, 0, none⟩ = some (.int .i64 0) := wcell (cs := [_, _]) hV1 0
  have q1 : W3.cell? ⟨G, 1, none⟩ = some (.int .i64 1) := wcell (cs := [_, _]) hV1 1
  have q2 : W3.cell? ⟨r + 1, 0, none⟩ = some (.map (some r)) := wcell (cs := [_]) hb3 0
  have l1 : (Instr.lookup 46 (.map (some r)) (.agg #[.int .i64 0, .int .i64 1]) false).run Try.prog W3.drew = .ok (.int .i64 0) W3.drew := no_look (w := W3.drew) hm3
  have l2 : (Instr.mapEntry 46 (.map (some r)) (.agg #[.int .i64 0, .int .i64 1])).run Try.prog W3.drew = .ok (.tuple #[.int .i64 0, .int .i64 0]) (setBlock W3.drew r (.map #[⟨K2 0 1, .int .i64 0, 0⟩] 1)) := no_entry (w := W3.drew) hm3
  have hO4 : One (setBlock W3.drew r (.map #[⟨K2 0 1, .int .i64 0, 0⟩] 1)) r 0 := setBlock_eq _ _ _ (lt_of_heap hm3)
  have l3 : (Instr.lookup 46 (.map (some r)) (.agg #[.int .i64 0, .int .i64 1]) false).run Try.prog (setBlock W3.drew r (.map #[⟨K2 0 1, .int .i64 0, 0⟩] 1)) = .ok (.int .i64 0) (setBlock W3.drew r (.map #[⟨K2 0 1, .int .i64 0, 0⟩] 1)) := one_look hO4 (a := 0) (b := 1) (by omega) (by omega)
  have l4 : (Instr.entryStore 46 (.map (some r)) (.int .i64 0) (.int .i64 1)).run Try.prog (setBlock W3.drew r (.map #[⟨K2 0 1, .int .i64 0, 0⟩] 1)) = .ok () (setBlock (setBlock W3.drew r (.map #[⟨K2 0 1, .int .i64 0, 0⟩] 1)) r (.map #[⟨K2 0 1, .int .i64 1, 0⟩] 1)) := one_store hO4 1
  have hO5 : One (setBlock (setBlock W3.drew r (.map #[⟨K2 0 1, .int .i64 0, 0⟩] 1)) r (.map #[⟨K2 0 1, .int .i64 1, 0⟩] 1)) r 1 := setBlock_eq _ _ _ (by rw [setBlock_size]; exact lt_of_heap hm3)
  have hV4 := (setBlock_ne W3.drew r G (.map #[⟨K2 0 1, .int .i64 0, 0⟩] 1) (by omega)).trans hV1
  have hb4 := (setBlock_ne W3.drew r (r + 1) (.map #[⟨K2 0 1, .int .i64 0, 0⟩] 1) (by omega)).trans hb3
  have hb5 := (setBlock_ne (setBlock W3.drew r (.map #[⟨K2 0 1, .int .i64 0, 0⟩] 1)) r (r + 1) (.map #[⟨K2 0 1, .int .i64 1, 0⟩] 1) (by omega)).trans hb4
  have hV6 := (setBlock_ne (setBlock W3.drew r (.map #[⟨K2 0 1, .int .i64 0, 0⟩] 1)) r G (.map #[⟨K2 0 1, .int .i64 1, 0⟩] 1) (by omega)).trans hV4
  have hBc : Hid (Below w.heap.size w (setBlock (setBlock W3.drew r (.map #[⟨K2 0 1, .int .i64 0, 0⟩] 1)) r (.map #[⟨K2 0 1, .int .i64 1, 0⟩] 1))) := (hBb.out.drew).trans ((below_setBlock hrw _).trans (below_setBlock hrw _))
  have hsz5 : (setBlock (setBlock W3.drew r (.map #[⟨K2 0 1, .int .i64 0, 0⟩] 1)) r (.map #[⟨K2 0 1, .int .i64 1, 0⟩] 1)).heap.size = W3.heap.size := by rw [setBlock_size, setBlock_size]; rfl
  generalize setBlock (setBlock W3.drew r (.map #[⟨K2 0 1, .int .i64 0, 0⟩] 1)) r (.map #[⟨K2 0 1, .int .i64 1, 0⟩] 1) = W5 at *
  generalize setBlock W3.drew r (.map #[⟨K2 0 1, .int .i64 0, 0⟩] 1) = W4 at *
  have y0 : W4.cell? ⟨G, 0, none⟩ = some (.int .i64 0) := wcell (cs := [_, _]) hV4 0
  have y1 : W4.cell? ⟨G, 1, none⟩ = some (.int .i64 1) := wcell (cs := [_, _]) hV4 1
  have y2 : W4.cell? ⟨r + 1, 0, none⟩ = some (.map (some r)) := wcell (cs := [_]) hb4 0
  have z0 : W5.cell? ⟨G, 0, none⟩ = some (.int .i64 0) := wcell (cs := [_, _]) hV6 0
  have z1 : W5.cell? ⟨G, 1, none⟩ = some (.int .i64 1) := wcell (cs := [_, _]) hV6 1
  have z2 : W5.cell? ⟨r + 1, 0, none⟩ = some (.map (some r)) := wcell (cs := [_]) hb5 0
  have wr0 : IntKind.i64.wrap 0 = 0 := rfl
  have wr1 : IntKind.i64.wrap 1 = 1 := rfl
  have wr2 : IntKind.i64.wrap (0 + 1) = 1 := rfl
  have hG5 : G < W5.heap.size := by rw [hsz5]; exact lt_of_heap hV1
  replace hO4 := Lib.hid hO4; replace hO5 := Lib.hid hO5; replace hV4 := Lib.hid hV4; replace hV6 := Lib.hid hV6; replace hb4 := Lib.hid hb4; replace hb5 := Lib.hid hb5; replace hm3 := Lib.hid hm3; replace hb3 := Lib.hid hb3; replace hV1 := Lib.hid hV1; replace hsz5 := Lib.hid hsz5
  go_region_held3 (fun w' => w'.cell? ⟨G, 0, none⟩ = some (.int .i64 0) ∧ w'.cell? ⟨G, 1, none⟩ = some (.int .i64 1) ∧ w'.cell? ⟨r + 1, 0, none⟩ = some (.map (some r))) (first | exact ⟨q0, q1, q2⟩ | exact ⟨y0, y1, y2⟩ | exact ⟨z0, z1, z2⟩ | go_keep) (fail)
  all_goals
    clear q0 q1 q2 y0 y1 y2 z0 z1 l1 l2 l3 l4
    go_wp2_with fail
    rw [rounds_succ]
    have hc7 := heap_alloc_new W5 (.cells #[.func (.func 17) #[] #[.pointer (some ⟨r + 1, 0, none⟩), .pointer (some ⟨W5.heap.size, 0, none⟩)]] 22)
    have hC : Hid (CSt w.heap.size (r + 1) W5.heap.size r 1 (W5.alloc (.cells #[.func (.func 17) #[] #[.pointer (some ⟨r + 1, 0, none⟩), .pointer (some ⟨W5.heap.size, 0, none⟩)]] 22))) :=
      ⟨(Below.heap_alloc W5 _ _ (by omega)).trans hb5.out, hc7, (Below.heap_alloc W5 _ _ (by omega)).trans hO5.out, hrw, by omega, by omega⟩
    have hBd : Hid (Below w.heap.size w (W5.alloc (.cells #[.func (.func 17) #[] #[.pointer (some ⟨r + 1, 0, none⟩), .pointer (some ⟨W5.heap.size, 0, none⟩)]] 22))) := hBc.out.alloc hBc.out.size _
    replace hc7 := Lib.hid hc7
    go_wp2_with fail
    refine (cnt_one w.heap.size (r + 1) W5.heap.size r _ hC.out hBd.out.size).mono ?_
    rintro e w' ⟨rfl, hBe⟩
    have hBf := Lib.hid (hBd.out.trans hBe)
    clear hBe
    go_wp2_with fail
    go_ret2
    exact ⟨rfl, hBf.out⟩
end Go.Proofs.Ytgnchgkiijncbaa
