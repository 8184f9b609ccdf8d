/- A picture that is being laid row by row, and the copy of one; conditions: at most twenty rows and columns. -/
import Derived.Test.YtkklcfaghnfleaaNPu
import Derived.Deep.RegionHeld3
import Derived.Deep.AppendLies
namespace Go.Proofs.Ytkklcfaghnfleaa
open Go.RowKit

theorem elS : ElT Try.prog 35 22 (.slice none 0 0) 1 24 := ⟨by kernel_rfl, by kernel_rfl, rfl, by omega, by omega⟩
theorem step_appendS {ops : Array Oper} {o : Oper} {a : Act} {K : Act → World → Prop} {Q : Exit → Act → World → Prop} {EE : Prop} (w : World) (hgd : o.guard = none) (s x : Operand)
    (hop : o.op = .call { callee := .builtin .append, args := #[s, x], argTypes := #[35, 35] })
    (B : Nat) (p : Option Addr) (n c : Nat) (vs : List Value) (hs : a.eval s = .slice p n c) (own : OwnC 22 1 B w p n c vs) (v : Value) (hv : v.oneCell' = true) (sz : Nat) (hx : a.eval x = .slice (some ⟨sz, 0, none⟩) 1 1)
    (hc : w.heap[sz]? = some (.cells #[v] 22 (0, 0)))
    (hn : n < 1099511627776) (hB : B ≤ w.heap.size)
    (hK : ∀ p' c' w', OwnC 22 1 B w' p' (n + 1) c' (vs ++ [v]) → w.grownBy w' (p.map (·.block)) → (p'.map (·.block) = p.map (·.block) ∨ ∀ a, p' = some a → w.heap.size ≤ a.block) → K (a.put o.dst (.slice p' (n + 1) c')) w') :
    if Region.wanted o (yielded ops a.tmps) = true then Oper.wp Try.prog o a w K Q else EE := by
  obtain ⟨i0, hi, hz0, hz1, hz2⟩ := info_parts elS.info
  refine step_append_lies w hgd s x 35 hop B 22 i0 (.slice none 0 0) 1 24 elS.under hi hz0 hz1 hz2 rfl (by omega) (.slice p n c) n _ hs own ⟨sz, 0, none⟩ 1 1 [v] hx rfl
    (fun k u hj => by
      match k, hj with
      | 0, hj => simp at hj; subst hj; rw [Addr.add_lit]; exact wcell (cs := [_]) hc 0)
    (by intro u hu; simp at hu; subst hu; exact hv) (by omega) (by unfold maxLen; omega) (by omega) hB w.heap.size rfl ?_
  intro g cap w' h1 h2 h3 h4
  refine hK _ _ _ h1 ?_ ?_
  · refine ⟨h2.os, h2.tape, h2.output, h2.size, fun k hk hne => h2.block k hk ?_⟩
    intro e; apply hne; rw [e]; cases p <;> rfl
  · rcases h3 with h3 | h3
    · left; cases p <;> simp_all [Value.ownBlock]
    · right; intro a' ha; cases ha; simp; omega

def rowsV (m j : Nat) (g kp : Nat → Nat) : List Value := (List.range j).map fun y => Value.slice (some ⟨g y, 0, none⟩) m (kp y)
theorem rowsV_succ (m j g1 k1 : Nat) (g kp : Nat → Nat) : rowsV m (j + 1) (setN g j g1) (setN kp j k1) = rowsV m j g kp ++ [.slice (some ⟨g1, 0, none⟩) m k1] := by
  unfold rowsV
  rw [List.range_succ, List.map_append]
  congr 1
  · exact List.map_congr_left fun y hy => by
      have : y ≠ j := by have := List.mem_range.1 hy; omega
      rw [setN_ne _ _ this, setN_ne _ _ this]
  · simp [setN_self]
/-- a picture with its first j rows. -/
structure Pp (B : Nat) (W : World) (pb n m : Nat) (rq : Option Addr) (rc : Nat) (cq : Option Addr) (cc j : Nat) (q : Option Addr) (k : Nat) (g kp : Nat → Nat) (c : Pic) : Prop where
  hd : W.heap[pb]? = some (.cells #[.slice rq n rc, .slice cq m cc, .slice q j k] 54 (0, 0))
  cs : OwnC 22 1 B W q j k (rowsV m j g kp)
  row : ∀ y, y < j → Own 3 B W (some ⟨g y, 0, none⟩) m (kp y) (rowL m c y)
  ne : ∀ y, y < j → (∀ a, q = some a → g y ≠ a.block) ∧ g y ≠ pb ∧ ∀ y', y' < j → y' ≠ y → g y' ≠ g y
  pc : ∀ a, q = some a → a.block ≠ pb
  pB : B ≤ pb
theorem Pp.done {B : Nat} {W : World} {pb n m : Nat} {rq : Option Addr} {rc : Nat} {cq : Option Addr} {cc : Nat} {q : Option Addr} {k : Nat} {g kp : Nat → Nat} {c : Pic} (h : Pp B W pb n m rq rc cq cc n q k g kp c) (hn : 0 < n) : ∃ cb, Pc B W pb n m rq rc cq cc cb k g kp c := by
  obtain ⟨cb, rfl, _⟩ := h.cs.where hn
  exact ⟨cb, h.hd, h.cs, h.row, fun y hy => ⟨(h.ne y hy).1 _ rfl, (h.ne y hy).2⟩, h.pc _ rfl, h.pB⟩
theorem Pp.app {B : Nat} {W w6 w9 : World} {o : Obj} {pb n m : Nat} {rq : Option Addr} {rc : Nat} {cq : Option Addr} {cc j : Nat} {q q9 : Option Addr} {k c6 c9 g6 : Nat} {g kp : Nat → Nat} {c : Pic}
    (h : Pp B W pb n m rq rc cq cc j q k g kp c) (hb6 : Below W.heap.size W w6) (hO6 : Own 3 W.heap.size w6 (some ⟨g6, 0, none⟩) m c6 (rowL m c j))
    (hM9 : OwnC 22 1 B w9 q9 (j + 1) c9 (rowsV m j g kp ++ [.slice (some ⟨g6, 0, none⟩) m c6])) (hg9 : (w6.alloc o).grownBy w9 (q.map (·.block))) (hor : q9.map (·.block) = q.map (·.block) ∨ ∀ a, q9 = some a → (w6.alloc o).heap.size ≤ a.block) :
    Pp B (w9.setCell ⟨pb, 2, none⟩ (.slice q9 (j + 1) c9)) pb n m rq rc cq cc (j + 1) q9 c9 (setN g j g6) (setN kp j c6) c ∧ Below B W (w9.setCell ⟨pb, 2, none⟩ (.slice q9 (j + 1) c9)) := by
  have lp := lt_of_heap h.hd
  have hs6 := hb6.size
  have h6 := hO6.block _ rfl
  have hg6 : W.heap.size ≤ g6 ∧ g6 < w6.heap.size := h6
  have hqb : ∀ a, q = some a → B ≤ a.block ∧ a.block < W.heap.size := fun a ha => h.cs.block a ha
  have key : ∀ i, i < W.heap.size → some i ≠ q.map (·.block) → w9.heap[i]? = W.heap[i]? := fun i hi hne => (hg9.block i (by simp; omega) hne).trans (((Below.refl _ w6).alloc (Nat.le_refl _) o).block i (by omega) |>.trans (hb6.block i hi))
  have h9 : w9.heap[g6]? = w6.heap[g6]? := (hg9.block g6 (by simp; omega) (fun e => by
    cases q with
    | none => cases e
    | some a => simp at e; have := (hqb a rfl).2; omega)).trans (((Below.refl _ w6).alloc (Nat.le_refl _) o).block g6 (by omega))
  have hpq : some pb ≠ q.map (·.block) := fun e => by
    cases q with
    | none => cases e
    | some a => simp at e; exact h.pc a rfl e.symm
  have hgq : ∀ y, y < j → some (g y) ≠ q.map (·.block) := fun y hy e => by
    cases q with
    | none => cases e
    | some a => simp at e; exact (h.ne y hy).1 a rfl e
  have hgl : ∀ y, y < j → B ≤ g y ∧ g y < W.heap.size := fun y hy => (h.row y hy).block _ rfl
  have hq9 : ∀ a, q9 = some a → a.block ≠ pb ∧ a.block ≠ g6 ∧ ∀ y, y < j → g y ≠ a.block := fun a ha => by
    rcases hor with e | e
    · cases q with
      | none => rw [ha] at e; cases e
      | some b =>
        rw [ha] at e
        simp at e
        have hb := hqb b rfl
        exact ⟨by rw [e]; exact h.pc b rfl, by omega, fun y hy => by rw [e]; exact (h.ne y hy).1 b rfl⟩
    · have := e a ha
      simp at this
      exact ⟨by omega, by omega, fun y hy => by have := (hgl y hy).2; omega⟩
  have hsz9 : W.heap.size ≤ w9.heap.size := by have := hg9.size; simp at this; omega
  refine ⟨⟨?_, ?_, fun y hy => ?_, fun y hy => ?_, fun a ha => (hq9 a ha).1, h.pB⟩, ?_⟩
  · have e := (key pb lp hpq).trans h.hd
    rw [wset e]; rfl
  · rw [rowsV_succ]
    exact hM9.keep fun a ha => wset_ne _ _ (hq9 a ha).1
  · by_cases e : y = j
    · subst e
      rw [setN_self, setN_self]
      have hB6 : B ≤ W.heap.size := Nat.le_trans h.pB (Nat.le_of_lt lp)
      exact (hO6.mono hB6).keep fun a ha => by cases ha; exact (wset_ne _ _ (by show g6 ≠ pb; omega)).trans h9
    · rw [setN_ne _ _ e, setN_ne _ _ e]
      have hyj : y < j := by omega
      exact (h.row y hyj).keep fun a ha => by cases ha; exact (wset_ne _ _ (h.ne y hyj).2.1).trans (key _ (hgl y hyj).2 (hgq y hyj))
  · by_cases e : y = j
    · subst e
      rw [setN_self]
      refine ⟨fun a ha => (hq9 a ha).2.1.symm, by omega, fun y' hy' hne => ?_⟩
      rw [setN_ne _ _ hne]
      have := (hgl y' (by omega)).2; omega
    · rw [setN_ne _ _ e]
      have hyj : y < j := by omega
      refine ⟨fun a ha => (hq9 a ha).2.2 y hyj, (h.ne y hyj).2.1, fun y' hy' hne => ?_⟩
      by_cases e2 : y' = j
      · subst e2
        rw [setN_self]; have := (hgl y hyj).2; omega
      · rw [setN_ne _ _ e2]; exact (h.ne y hyj).2.2 y' (by omega) hne
  · refine Below.setCell (p := ⟨pb, 2, none⟩) ⟨?_, ?_, ?_, hsz9, fun i hi => ?_⟩ h.pB _
    · exact hg9.os.trans hb6.os
    · exact hg9.tape.trans hb6.tape
    · exact hg9.output.trans hb6.output
    · refine key i (by have := lp; have := h.pB; omega) fun e => ?_
      cases q with
      | none => cases e
      | some a => simp at e; have := (hqb a rfl).1; omega
set_option maxRecDepth 20000 in
set_option maxHeartbeats 4000000 in
theorem copied_any {B : Nat} {w : World} {pb n m : Nat} {rq : Option Addr} {rc : Nat} {cq : Option Addr} {cc cb kc : Nat} {g kp : Nat → Nat} {c : Pic} (h : Pc B w pb n m rq rc cq cc cb kc g kp c) (hn : 1 ≤ n ∧ n ≤ 20) (hm : 1 ≤ m ∧ m ≤ 20) :
    Calls Try.prog 32 #[.pointer (some ⟨pb, 0, none⟩)] w fun e W' => ∃ pb2 cb2 kc2 g2 kp2, e = .returned (.pointer (some ⟨pb2, 0, none⟩)) ∧ Pc w.heap.size W' pb2 n m rq rc cq cc cb2 kc2 g2 kp2 c ∧ Below w.heap.size w W' := by
  have HP := Lib.hid (fun W' (hb : Below w.heap.size w W') => h.below hb (Nat.le_refl _))
  have k0 := h.k0
  have k1 := h.k1
  have k2 := h.k2
  obtain ⟨hn1, hn2⟩ := hn
  obtain ⟨hm1, hm2⟩ := hm
  replace h := Lib.hid h
  go_enter Try.func32, Try.ntmps32
  go_upto_region 1 with fail
  go_region
  have e0 := heap_alloc_new w (.cells #[.slice rq n rc, .slice cq m cc, .slice none 0 0] 54)
  have hb0 : Hid (Below w.heap.size w (w.alloc (.cells #[.slice rq n rc, .slice cq m cc, .slice none 0 0] 54)).drew) := ((Below.refl _ w).alloc (Nat.le_refl _) _).drew
  have p0 : Hid (Pp w.heap.size (w.alloc (.cells #[.slice rq n rc, .slice cq m cc, .slice none 0 0] 54)).drew w.heap.size n m rq rc cq cc 0 none 0 g kp c) :=
    ⟨e0, OwnC.nil _ _ _ _, fun y hy => absurd hy (Nat.not_lt_zero _), fun y hy => absurd hy (Nat.not_lt_zero _), fun a ha => (by cases ha), Nat.le_refl _⟩
  have k2' : (w.alloc (.cells #[.slice rq n rc, .slice cq m cc, .slice none 0 0] 54)).drew.cell? ⟨pb, 2, none⟩ = some (.slice (some ⟨cb, 0, none⟩) n kc) := (HP.out _ hb0.out).k2
  obtain ⟨pb2, hpb2⟩ : ∃ pb2, pb2 = w.heap.size := ⟨_, rfl⟩
  generalize hW0 : (w.alloc (.cells #[.slice rq n rc, .slice cq m cc, .slice none 0 0] 54)).drew = W0 at *
  clear hW0 e0 k0 k1 k2
  rw [← hpb2] at p0 hb0 HP ⊢
  replace hpb2 := Lib.hid hpb2
  go_wp2_with fail
  go_loopg [21] n (fun gk jv W' => ∃ (j : Nat) (q : Option Addr) (k : Nat) (g2 kp2 : Nat → Nat), gk = n - j ∧ j ≤ n ∧ jv = .int .i64 (j : Nat) ∧ Hid (Pp pb2 W' pb2 n m rq rc cq cc j q k g2 kp2 c) ∧ Hid (Below pb2 w W'))
  case atStart => exact ⟨0, none, 0, g, kp, by omega, by omega, rfl, p0, hb0⟩
  case round =>
    obtain ⟨j, q, k, g2, kp2, hgk, hj, rfl, hp, hb⟩ := hrel
    obtain ⟨W1, rfl⟩ : ∃ W1 : World, W1 = wr := ⟨_, rfl⟩
    replace hgk := Lib.hid hgk
    clear p0 hb0 k2'
    rcases Nat.lt_or_ge j n with hlt | hge
    · have hP1 := HP.out W1 hb.out
      have a1 := hP1.at hlt
      have hin := Lib.hid (hP1.in hlt)
      have hcap := hP1.cap hlt
      clear hP1
      generalize g j = gj at a1 hin
      generalize kp j = kj at a1 hcap
      have d2 : W1.cell? ⟨pb2, 2, none⟩ = some (.slice q j k) := wcell (cs := [_, _, _]) hp.out.hd 2
      have f2 : W1.frozen? ⟨pb2, 2, none⟩ = false := wfree hp.out.hd 2
      have hlp := lt_of_heap hp.out.hd
      have hpq : Hid (some pb2 ≠ q.map (·.block)) := fun e => by
        cases q with
        | none => cases e
        | some a => simp at e; exact hp.out.pc a rfl e.symm
      have HC : Hid (∀ X : World, Below W1.heap.size W1 X → Calls Try.prog 29 #[.slice (some ⟨gj, 0, none⟩) m kj] X fun e X' => ∃ g6 c6, e = .returned (.slice (some ⟨g6, 0, none⟩) m c6) ∧ Own 3 W1.heap.size X' (some ⟨g6, 0, none⟩) m c6 (rowL m c j) ∧ Below W1.heap.size W1 X') := fun X hX =>
        (clone_any (some ⟨gj, 0, none⟩) m kj _ X (by omega) (hin.out.below hX)).mono fun e X' ⟨p', c', h1, h2, h3⟩ => by
          obtain ⟨g6, rfl, _⟩ := h2.where (by omega)
          exact ⟨g6, c', h1, h2.mono hX.size, hX.trans (h3.mono hX.size)⟩
      have hi9 : j < 1099511627776 := by omega
      have hx0 : Hid (Below W1.heap.size W1 W1.drew) := (Below.refl _ W1).drew
      go_upto_region 5 with fail
      clear a1 hcap
      go_region_law (first
        | (refine step_appendS _ (by rfl) _ _ (by rfl) pb2 q j k (rowsV m j g2 kp2) (by rfl) (hcs6.out _ hb7) (.slice (some ⟨g6, 0, none⟩) m c6) (by rfl) w6.heap.size (by rfl) (heap_alloc_new w6 _) hi9 hz7 ?_; intro p9 c9 w9 hM9 hg9 hor9; have m0 : w9.cell? ⟨pb2, 2, none⟩ = some (.slice q j k) := wcell (cs := [_, _, _]) ((hg9.block pb2 hl7 hpq.out).trans hd7) 2; have m1 : w9.frozen? ⟨pb2, 2, none⟩ = false := wfree ((hg9.block pb2 hl7 hpq.out).trans hd7) 2; replace hM9 := Lib.hid hM9; replace hg9 := Lib.hid hg9; replace hor9 := Lib.hid hor9)
        | (go_simp; go_at_call 29; refine (HC.out _ ?_).mono ?_; exact hx0.out; rintro e w6 ⟨g6, c6, rfl, hO6, hb6⟩; have hb7 := hb6.alloc hb6.size (.cells #[.slice (some ⟨g6, 0, none⟩) m c6] 22); have hcs6 : Hid (∀ X : World, Below W1.heap.size W1 X → OwnC 22 1 pb2 X q j k (rowsV m j g2 kp2)) := (fun X hX => hp.out.cs.below hX (Nat.le_refl _)); have hd6 := (hb6.block pb2 hlp).trans hp.out.hd; have hd7 := (hb7.block pb2 hlp).trans hp.out.hd; have hz7 := Nat.le_trans (Nat.le_of_lt hlp) hb7.size; have hl7 := Nat.lt_of_lt_of_le hlp hb7.size; have d6 : w6.cell? ⟨pb2, 2, none⟩ = some (.slice q j k) := wcell (cs := [_, _, _]) hd6 2; have d7 : (w6.alloc (.cells #[.slice (some ⟨g6, 0, none⟩) m c6] 22)).cell? ⟨pb2, 2, none⟩ = some (.slice q j k) := wcell (cs := [_, _, _]) hd7 2))
      all_goals
        have hfin := Lib.hid (hp.out.app hb6 hO6 hM9.out hg9.out hor9.out)
        have hbf : Hid (Below pb2 w (w9.setCell ⟨pb2, 2, none⟩ (.slice p9 (j + 1) c9))) := hb.out.trans hfin.out.2
        go_wp2_with fail
        have hgk := hgk.out
        go_roundg (n - (j + 1))
        case measure => omega
        case rel => exact ⟨j + 1, p9, c9, _, _, rfl, by omega, by go_num, hfin.out.1, hbf.out⟩
    · obtain rfl : j = n := by omega
      obtain ⟨cb2, hPc⟩ := hp.out.done (by omega)
      replace hPc := Lib.hid hPc
      go_wp2_with fail
      go_ret
      have e := hpb2.out
      subst e
      exact ⟨_, cb2, k, g2, kp2, rfl, hPc.out, hb.out⟩
end Go.Proofs.Ytkklcfaghnfleaa
