/- What (rows.match).owner and .won compute: who owns a line, and who has one; conditions: the cells are at most 100 numbers from 0 to 2, the lines are places of them, of 1 to 10 each. -/
import Derived.Test.YtfoojdkbonmmgaaRSp
import Derived.Lib.LazyBuf
namespace Go.Proofs.Ytfoojdkbonmmgaa
open Go.RowKit

theorem own_all {cs l : List Nat} (h : ∀ t, t < l.length → st cs (st l t) = st cs (st l 0)) : own cs l = st cs (st l 0) := by
  unfold own
  rw [if_pos]
  rw [List.all_eq_true]
  intro a ha
  obtain ⟨t, ht, rfl⟩ := List.mem_iff_getElem.1 ha
  have := h t ht
  have e : st l t = l[t] := by simp [st, ht]
  rw [e] at this
  simp [this]
theorem own_not {cs l : List Nat} {t : Nat} (ht : t < l.length) (h : st cs (st l t) ≠ st cs (st l 0)) : own cs l = 0 := by
  unfold own
  rw [if_neg]
  rw [List.all_eq_true]
  intro hh
  have := hh l[t] (List.getElem_mem ht)
  have e : st l t = l[t] := by simp [st, ht]
  rw [e] at h
  simp at this
  exact h this
theorem own_le {cs l : List Nat} (h : ∀ j, st cs j ≤ 2) : own cs l ≤ 2 := by
  unfold own
  split
  · exact h _
  · omega
theorem st_mem {l : List Nat} {n t : Nat} (h : ∀ a ∈ l, a < n) (ht : t < l.length) : st l t < n := by
  have e : st l t = l[t] := by simp [st, ht]
  rw [e]; exact h _ (List.getElem_mem ht)

set_option maxHeartbeats 1000000 in
theorem owner_any (q qc p : Option Addr) (n c m cm nl cl : Nat) (cs l : List Nat) (w : World) (hn : n ≤ 100) (hx : IntsIn w q n (asI cs)) (hl : IntsIn w p m (asI l)) (hm1 : 1 ≤ m) (hm : m ≤ 10) (hp : ∀ a ∈ l, a < n) (h2 : ∀ j, st cs j ≤ 2) :
    Calls Try.prog 20 #[.agg #[.slice q n c, .slice qc nl cl], .slice p m cm] w fun e w' => e = .returned (.int .i64 (own cs l)) ∧ Below w.heap.size w w' := by
  have hll : l.length = m := by have := hl.len; rwa [asI_len] at this
  have hpl : ∀ t, t < m → st l t < n := fun t ht => st_mem hp (by omega)
  have hB0 : Hid (Below w.heap.size w (w.alloc (.cells #[.slice q n c, .slice qc nl cl] 52))) := (Below.refl _ _).alloc (Nat.le_refl _) _
  have hxa := hx.alloc (.cells #[.slice q n c, .slice qc nl cl] 52)
  have hla := hl.alloc (.cells #[.slice q n c, .slice qc nl cl] 52)
  have e0 : (w.alloc (.cells #[.slice q n c, .slice qc nl cl] 52)).cell? ⟨w.heap.size, 0, none⟩ = some (.slice q n c) := by rw [World.cell?_alloc_new]; rfl
  have hn0 : 0 < n := by have := hpl 0 (by omega); omega
  obtain ⟨b, o, rfl, hb, hc⟩ := hxa.at hn0
  obtain ⟨b2, o2, rfl, hb2, hc2⟩ := hla.at (by omega)
  have k0 := hc2 0 (by omega)
  have k1 := hc (st l 0) (hpl 0 (by omega))
  rw [asI_at] at k0 k1
  simp only [Nat.add_zero] at k0
  have k2 := h2 (st l 0)
  have k3 := hpl 0 (by omega)
  have hown := Lib.hid (own_all (cs := cs) (l := l))
  have hnot := Lib.hid (fun t => own_not (cs := cs) (l := l) (t := t))
  replace hc := Lib.hid hc; replace hc2 := Lib.hid hc2; replace h2 := Lib.hid h2; replace hpl := Lib.hid hpl
  clear hx hl hp hxa hla
  generalize hP : st cs (st l 0) = P at *
  generalize hs0 : st l 0 = s0 at *
  replace hP := Lib.hid hP; replace hll := Lib.hid hll; replace hs0 := Lib.hid hs0
  go_enter Try.func20, Try.ntmps20
  go_wp2
  go_quiet (fail)
  go_wp2
  clear k0 k1
  generalize hWW : w.alloc (.cells #[.slice (some ⟨b, o, none⟩) n c, .slice qc nl cl] 52) = W at *
  replace hWW := Lib.hid hWW
  go_loopg [17] m (fun kk i W' => ∃ j : Nat, j ≤ m ∧ kk = m - j ∧ i = .int .i64 j ∧ (∀ t, t < j → st cs (st l t) = P) ∧ ∃ d, W' = W.drewN d)
  case atStart => exact ⟨0, by omega, by omega, rfl, fun t ht => absurd ht (by omega), _, rfl⟩
  case round =>
    obtain ⟨j, hj, hk, rfl, hall, d, rfl⟩ := hrel
    replace hk := Lib.hid hk; replace hall := Lib.hid hall
    by_cases hlt : j < m
    · have k0 := hc2.out j hlt
      have k1 := hc.out (st l j) (hpl.out j hlt)
      rw [asI_at] at k0 k1
      have k3' := hpl.out j hlt
      have k4 := h2.out (st l j)
      generalize hsj : st l j = sj at *
      generalize hcj : st cs sj = cj at *
      replace hsj := Lib.hid hsj; replace hcj := Lib.hid hcj
      by_cases he : cj = P
      · have he' : ((cj : Int) != (P : Int)) = false := by simp [he]
        replace he := Lib.hid he
        go_wp2
        have hk := hk.out
        go_roundg (m - (j + 1))
        case measure => omega
        case rel => exact ⟨j + 1, by omega, rfl, by go_num, fun t ht => by
          by_cases e : t = j
          · rw [e, hsj.out, hcj.out]; exact he.out
          · exact hall.out t (by omega), d, rfl⟩
      · have he' : ((cj : Int) != (P : Int)) = true := by simp; omega
        replace he := Lib.hid he
        go_wp2
        go_ret
        have hz : own cs l = 0 := hnot.out j (by have := hll.out; omega) (by rw [hsj.out, hcj.out]; exact he.out)
        exact ⟨by rw [hz]; rfl, below_drewN hB0.out _⟩
    · go_wp2
      go_ret
      have hz : own cs l = P := hown.out (fun t ht => hall.out t (by have := hll.out; omega))
      exact ⟨by rw [hz]; rfl, below_drewN hB0.out _⟩

theorem won_succ (cs : List Nat) (ls : List (List Nat)) (j : Nat) (h : j < ls.length) : won cs (ls.take (j + 1)) = won cs (ls.take j) ||| own cs ls[j] := by
  unfold won
  rw [List.take_succ_eq_append_getElem h, List.foldl_append]; rfl
theorem won_le (cs : List Nat) (ls : List (List Nat)) (h : ∀ j, st cs j ≤ 2) : won cs ls ≤ 3 := by
  unfold won
  suffices H : ∀ (ls : List (List Nat)) (a : Nat), a ≤ 3 → ls.foldl (fun n l => n ||| own cs l) a ≤ 3 from H ls 0 (by omega)
  intro ls
  induction ls with
  | nil => exact fun a ha => ha
  | cons l ls ih =>
    intro a ha
    refine ih _ ?_
    have h2 := own_le (cs := cs) (l := l) h
    show a ||| own cs l ≤ 3
    generalize own cs l = x at *
    rcases (show a = 0 ∨ a = 1 ∨ a = 2 ∨ a = 3 from by omega) with rfl | rfl | rfl | rfl <;> rcases (show x = 0 ∨ x = 1 ∨ x = 2 from by omega) with rfl | rfl | rfl <;> decide
def LinesOk (n : Nat) (ls : List (List Nat)) : Prop := ∀ l ∈ ls, 1 ≤ l.length ∧ l.length ≤ 10 ∧ ∀ a ∈ l, a < n

set_option maxHeartbeats 1000000 in
theorem rowsWon_any (q ql : Option Addr) (n c nl cl : Nat) (cs : List Nat) (ls : List (List Nat)) (w : World) (hn : n ≤ 100) (hx : IntsIn w q n (asI cs)) (B : Nat) (hls : RowsIn B w ql (ls.map asI)) (hlen : ls.length = nl) (hnl : nl ≤ 100000) (hok : LinesOk n ls) (h2 : ∀ j, st cs j ≤ 2) :
    Calls Try.prog 22 #[.agg #[.slice q n c, .slice ql nl cl]] w fun e w' => e = .returned (.int .i64 (won cs ls)) ∧ Below w.heap.size w w' := by
  have hB0 : Hid (Below w.heap.size w (w.alloc (.cells #[.slice q n c, .slice ql nl cl] 52))) := (Below.refl _ _).alloc (Nat.le_refl _) _
  have a0 := heap_alloc_new w (.cells #[.slice q n c, .slice ql nl cl] 52)
  have hsz : w.heap.size < (w.alloc (.cells #[.slice q n c, .slice ql nl cl] 52)).heap.size := by simp
  replace hx := Lib.hid hx; replace hls := Lib.hid hls; replace hok := Lib.hid hok; replace h2 := Lib.hid h2; replace hlen := Lib.hid hlen
  go_enter Try.func22, Try.ntmps22
  go_wp2
  generalize w.alloc (.cells #[.slice q n c, .slice ql nl cl] 52) = W at *
  replace a0 := Lib.hid a0
  go_loopg [3, 9] nl (fun kk v i W' => ∃ j : Nat, j ≤ nl ∧ kk = nl - j ∧ i = .int .i64 j ∧ v = .int .i64 (won cs (ls.take j)) ∧ Below W.heap.size W W')
  case atStart => exact ⟨0, by omega, by omega, rfl, rfl, Below.refl _ _⟩
  case round =>
    obtain ⟨j, hj, hk, rfl, rfl, hB⟩ := hrel
    obtain ⟨W1, rfl⟩ : ∃ W1 : World, W1 = wr := ⟨_, rfl⟩
    replace hk := Lib.hid hk
    have b0 := (hB.block _ hsz).trans a0.out
    have hBw := hB0.out.trans (hB.mono (Nat.le_of_lt hsz))
    by_cases hlt : j < nl
    · have hj' : j < ls.length := by have := hlen.out; omega
      obtain ⟨bb, oo, p, m, c', rfl, _, hbb, hcell, hin, _⟩ := hls.out j (asI ls[j]) (by simp [hj'])
      have hcell' := (hBw.cell (p := ⟨bb, oo + j, none⟩) hbb).trans hcell
      have hin' := hin.below hBw
      obtain ⟨o1, o2, o3⟩ := hok.out ls[j] (List.getElem_mem hj')
      have hml : ls[j].length = m := by have := hin.len; rwa [asI_len] at this
      have H := Lib.hid (owner_any q (some ⟨bb, oo, none⟩) p n c m c' nl cl cs ls[j] W1 hn (hx.out.below hBw) hin' (by omega) (by omega) o3 h2.out)
      have hsu := won_succ cs ls j hj'
      have u1 := won_le cs (ls.take j) h2.out
      have u2 := own_le (cs := cs) (l := ls[j]) h2.out
      have u3 := won_le cs (ls.take (j + 1)) h2.out
      have c0 : W1.cell? ⟨w.heap.size, 0, none⟩ = some (.slice q n c) := wcell (cs := [_, _]) b0 0
      have c1 : W1.cell? ⟨w.heap.size, 1, none⟩ = some (.slice (some ⟨bb, oo, none⟩) nl cl) := wcell (cs := [_, _]) b0 1
      generalize won cs (ls.take j) = a at *
      generalize ha' : won cs (ls.take (j + 1)) = a' at *
      replace ha' := Lib.hid ha'
      generalize own cs ls[j] = x at *
      have hor : bits BinOp.or IntKind.i64 (a : Int) (x : Int) = (a' : Int) := by
        subst hsu
        rcases (show a = 0 ∨ a = 1 ∨ a = 2 ∨ a = 3 from by omega) with rfl | rfl | rfl | rfl <;> rcases (show x = 0 ∨ x = 1 ∨ x = 2 from by omega) with rfl | rfl | rfl <;> decide
      replace hsu := Lib.hid hsu; replace hB := Lib.hid hB; replace hBw := Lib.hid hBw; replace b0 := Lib.hid b0
      replace hcell := Lib.hid hcell; replace hin := Lib.hid hin; replace hin' := Lib.hid hin'; replace o3 := Lib.hid o3; replace hml := Lib.hid hml
      go_wp2_with (go_at_call 20; refine H.out.mono ?_; rintro e w' ⟨rfl, hB2⟩)
      have hk := hk.out
      go_roundg (nl - (j + 1))
      case measure => omega
      case rel => exact ⟨j + 1, by omega, rfl, by go_num, by rw [ha'.out], hB.out.trans (hB2.mono hB.out.size)⟩
    · have hje : ls.take j = ls := List.take_of_length_le (by have := hlen.out; omega)
      rw [hje]
      replace hB := Lib.hid hB; replace hBw := Lib.hid hBw; replace b0 := Lib.hid b0; replace hje := Lib.hid hje
      go_wp2
      go_ret
      exact ⟨rfl, hBw.out⟩
end Go.Proofs.Ytfoojdkbonmmgaa
