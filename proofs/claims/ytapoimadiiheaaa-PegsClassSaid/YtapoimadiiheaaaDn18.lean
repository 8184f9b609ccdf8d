/- What the closure of pegs.Fewest does: the longest row so far; conditions: rows of at most 1000 jumps. -/
import Derived.Test.YtapoimadiiheaaaRnP
import Derived.Lib.MinMax
namespace Go.Proofs.Ytapoimadiiheaaa
open Go.RowKit

theorem box1_set {W : World} {b : Nat} {t : TypeId} {v : Value} (h : W.heap[b]? = some (.cells #[v] t (0, 0))) (u : Value) : (W.setCell ⟨b, 0, none⟩ u).heap[b]? = some (.cells #[u] t (0, 0)) := by
  simp [World.setCell, Array.getElem?_modify, h]
set_option maxHeartbeats 400000 in
theorem done18 (bx acc nr cr : Nat) (p : Option Addr) (W : World) (hb : W.heap[bx]? = some (.cells #[.int .i64 (acc : Int)] 3 (0, 0))) :
    Calls Try.prog 18 #[.slice p nr cr, .pointer (some ⟨bx, 0, none⟩)] W fun e W' => e = .returned (.bool false) ∧ W'.heap[bx]? = some (.cells #[.int .i64 ((max acc nr : Nat) : Int)] 3 (0, 0)) ∧ W.grownBy W' (some bx) := by
  have d0 : W.cell? ⟨bx, 0, none⟩ = some (.int .i64 (acc : Int)) := wcell (cs := [_]) hb 0
  have f0 : W.frozen? ⟨bx, 0, none⟩ = false := wfree hb 0
  have hmx : max (acc : Int) (nr : Int) = ((max acc nr : Nat) : Int) := by omega
  have hset := Lib.hid (box1_set hb (.int .i64 ((max acc nr : Nat) : Int)))
  have hgr : Hid (W.grownBy (W.setCell ⟨bx, 0, none⟩ (.int .i64 ((max acc nr : Nat) : Int))) (some bx)) := ⟨rfl, rfl, rfl, by simp [World.setCell], fun k _ hne => Below.heap_setCell W ⟨bx, 0, none⟩ _ k (fun e => hne (by rw [e]))⟩
  generalize max acc nr = r at *
  replace hb := Lib.hid hb
  go_enter Try.func18, Try.ntmps18
  go_wp2_with fail
  go_ret
  exact ⟨rfl, hset.out, hgr.out⟩
end Go.Proofs.Ytapoimadiiheaaa
