/- What table.play tells at a trick's end, if table.best tells right. -/
import Derived.Test.YtkakggagaplaiaaBrF
namespace Go.Proofs.Ytkakggagaplaiaa
open Go.RowKit

theorem gS_bd {s t q ld : Nat} {d : List Nat} (hq : t = 4 * q) (hR : 1 ≤ q → Rd d ld [] q) (hld : ld < 4) (hc : crd d = t) : 0 ≤ gS s t d ld [] ∧ gS s t d ld [] ≤ 13 := by
  have h52 : t ≤ 52 := by
    rw [← hc]; unfold crd
    have := List.length_filter_le (fun c => decide (st d c < 4)) (List.range 52)
    simpa using this
  rcases Nat.eq_zero_or_pos q with h0 | h0
  · subst h0; subst hq; simp [gS]
  · have := (gS_rot s t d ld [] q hld h0 (by simpa using hq) (hR h0)).2
    omega
set_option maxHeartbeats 2000000 in
theorem playE_of {s tb mb db t : Nat} {d0 : List Nat} (HB : BestAt s d0 tb mb db t) (hs5 : s < 5) (d : List Nat) (ld q : Nat) (l : List Nat) (p : Option Addr) (c : Nat) (w : World) (hc : crd d = t) (ht : t = 4 * q)
    (hR : 1 ≤ q → Rd d ((ld + wnS s l 4) % 4) [] q) (hD : DlB d0 d) (hld : ld < 4) (hl : ∀ i, i < 4 → st l i < 52) (hx : IntsIn w p 4 (asI l)) (hW : Wd s d0 tb mb db d w) :
    Calls Try.prog 70 #[.pointer (some ⟨tb, 0, none⟩), .pointer (some ⟨db, 0, none⟩), .int .i64 ld, .slice p 4 c] w fun e w' => e = .returned (.int .i64 ((if (ld + wnS s l 4) % 4 % 2 = 0 then 1 else 0) + gS s t d ((ld + wnS s l 4) % 4) [])) ∧ MapOk (FB s d0) w' mb ∧ w.grownBy w' (some mb) := by
  have HW := Lib.hid (winner_any p c s l w hx hl hs5)
  have hwn := wnS_lt s l 4
  have c0 : w.cell? ⟨tb, 0, none⟩ = some (.int .i64 (s : Int)) := wcell (cs := [_, _]) hW.tab 0
  obtain ⟨n, hn⟩ : ∃ n, n = wnS s l 4 := ⟨_, rfl⟩
  rw [← hn] at HW hwn hR ⊢
  obtain ⟨W, hWd⟩ : ∃ W, W = (ld + n) % 4 := ⟨_, rfl⟩
  rw [← hWd] at hR ⊢
  have hW4 : W < 4 := by omega
  have q0 : ((ld : Int) + (n : Int)).tmod 4 = (W : Int) := by rw [Int.tmod_eq_emod_of_nonneg (by omega)]; omega
  have q1 : ((ld : Int) + (n : Int)) % 4 = (W : Int) := by omega
  have hgb := gS_bd (s := s) ht hR hW4 hc
  have HBB : Hid (∀ w2, Below w.heap.size w w2 → Calls Try.prog 50 #[.pointer (some ⟨tb, 0, none⟩), .pointer (some ⟨db, 0, none⟩), .int .i64 W] w2 fun e w' => e = .returned (.int .i64 (gS s t d W [])) ∧ MapOk (FB s d0) w' mb ∧ w2.grownBy w' (some mb)) :=
    fun w2 hb => HB d W q w2 hc ht hR hD hW4 (hW.below hb)
  generalize gS s t d W [] = G at *
  clear hR hD hW hx hl hn HB
  replace hWd := Lib.hid hWd
  have a0 : bits .and .i64 0 1 = 0 := by decide
  have a1 : bits .and .i64 1 1 = 1 := by decide
  have a2 : bits .and .i64 2 1 = 0 := by decide
  have a3 : bits .and .i64 3 1 = 1 := by decide
  rcases (show W = 0 ∨ W = 1 ∨ W = 2 ∨ W = 3 by omega) with rfl | rfl | rfl | rfl
  all_goals
    go_enter Try.func70, Try.ntmps70
    go_wp2_with fail
    refine HW.out.mono ?_
    rintro e w1 ⟨rfl, hB⟩
    have H2 := Lib.hid (HBB.out w1 hB)
    replace hB := Lib.hid hB
    clear c0
    go_wp2_with fail
    refine H2.out.mono ?_
    rintro e w2 ⟨rfl, hM, hg⟩
    replace hM := Lib.hid hM; replace hg := Lib.hid hg
    go_wp2_with fail
    go_ret
    refine ⟨?_, hM.out, (grown_below hB.out _).trans hg.out⟩
    first | rfl | (show Ending.returned (Value.int .i64 _) = Ending.returned (Value.int .i64 _); simp only [Nat.reduceMod]; congr 2; go_num) | trace_state
end Go.Proofs.Ytkakggagaplaiaa
