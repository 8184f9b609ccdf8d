/- What slide.Count's closure does at a ring, and slide.Count; conditions: two by three places or three by two, 0 to 21 steps. -/
import Derived.Test.YtkakggagaplaiaaShW55
import Derived.Test.YtkakggagaplaiaaShH
namespace Go.Proofs.Ytkakggagaplaiaa
open Go.RowKit

theorem TwS.set {x1 x2 x i : Nat} {A B : World} (h : TwS x1 x2 A B) (hx : x = x1 ∨ x = x2) (v : Value) : TwS x1 x2 A (B.setCell ⟨x, i, none⟩ v) := by
  have hb := (Below.refl 0 B).setCell (p := ⟨x, i, none⟩) (Nat.zero_le _) v
  exact ⟨hb.os.trans h.os, hb.tape.trans h.tape, hb.output.trans h.output, Nat.le_trans h.size hb.size, fun k hk h1 h2 => by
    have hkx : k ≠ x := by rcases hx with rfl | rfl <;> assumption
    exact (wset_ne ⟨x, i, none⟩ v hkx).trans (h.block k hk h1 h2)⟩
def JC (x1 x2 s d : Nat) (W : World) : Prop := d ≤ s ∧ W.heap[x1]? = some (.cells #[.int .i64 ((s : Int) - (d : Int))] 3 (0, 0)) ∧ W.heap[x2]? = some (.cells #[.int .i64 0] 3 (0, 0))
def FC (a b x2 s d : Nat) (W : World) : Prop := d = s ∧ W.heap[x2]? = some (.cells #[.int .i64 ((stg a b s).2.length : Nat)] 3 (0, 0))
set_option maxRecDepth 20000 in
set_option maxHeartbeats 2000000 in
theorem cnt1_any (a b x1 x2 s d m c mb : Nat) (q : Option Addr) (W : World) (hs : s ≤ 21) (hne : x1 ≠ x2) (hJ : JC x1 x2 s d W) (hm : (stg a b d).2.length = m) :
    Calls Try.prog 55 #[.slice q m c, .map (some mb), .pointer (some ⟨x1, 0, none⟩), .pointer (some ⟨x2, 0, none⟩)] W fun e W' =>
      (e = .returned (.bool true) ∧ d < 21 ∧ JC x1 x2 s (d + 1) W' ∧ TwS x1 x2 W W') ∨ (e = .returned (.bool false) ∧ FC a b x2 s d W' ∧ TwS x1 x2 W W') := by
  obtain ⟨hds, h1, h2⟩ := hJ
  have c1 : W.cell? ⟨x1, 0, none⟩ = some (.int .i64 ((s : Int) - (d : Int))) := wcell (cs := [_]) h1 0
  have c2 : W.cell? ⟨x2, 0, none⟩ = some (.int .i64 0) := wcell (cs := [_]) h2 0
  have f1 := wfree h1 0
  have f2 := wfree h2 0
  have ht0 := TwS.refl x1 x2 W
  go_enter Try.func55, Try.ntmps55
  rcases Nat.eq_or_lt_of_le hds with rfl | hlt
  · have e0 : (d : Int) - (d : Int) = 0 := by omega
    rw [e0] at c1 h1
    have g1 := wset h2 0 (.int .i64 (m : Nat))
    have g2 : (W.setCell ⟨x2, 0, none⟩ (.int .i64 (m : Nat))).heap[x1]? = some (.cells #[.int .i64 0] 3 (0, 0)) := (wset_ne _ _ hne).trans h1
    have ht1 := ht0.set (i := 0) (.inr rfl) (.int .i64 (m : Nat))
    have c3 : (W.setCell ⟨x2, 0, none⟩ (.int .i64 (m : Nat))).cell? ⟨x1, 0, none⟩ = some (.int .i64 0) := wcell (cs := [_]) g2 0
    have f3 := wfree g2 0
    have g3 := wset g2 0 (.int .i64 (-1))
    have g4 : (((W.setCell ⟨x2, 0, none⟩ (.int .i64 (m : Nat))).setCell ⟨x1, 0, none⟩ (.int .i64 (-1))).heap[x2]?) = some (.cells #[.int .i64 (m : Nat)] 3 (0, 0)) := (wset_ne _ _ (Ne.symm hne)).trans g1
    have c4 : ((W.setCell ⟨x2, 0, none⟩ (.int .i64 (m : Nat))).setCell ⟨x1, 0, none⟩ (.int .i64 (-1))).cell? ⟨x1, 0, none⟩ = some (.int .i64 (-1)) := wcell (cs := [_]) g3 0
    have ht2 := ht1.set (i := 0) (.inl rfl) (.int .i64 (-1))
    have hfin : Hid (FC a b x2 d d ((W.setCell ⟨x2, 0, none⟩ (.int .i64 (m : Nat))).setCell ⟨x1, 0, none⟩ (.int .i64 (-1))) ∧ TwS x1 x2 W ((W.setCell ⟨x2, 0, none⟩ (.int .i64 (m : Nat))).setCell ⟨x1, 0, none⟩ (.int .i64 (-1)))) := ⟨⟨rfl, by rw [hm]; exact g4⟩, ht2⟩
    clear h1 h2 g1 g2 g3 g4 ht0 ht1 ht2
    go_wp2_with fail
    go_ret
    exact .inr ⟨rfl, hfin.out⟩
  · obtain ⟨v, hv⟩ : ∃ v : Int, v = (s : Int) - (d : Int) := ⟨_, rfl⟩
    rw [← hv] at c1 h1
    have e1 : decide (v = 0) = false := decide_eq_false (by omega)
    have e2 : decide (0 ≤ v - 1) = true := decide_eq_true (by omega)
    have hvr : 1 ≤ v ∧ v ≤ 21 := by omega
    have hv1 : v - 1 = (s : Int) - ((d + 1 : Nat) : Int) := by push_cast; omega
    have g3 := wset h1 0 (.int .i64 (v - 1))
    have g4 : (W.setCell ⟨x1, 0, none⟩ (.int .i64 (v - 1))).heap[x2]? = some (.cells #[.int .i64 0] 3 (0, 0)) := (wset_ne _ _ (Ne.symm hne)).trans h2
    have c4 : (W.setCell ⟨x1, 0, none⟩ (.int .i64 (v - 1))).cell? ⟨x1, 0, none⟩ = some (.int .i64 (v - 1)) := wcell (cs := [_]) g3 0
    have ht2 := ht0.set (i := 0) (.inl rfl) (.int .i64 (v - 1))
    have hfin : Hid (JC x1 x2 s (d + 1) (W.setCell ⟨x1, 0, none⟩ (.int .i64 (v - 1))) ∧ TwS x1 x2 W (W.setCell ⟨x1, 0, none⟩ (.int .i64 (v - 1)))) := ⟨⟨by omega, by rw [← hv1]; exact g3, g4⟩, ht2⟩
    clear h1 h2 g3 g4 ht0 ht2 hv hv1
    go_wp2_with fail
    go_ret
    exact .inl ⟨rfl, by omega, hfin.out.1, hfin.out.2⟩
end Go.Proofs.Ytkakggagaplaiaa
