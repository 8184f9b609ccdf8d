/- What hanoi.Way computes at a state of up to ten discs and a peg from 0 to 2: the moves of mv; conditions: the slice reads as such a state. -/
import Derived.Test.YtfjlhghiadoodaaMvW
namespace Go.Proofs.Ytfjlhghiadoodaa
open Go.RowKit

theorem OwnM_mono {B B' : Nat} {w : World} {p : Option Addr} {n c : Nat} {l : List (Nat × Nat)} (h : OwnM B w p n c l) (hB : B' ≤ B) : OwnM B' w p n c l := by
  refine ⟨h.1, ?_⟩
  rcases h.2 with h2 | ⟨g, cap, cur, hv, hb, r⟩
  · exact .inl h2
  · exact .inr ⟨g, cap, cur, hv, by omega, r⟩
/-- a slice of moves reads as l. -/
def MovesIn (w : World) (q : Option Addr) (l : List (Nat × Nat)) : Prop :=
  ∀ i a b : Nat, l[i]? = some (a, b) → ∃ g : Nat, q = some ⟨g, 0, none⟩ ∧ g < w.heap.size ∧ w.cell? ⟨g, i * 3, none⟩ = some (.int .i64 (a : Int)) ∧ w.cell? ⟨g, i * 3 + 1, none⟩ = some (.int .i64 (b : Int)) ∧ w.cell? ⟨g, i * 3 + 2, none⟩ = some (.int .i64 0)
theorem MovesIn.below {w w' : World} {q : Option Addr} {l : List (Nat × Nat)} (h : MovesIn w q l) (hB : Below w.heap.size w w') : MovesIn w' q l := fun i a b hi => by
  obtain ⟨g, e, hg, h1, h2, h3⟩ := h i a b hi
  exact ⟨g, e, Nat.lt_of_lt_of_le hg hB.size, (hB.cell (p := ⟨g, _, none⟩) hg).trans h1, (hB.cell (p := ⟨g, _, none⟩) hg).trans h2, (hB.cell (p := ⟨g, _, none⟩) hg).trans h3⟩
theorem OwnM_in {B : Nat} {w : World} {q : Option Addr} {c : Nat} {l : List (Nat × Nat)} (h : OwnM B w q l.length c l) : MovesIn w q l := fun i a b hi => by
  have hil : i < l.length := (List.getElem?_eq_some_iff.1 hi).1
  obtain ⟨f1, f2, f3⟩ := flat_at l i a b hi
  rcases h.2 with ⟨_, h0⟩ | ⟨g, cap, cur, hv, _, hh, _⟩
  · omega
  · injection hv with hp _ _
    subst hp
    refine ⟨g, rfl, lt_of_heap hh, ?_, ?_, ?_⟩
    · rw [World.ownsRow.cellAt h _ (by omega)]; exact f1
    · rw [World.ownsRow.cellAt h _ (by omega)]; exact f2
    · rw [World.ownsRow.cellAt h _ (by omega)]; exact f3

theorem St.start {w1 W : World} {sb n c c1 : Nat} {p p1 : Option Addr} {s : List Nat} (hsz : sb < W.heap.size) (d0 : w1.heap[sb]? = some (.cells #[.slice p n c] 22 (0, 0))) (hO : Own 3 W.heap.size w1 p1 n c1 (asI s)) (hW : W.heap.size ≤ w1.heap.size) :
    St (((w1.setCell ⟨sb, 0, none⟩ (.slice p1 n c1)).alloc (.cells #[.slice none 0 0] 38)).alloc (.cells #[.func (.func 19) #[] #[.pointer (some ⟨sb, 0, none⟩), .pointer (some ⟨w1.heap.size + 1, 0, none⟩), .pointer (some ⟨w1.heap.size, 0, none⟩)]] 47)) sb w1.heap.size (w1.heap.size + 1) (w1.heap.size + 2) p1 n c1 s none 0 [] ∧
    Below sb w1 (((w1.setCell ⟨sb, 0, none⟩ (.slice p1 n c1)).alloc (.cells #[.slice none 0 0] 38)).alloc (.cells #[.func (.func 19) #[] #[.pointer (some ⟨sb, 0, none⟩), .pointer (some ⟨w1.heap.size + 1, 0, none⟩), .pointer (some ⟨w1.heap.size, 0, none⟩)]] 47)) := by
  have hs2 : (w1.setCell ⟨sb, 0, none⟩ (.slice p1 n c1)).heap.size = w1.heap.size := by simp [World.setCell]
  obtain ⟨a1, a2⟩ := heap2 (w1.setCell ⟨sb, 0, none⟩ (.slice p1 n c1)) (.cells #[.slice none 0 0] 38) (.cells #[.func (.func 19) #[] #[.pointer (some ⟨sb, 0, none⟩), .pointer (some ⟨w1.heap.size + 1, 0, none⟩), .pointer (some ⟨w1.heap.size, 0, none⟩)]] 47)
  have hB := below2 (w1.setCell ⟨sb, 0, none⟩ (.slice p1 n c1)) (.cells #[.slice none 0 0] 38) (.cells #[.func (.func 19) #[] #[.pointer (some ⟨sb, 0, none⟩), .pointer (some ⟨w1.heap.size + 1, 0, none⟩), .pointer (some ⟨w1.heap.size, 0, none⟩)]] 47)
  rw [hs2] at a1 a2 hB
  have hsb : (w1.setCell ⟨sb, 0, none⟩ (.slice p1 n c1)).heap[sb]? = some (.cells #[.slice p1 n c1] 22 (0, 0)) := by
    simp [World.setCell, Array.getElem?_modify, d0]
  have hO2 : Own 3 W.heap.size (w1.setCell ⟨sb, 0, none⟩ (.slice p1 n c1)) p1 n c1 (asI s) := hO.keep fun a ha => Below.heap_setCell _ _ _ _ (by have := (hO.block a ha).1; simp; omega)
  refine ⟨⟨(hB.block sb (by omega)).trans hsb, a2, a1, ((hO2.alloc _).alloc _).mono (by omega), World.ownsRow_nil _ _ _ _, by simp [World.setCell], by omega, by omega, by omega, fun a ha => (hO.block a ha).2⟩, ?_⟩
  exact ((Below.refl sb w1).setCell (Nat.le_refl _) _).trans (hB.mono (by omega))

set_option maxHeartbeats 4000000 in
theorem way_any (p : Option Addr) (n c : Nat) (s : List Nat) (pg : Nat) (w : World) (hn : n ≤ 10) (hx : IntsIn w p n (asI s)) (hs : ∀ j, st s j < 3) (hp : pg < 3) (pI : Int) (hpI : Hid (pI = pg)) :
    Calls Try.prog 13 #[.slice p n c, .int .i64 pI] w fun e w' => ∃ q cq, e = .returned (.tuple #[.slice q (mv n (st s) pg).length cq, .int .i64 0]) ∧ (mv n (st s) pg).length ≤ cq ∧ MovesIn w' q (mv n (st s) pg) ∧ Below w.heap.size w w' := by
  have hpI := hpI.out
  subst hpI
  have hsl : s.length = n := by have := hx.len; rwa [asI_len] at this
  have C := Lib.hid (fun W h => check_ok p n c s W (by omega) h hs)
  have hx1 := Lib.hid (hx.alloc (.cells #[.slice p n c] 22))
  have hB1 : Hid (Below w.heap.size w (w.alloc (.cells #[.slice p n c] 22))) := (Below.refl _ _).alloc (Nat.le_refl _) _
  have a0 : (w.alloc (.cells #[.slice p n c] 22)).heap[w.heap.size]? = some (.cells #[.slice p n c] 22 (0, 0)) := heap_alloc_new _ _
  have c0 := cell_of_one a0
  have hsz : w.heap.size < (w.alloc (.cells #[.slice p n c] 22)).heap.size := by show _ < _; simp
  replace hs := Lib.hid hs; replace hsl := Lib.hid hsl
  clear hx
  go_enter Try.func13, Try.ntmps13
  go_wp2_with fail
  generalize w.alloc (.cells #[.slice p n c] 22) = W at *
  replace a0 := Lib.hid a0
  refine (C.out _ hx1.out).mono ?_
  rintro e w' ⟨rfl, rfl⟩
  have K := Lib.hid (clone_any p n c (asI s) W (by omega) hx1.out)
  go_wp2_with (first | (go_at_call 16; refine (off_any _ _ (by omega) (by omega)).mono ?_; rintro e w' ⟨rfl, rfl⟩))
  ((with_reducible refine K.out.mono ?_))
  rintro e w1 ⟨p1, c1, rfl, hO, hB2⟩
  have d0 := (hB2.block _ hsz).trans a0.out
  have d1 := free_of_one d0
  have d2 := cell_of_one d0
  obtain ⟨hS, hB3⟩ := St.start hsz d0 hO hB2.size
  have d3 := cell_of_one hS.s0
  have d4 := cell_of_one hS.b0
  have h2n : ([] : List (Nat × Nat)).length + 2 ^ n ≤ 4096 := by
    have : 2 ^ n ≤ 2 ^ 10 := Nat.pow_le_pow_right (by omega) hn
    simp; omega
  have B := Lib.hid (bring_any w.heap.size w1.heap.size (w1.heap.size + 1) (w1.heap.size + 2) n c1 p1 hn n s [] none 0 pg _ (Nat.le_refl _) hsl hs hp h2n (Lib.hid hS) n pg rfl rfl)
  replace d0 := Lib.hid d0; replace hO := Lib.hid hO; replace hB2 := Lib.hid hB2; replace hS := Lib.hid hS; replace hB3 := Lib.hid hB3
  clear K C c0
  go_wp2_with fail
  ((with_reducible refine B.out.mono ?_))
  rintro e w4 ⟨rfl, ⟨q, cq, hS4⟩, hB4⟩
  rw [List.nil_append] at hS4
  have c0 := cell_of_one hS4.l0
  have hM := OwnM_in hS4.ownM
  have hle : (mv n (st s) pg).length ≤ cq := by
    rcases hS4.ownM.2 with ⟨hv, h0⟩ | ⟨g, cap, cur, hv, _, _, h1, _⟩
    · omega
    · injection hv with _ _ h; omega
  replace hS4 := Lib.hid hS4; replace hM := Lib.hid hM; replace hB4 := Lib.hid hB4
  clear d1 d2 d3 d4 B
  go_wp2_with fail
  go_ret2
  exact ⟨q, cq, rfl, hle, hM.out, ((hB1.out.trans (hB2.out.mono (by omega))).trans hB3.out).trans hB4.out⟩
end Go.Proofs.Ytfjlhghiadoodaa
