/- The play's block, and what at, next, dirs and last compute; conditions: the block lies as Py tells, places are 1 to 32 and directions 0 to 3. -/
import Derived.Test.YtelhpfhnmnaefaaNl
import Derived.Test.YtelhpfhnmnaefaaDrQ
import Derived.IntWalk
import Derived.Laws.BitsLemmas
import Derived.Deep.DeepCutAuto
namespace Go.Proofs.Ytelhpfhnmnaefaa
open Go.RowKit

theorem elRow : ElT Try.prog 29 22 (.slice none 0 0) 1 24 := ⟨Try.underlying29, by kernel_rfl, rfl, by omega, by omega⟩

/-- the play's block: its board, its side, and the ways that are told so far. -/
structure Py (pb g cb B : Nat) (b : List Int) (s : Int) (q : Option Addr) (c : Nat) (L : List (List Int)) (W : World) : Prop where
  hd : W.heap[pb]? = some (.cells #[.slice (some ⟨g, 0, none⟩) 33 cb, .int .i64 s, .slice q L.length c] 41 (0, 0))
  bd : IntsIn W (some ⟨g, 0, none⟩) 33 b
  rw : OwnRows 22 B W q L.length c L
  ne : pb < B ∧ g < B ∧ pb ≠ g
  sz : B ≤ W.heap.size
  sg : s = 1 ∨ s = -1
  bv : ∀ p : Nat, -2 ≤ b[p]?.getD 0 ∧ b[p]?.getD 0 ≤ 2
section
variable {pb g cb B : Nat} {b : List Int} {s : Int} {q : Option Addr} {c : Nat} {L : List (List Int)} {W W' : World}
theorem Py.c0 (h : Py pb g cb B b s q c L W) : W.cell? ⟨pb, 0, none⟩ = some (.slice (some ⟨g, 0, none⟩) 33 cb) := wcell (cs := [_, _, _]) h.hd 0
theorem Py.c1 (h : Py pb g cb B b s q c L W) : W.cell? ⟨pb, 1, none⟩ = some (.int .i64 s) := wcell (cs := [_, _, _]) h.hd 1
theorem Py.c2 (h : Py pb g cb B b s q c L W) : W.cell? ⟨pb, 2, none⟩ = some (.slice q L.length c) := wcell (cs := [_, _, _]) h.hd 2
theorem Py.f2 (h : Py pb g cb B b s q c L W) : W.frozen? ⟨pb, 2, none⟩ = false := wfree h.hd 2
theorem Py.cb' (h : Py pb g cb B b s q c L W) {p : Nat} (hp : p ≤ 32) : W.cell? ⟨g, p, none⟩ = some (.int .i64 (b[p]?.getD 0)) := by
  obtain ⟨b', o', e, _, hc⟩ := h.bd.at (by omega)
  cases e
  rw [← hc p (by omega), Nat.zero_add]
theorem Py.below (h : Py pb g cb B b s q c L W) (hb : Below W.heap.size W W') : Py pb g cb B b s q c L W' :=
  ⟨(hb.block _ (lt_of_heap h.hd)).trans h.hd, h.bd.below hb, h.rw.keep hb, h.ne, Nat.le_trans h.sz hb.size, h.sg, h.bv⟩
end
theorem atS_bd {b : List Int} {s : Int} (hs : s = 1 ∨ s = -1) (hv : ∀ p : Nat, -2 ≤ b[p]?.getD 0 ∧ b[p]?.getD 0 ≤ 2) (p : Nat) : -2 ≤ atS b s p ∧ atS b s p ≤ 2 := by
  unfold atS
  have := hv p
  rcases hs with rfl | rfl <;> omega

set_option maxHeartbeats 1000000 in
theorem at_any (pb g cb B : Nat) (b : List Int) (s : Int) (q : Option Addr) (c : Nat) (L : List (List Int)) (W : World) (h : Py pb g cb B b s q c L W) (p : Nat) (hp : p ≤ 32) :
    Calls Try.prog 14 #[.pointer (some ⟨pb, 0, none⟩), .int .i64 p] W fun e W' => e = .returned (.int .i64 (atS b s p)) ∧ Below W.heap.size W W' := by
  have c0 := h.c0
  have c1 := h.c1
  have c2 := h.cb' hp
  have hb := atS_bd h.sg h.bv p
  unfold atS at hb ⊢
  clear h
  generalize b[p]?.getD 0 = v at *
  obtain ⟨r, hr⟩ : ∃ r, s * v = r := ⟨_, rfl⟩
  rw [hr] at hb ⊢
  go_enter Try.func14, Try.ntmps14
  go_wp2_with fail
  go_quiet (fail)
  go_wp2_with fail
  go_ret
  exact ⟨rfl, below_drewN (Below.refl _ _) _⟩

set_option maxHeartbeats 1000000 in
theorem last_any (pb g cb B : Nat) (b : List Int) (s : Int) (q : Option Addr) (c : Nat) (L : List (List Int)) (W : World) (h : Py pb g cb B b s q c L W) (p : Nat) (hp : p ≤ 32) :
    Calls Try.prog 23 #[.pointer (some ⟨pb, 0, none⟩), .int .i64 p] W fun e W' => e = .returned (.bool (lastS s p)) ∧ W = W' := by
  have c1 := h.c1
  have hs := h.sg
  clear h
  rcases hs with rfl | rfl
  · have e : Hid (lastS 1 p = decide (p ≤ 4)) := rfl
    by_cases h4 : p ≤ 4
    · have hi : (p : Int) ≤ 4 := by omega
      have e2 : Hid (lastS 1 p = true) := e.out.trans (decide_eq_true h4)
      go_enter Try.func23, Try.ntmps23
      go_wp2_with fail
      go_ret
      exact ⟨ret_bool (by rw [e2.out]), rfl⟩
    · have hi : ¬ (p : Int) ≤ 4 := by omega
      have e2 : Hid (lastS 1 p = false) := e.out.trans (decide_eq_false h4)
      go_enter Try.func23, Try.ntmps23
      go_wp2_with fail
      go_ret
      exact ⟨ret_bool (by rw [e2.out]), rfl⟩
  · have e : Hid (lastS (-1) p = decide (29 ≤ p)) := rfl
    by_cases h4 : 29 ≤ p
    · have hi : 29 ≤ (p : Int) := by omega
      have e2 : Hid (lastS (-1) p = true) := e.out.trans (decide_eq_true h4)
      go_enter Try.func23, Try.ntmps23
      go_wp2_with fail
      go_ret
      exact ⟨ret_bool (by rw [e2.out]), rfl⟩
    · have hi : ¬ 29 ≤ (p : Int) := by omega
      have e2 : Hid (lastS (-1) p = false) := e.out.trans (decide_eq_false h4)
      go_enter Try.func23, Try.ntmps23
      go_wp2_with fail
      go_ret
      exact ⟨ret_bool (by rw [e2.out]), rfl⟩

set_option maxHeartbeats 1000000 in
theorem dirs_any (pb g cb B : Nat) (b : List Int) (s : Int) (q : Option Addr) (c : Nat) (L : List (List Int)) (W : World) (h : Py pb g cb B b s q c L W) (piece : Int) :
    Calls Try.prog 16 #[.pointer (some ⟨pb, 0, none⟩), .int .i64 piece] W fun e W' => (∃ a cc, e = .returned (.slice (some a) (dirsS piece s).length cc) ∧ IntsIn W' (some a) (dirsS piece s).length (asI (dirsS piece s)) ∧ W.heap.size ≤ a.block ∧ a.block < W'.heap.size) ∧ Below W.heap.size W W' := by
  have c1 := h.c1
  have hs := h.sg
  clear h
  by_cases h2 : piece = 2
  · have hz : (piece == 2) = true := by simp [h2]
    have e : Hid (dirsS piece s = [0, 1, 2, 3]) := if_pos h2
    replace h2 := Lib.hid h2
    go_enter Try.func16, Try.ntmps16
    go_wp2_with fail
    go_ret
    rw [e.out]
    exact ⟨⟨_, _, rfl, IntsIn.new W _ 3 _ 4 _ rfl (by simp [asI]) rfl, Nat.le_refl _, by simp⟩, (Below.refl _ _).alloc (Nat.le_refl _) _⟩
  · have hz : (piece == 2) = false := by simp [h2]
    rcases hs with rfl | rfl
    · have e : Hid (dirsS piece 1 = [0, 1]) := by show _ = _; unfold dirsS; rw [if_neg h2]; rfl
      replace h2 := Lib.hid h2
      go_enter Try.func16, Try.ntmps16
      go_wp2_with fail
      go_ret
      rw [e.out]
      exact ⟨⟨_, _, rfl, IntsIn.new W _ 3 _ 2 _ rfl (by simp [asI]) rfl, Nat.le_refl _, by simp⟩, (Below.refl _ _).alloc (Nat.le_refl _) _⟩
    · have e : Hid (dirsS piece (-1) = [2, 3]) := by show _ = _; unfold dirsS; rw [if_neg h2]; rfl
      replace h2 := Lib.hid h2
      go_enter Try.func16, Try.ntmps16
      go_wp2_with fail
      go_ret
      rw [e.out]
      exact ⟨⟨_, _, rfl, IntsIn.new W _ 3 _ 2 _ rfl (by simp [asI]) rfl, Nat.le_refl _, by simp⟩, (Below.refl _ _).alloc (Nat.le_refl _) _⟩

theorem and_one (n : Nat) : bits .and .i64 (n : Int) 1 = ((n % 2 : Nat) : Int) := by
  have h1 : (BitVec.ofInt 64 1).toNat = 2 ^ 1 - 1 := by decide
  have key : (BitVec.ofInt 64 (n : Int) &&& BitVec.ofInt 64 1).toNat = ((n : Int) % ((2 ^ 64 : Nat) : Int)).toNat % 2 ^ 1 := by
    rw [BitVec.toNat_and, BitVec.toNat_ofInt, h1, Nat.and_two_pow_sub_one_eq_mod]
  show IntKind.i64.wrap ((BitVec.ofInt 64 (n : Int) &&& BitVec.ofInt 64 1).toNat : Nat) = _
  rw [key, IntKind.wrap_i64]
  omega

set_option maxHeartbeats 2000000 in
theorem next_any (p d : Nat) (h1 : 1 ≤ p) (h2 : p ≤ 32) (hd : d < 4) (W : World) :
    Calls Try.prog 17 #[.int .i64 p, .int .i64 d] W fun e W' => e = .returned (.int .i64 (nxt p d : Nat)) ∧ W = W' := by
  obtain ⟨q, rfl⟩ : ∃ q, p = q + 1 := ⟨p - 1, by omega⟩
  obtain ⟨y, hy⟩ : ∃ y, q / 4 = y := ⟨_, rfl⟩
  obtain ⟨r, hr⟩ : ∃ r, q % 4 = r := ⟨_, rfl⟩
  obtain ⟨e, he⟩ : ∃ e, y % 2 = e := ⟨_, rfl⟩
  have ep : ((q + 1 : Nat) : Int) - 1 = q := by omega
  have ey : (q : Int) / 4 = y := by omega
  have er : (q : Int) % 4 = r := by omega
  have ha := and_one y
  rw [he] at ha
  have hyb : y ≤ 7 := by omega
  have hrb : r ≤ 3 := by omega
  have heb : e ≤ 1 := by omega
  have a0 : bits .and .i64 0 1 = 0 := by decide
  have a1 : bits .and .i64 1 1 = 1 := by decide
  have a2 : bits .and .i64 2 1 = 0 := by decide
  have a3 : bits .and .i64 3 1 = 1 := by decide
  have hn : Hid (∀ u v : Int, 2 * ((d : Int) % 2) - 1 = u → 2 * ((d : Int) / 2) - 1 = v → ((nxt (q + 1) d : Nat) : Int) = if 2 * (r : Int) + 1 - e + u < 0 ∨ 7 < 2 * (r : Int) + 1 - e + u ∨ (y : Int) + v < 0 ∨ 7 < (y : Int) + v then 0 else 4 * ((y : Int) + v) + (2 * (r : Int) + 1 - e + u) / 2 + 1) := by
    show ∀ u v : Int, _
    intro u v hu hv
    unfold nxt
    have ee : ((y : Nat) : Int) % 2 = e := by omega
    simp only [ep, ey, er, ee, hu, hv]
    split
    · rfl
    · rename_i hc
      simp only [not_or, Int.not_lt] at hc
      omega
  replace hy := Lib.hid hy; replace hr := Lib.hid hr; replace he := Lib.hid he
  rcases (show d = 0 ∨ d = 1 ∨ d = 2 ∨ d = 3 by omega) with rfl | rfl | rfl | rfl
  · have hn2 := Lib.hid (hn.out (-1) (-1) (by decide) (by decide))
    clear hn
    generalize nxt (q + 1) 0 = N at *
    go_enter Try.func17, Try.ntmps17
    go_wp2_with fail
    all_goals
      go_ret
      refine ⟨ret_int ?_, rfl⟩
      have := hn2.out
      split at this <;> omega
  · have hn2 := Lib.hid (hn.out 1 (-1) (by decide) (by decide))
    clear hn
    generalize nxt (q + 1) 1 = N at *
    go_enter Try.func17, Try.ntmps17
    go_wp2_with fail
    all_goals
      go_ret
      refine ⟨ret_int ?_, rfl⟩
      have := hn2.out
      split at this <;> omega
  · have hn2 := Lib.hid (hn.out (-1) 1 (by decide) (by decide))
    clear hn
    generalize nxt (q + 1) 2 = N at *
    go_enter Try.func17, Try.ntmps17
    go_wp2_with fail
    all_goals
      go_ret
      refine ⟨ret_int ?_, rfl⟩
      have := hn2.out
      split at this <;> omega
  · have hn2 := Lib.hid (hn.out 1 1 (by decide) (by decide))
    clear hn
    generalize nxt (q + 1) 3 = N at *
    go_enter Try.func17, Try.ntmps17
    go_wp2_with fail
    all_goals
      go_ret
      refine ⟨ret_int ?_, rfl⟩
      have := hn2.out
      split at this <;> omega
end Go.Proofs.Ytelhpfhnmnaefaa
