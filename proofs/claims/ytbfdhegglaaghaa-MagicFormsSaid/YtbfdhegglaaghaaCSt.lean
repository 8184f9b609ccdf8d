/- The boxes that the closure of magic.Count works on, and what its check of a row computes; conditions: squares of three rows. -/
import Derived.Test.YtbfdhegglaaghaaIKnd
import Derived.Test.YtbfdhegglaaghaaCPl
import Derived.Laws.EntriesVeiled
import Derived.Laws.Bits64
import Derived.Laws.BitsAllLaws
namespace Go.Proofs.Ytbfdhegglaaghaa
open Go.RowKit

set_option maxHeartbeats 1000000 in
theorem isumd (b k n c : Nat) (p : Option Addr) (l : List Int) (w : World) (hn1 : 1 ≤ n) (hn : n ≤ 12) (hk : k < n) (hx : IntsIn w p (n * n) l) (hl : ∀ x ∈ l, -1000000 ≤ x ∧ x ≤ 1000000) (hb : Box w b k) :
    Calls Try.prog 22 #[.slice p (n * n) c, .int .i64 n, .func (.func 34) #[] #[.pointer (some ⟨b, 0, none⟩)]] w fun e w' => e = .returned (.int .i64 (sumI l n 0 k n)) ∧ ∃ d, w' = w.drewN d := by
  obtain ⟨g, o, rfl, hg, hc⟩ := hx.at (Nat.mul_pos hn1 hn1)
  replace hc := Lib.hid hc; replace hl := Lib.hid hl
  have hbd := Lib.hid (sumI_bd l n 0 k hl.out)
  clear hx
  go_enter Try.func22, Try.ntmps22
  go_wp2
  go_loopg [7, 12] n (fun gk sv iv W' => ∃ i : Nat, i ≤ n ∧ gk = n - i ∧ iv = .int .i64 i ∧ sv = .int .i64 (sumI l n 0 k i) ∧ ∃ d, W' = w.drewN d)
  case atStart => exact ⟨0, by omega, by omega, rfl, rfl, 0, rfl⟩
  case round =>
    obtain ⟨i, hi, hgk, rfl, rfl, d, rfl⟩ := hrel
    replace hgk := Lib.hid hgk
    have hsb := hbd.out i
    by_cases hlt : i < n
    · obtain ⟨xm, hxm⟩ : ∃ xm, px 0 k i % n = xm := ⟨_, rfl⟩
      obtain ⟨ym, hym⟩ : ∃ ym, py 0 n k i % n = ym := ⟨_, rfl⟩
      have hX : ((i : Int)) % (n : Int) = (xm : Int) := by rw [← hxm]; exact cmod _ _ _ (by simp [px])
      have hY : ((k : Int)) % (n : Int) = (ym : Int) := by rw [← hym]; exact cmod _ _ _ (by simp [py])
      have hxn : xm < n := by rw [← hxm]; exact Nat.mod_lt _ (by omega)
      have hyn : ym < n := by rw [← hym]; exact Nat.mod_lt _ (by omega)
      obtain ⟨q, hq⟩ : ∃ q, ym * n = q := ⟨_, rfl⟩
      have hQ : (ym : Int) * n = (q : Int) := by rw [← hq]; simp
      have hq2 : q + xm < n * n := by rw [← hq]; exact place_lt hyn hxn
      have hnn : n * n ≤ 12 * 12 := Nat.mul_le_mul hn hn
      have hq144 : q + xm < 144 := by omega
      have hcell := hc.out (q + xm) hq2
      change _ = some (Value.int .i64 (ist l (q + xm))) at hcell
      have hv := ist_le (m := 1000000) (by omega) hl.out (q + xm)
      have hsu : sumI l n 0 k (i + 1) = sumI l n 0 k i + ist l (q + xm) := by
        rw [sumI_succ]; unfold place; rw [hxm, hym, hq]
      generalize sumI l n 0 k i = S at *
      generalize ist l (q + xm) = V at *
      replace hsu := Lib.hid hsu; replace hxm := Lib.hid hxm; replace hym := Lib.hid hym; replace hq := Lib.hid hq; replace hnn := Lib.hid hnn
      have hq2' : (q : Int) + xm < ((n * n : Nat) : Int) := by omega
      generalize hNN : n * n = NN at *
      replace hNN := Lib.hid hNN; replace hq2 := Lib.hid hq2
      have HL := Lib.hid (line0 b k i (w.drewN d) (by omega) (by omega) (show Box (w.drewN d) b k from hb))
      go_wp2_with fail
      refine HL.out.mono ?_
      rintro e w' ⟨rfl, d2, rfl⟩
      go_wp2_with fail
      go_quiet (fail)
      go_wp2_with fail
      have hgk := hgk.out
      go_roundg (n - (i + 1))
      case measure => omega
      case rel => exact ⟨i + 1, by omega, rfl, by go_num, by rw [hsu.out], _, rfl⟩
    · have hie : i = n := by omega
      subst hie
      go_wp2_with fail
      go_ret
      exact ⟨rfl, _, rfl⟩

/-- the boxes of Count: the side, the given numbers, the square, its box, the count, the closure itself. -/
structure Fs (H nb gb L lb mb fb g : Nat) (W : World) (l : List Int) (m : Nat) : Prop where
  n0 : W.heap[nb]? = some (.cells #[.int .i64 3] 3 (0, 0))
  g0 : W.heap[gb]? = some (.cells #[.slice (some ⟨g, 0, none⟩) 9 9] 23 (0, 0))
  r0 : W.heap[L]? = some (.cells (l.map (Value.int .i64)).toArray 3 (0, 0))
  l0 : W.heap[lb]? = some (.cells #[.slice (some ⟨L, 0, none⟩) 9 9] 23 (0, 0))
  m0 : W.heap[mb]? = some (.cells #[.int .i64 (m : Int)] 3 (0, 0))
  f0 : W.heap[fb]? = some (.cells #[.func (.func 21) #[] #[.pointer (some ⟨nb, 0, none⟩), .pointer (some ⟨lb, 0, none⟩), .pointer (some ⟨mb, 0, none⟩), .pointer (some ⟨gb, 0, none⟩), .pointer (some ⟨fb, 0, none⟩)]] 43 (0, 0))
  z : ∀ i, i < 9 → W.cell? ⟨g, i, none⟩ = some (.int .i64 0)
  o1 : H ≤ nb
  o2 : nb < gb
  o3 : gb < L
  o4 : L < lb
  o5 : lb < mb
  o6 : mb < fb
  og : g < H
  len : l.length = 9
  bd : ∀ x ∈ l, 0 ≤ x ∧ x ≤ 9
variable {H nb gb L lb mb fb g m : Nat} {W W' : World} {l : List Int}
theorem Fs.keep (h : Fs H nb gb L lb mb fb g W l m) (hb : ∀ b, b ≤ fb → W'.heap[b]? = W.heap[b]?) : Fs H nb gb L lb mb fb g W' l m := by
  have e1 := h.o1; have e2 := h.o2; have e3 := h.o3; have e4 := h.o4; have e5 := h.o5; have e6 := h.o6; have e7 := h.og
  exact ⟨(hb _ (by omega)).trans h.n0, (hb _ (by omega)).trans h.g0, (hb _ (by omega)).trans h.r0, (hb _ (by omega)).trans h.l0, (hb _ (by omega)).trans h.m0, (hb _ (by omega)).trans h.f0,
    fun i hi => (World.cell?_of_block (a := ⟨g, i, none⟩) (hb g (by omega))).trans (h.z i hi), e1, e2, e3, e4, e5, e6, e7, h.len, h.bd⟩
theorem Fs.below (h : Fs H nb gb L lb mb fb g W l m) (hB : Below W.heap.size W W') : Fs H nb gb L lb mb fb g W' l m :=
  h.keep fun b hb => hB.block b (Nat.lt_of_le_of_lt hb (lt_of_heap h.f0))
theorem Fs.drewN (h : Fs H nb gb L lb mb fb g W l m) (k : Nat) : Fs H nb gb L lb mb fb g (W.drewN k) l m := h.keep fun _ _ => rfl
theorem Fs.many (h : Fs H nb gb L lb mb fb g W l m) (k : Nat) : Fs H nb gb L lb mb fb g (W.setCell ⟨mb, 0, none⟩ (.int .i64 (k : Int))) l k ∧ Below H W (W.setCell ⟨mb, 0, none⟩ (.int .i64 (k : Int))) := by
  have e1 := h.o1; have e2 := h.o2; have e3 := h.o3; have e4 := h.o4; have e5 := h.o5; have e6 := h.o6; have e7 := h.og
  have hn : ∀ b, b ≠ mb → (W.setCell ⟨mb, 0, none⟩ (.int .i64 (k : Int))).heap[b]? = W.heap[b]? := fun b hb => wset_ne _ _ hb
  refine ⟨⟨(hn _ (by omega)).trans h.n0, (hn _ (by omega)).trans h.g0, (hn _ (by omega)).trans h.r0, (hn _ (by omega)).trans h.l0, wset (cs := #[_]) h.m0 0 _, (hn _ (by omega)).trans h.f0,
    fun i hi => (World.cell?_of_block (a := ⟨g, i, none⟩) (hn g (by omega))).trans (h.z i hi), e1, e2, e3, e4, e5, e6, e7, h.len, h.bd⟩, (Below.refl H W).setCell (p := ⟨mb, 0, none⟩) (by show H ≤ mb; omega) _⟩
theorem Fs.put (h : Fs H nb gb L lb mb fb g W l m) (i v : Nat) (hv : v ≤ 9) : Fs H nb gb L lb mb fb g (W.setCell ⟨L, i, none⟩ (.int .i64 (v : Int))) (l.set i (v : Int)) m ∧ Below H W (W.setCell ⟨L, i, none⟩ (.int .i64 (v : Int))) := by
  have e1 := h.o1; have e2 := h.o2; have e3 := h.o3; have e4 := h.o4; have e5 := h.o5; have e6 := h.o6; have e7 := h.og
  have hn : ∀ b, b ≠ L → (W.setCell ⟨L, i, none⟩ (.int .i64 (v : Int))).heap[b]? = W.heap[b]? := fun b hb => wset_ne _ _ hb
  refine ⟨⟨(hn _ (by omega)).trans h.n0, (hn _ (by omega)).trans h.g0, Nums.set h.r0 i _, (hn _ (by omega)).trans h.l0, (hn _ (by omega)).trans h.m0, (hn _ (by omega)).trans h.f0,
    fun j hj => (World.cell?_of_block (a := ⟨g, j, none⟩) (hn g (by omega))).trans (h.z j hj), e1, e2, e3, e4, e5, e6, e7, by simp [h.len], ?_⟩, (Below.refl H W).setCell (p := ⟨L, i, none⟩) (by show H ≤ L; omega) _⟩
  intro x hx
  rcases List.mem_or_eq_of_mem_set hx with hx | rfl
  · exact h.bd x hx
  · omega
theorem Fs.row (h : Fs H nb gb L lb mb fb g W l m) : IntsIn W (some ⟨L, 0, none⟩) 9 l := Nums.in h.r0 h.len
theorem Fs.lb' (h : Fs H nb gb L lb mb fb g W l m) : ∀ x ∈ l, -1000000 ≤ x ∧ x ≤ 1000000 := fun x hx => by have := h.bd x hx; omega
theorem Fs.base (h : Fs H nb gb L lb mb fb g W l m) : H ≤ W.heap.size := by
  have e1 := h.o1; have e2 := h.o2; have e3 := h.o3; have e4 := h.o4; have e5 := h.o5; have e6 := h.o6; have := lt_of_heap h.f0
  omega
/-- the check of a row. -/
theorem bad_row (l : List Int) (p : List Nat) (a : Nat) (hp : p.length = a + 1) (ha : a < 9) (hl : l.length = 9) (ht : l.take (a + 1) = asI p) (h3 : a % 3 = 2) (h0 : 0 < a / 3) :
    (sumI l 3 0 (a / 3) 3 != sumI l 3 0 0 3) = badP p := by
  have hd : l = asI p ++ l.drop (a + 1) := by rw [← ht]; exact (List.take_append_drop _ _).symm
  generalize l.drop (a + 1) = r at hd
  subst hd
  rcases (show a = 5 ∨ a = 8 by omega) with rfl | rfl
  · match p, hp with
    | [x0, x1, x2, x3, x4, x5], _ =>
      rw [Bool.eq_iff_iff]
      simp [sumI, List.range_succ, ist, place, px, py, asI, badP]
      omega
  · match p, hp with
    | [x0, x1, x2, x3, x4, x5, x6, x7, x8], _ =>
      rw [Bool.eq_iff_iff]
      simp [sumI, List.range_succ, ist, place, px, py, asI, badP]
      omega
theorem bad_not (p : List Nat) (a : Nat) (hp : p.length = a + 1) (h : ¬ (a % 3 = 2 ∧ 0 < a / 3)) : badP p = false := by
  unfold badP
  split
  · simp at hp; omega
  · simp at hp; omega
  · rfl
end Go.Proofs.Ytbfdhegglaaghaa
