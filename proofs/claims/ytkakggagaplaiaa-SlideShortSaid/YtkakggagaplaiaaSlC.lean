/- What slices.Clone, slide.Can and slide.newTray compute; conditions: a board of 2 or 3 by 2 or 3 places. -/
import Derived.Test.YtkakggagaplaiaaSlQ
import Derived.Lib.LazyBuf
namespace Go.Proofs.Ytkakggagaplaiaa
open Go.RowKit

set_option maxHeartbeats 400000 in
theorem clone_any (p : Option Addr) (n c : Nat) (xs : List Int) (w : World) (hn : n < 1099511627776) (hx : IntsIn w p n xs) :
    Calls Try.prog 39 #[.slice p n c] w fun e w' => ∃ p' c', e = .returned (.slice p' n c') ∧ Own 3 w.heap.size w' p' n c' xs ∧ Below w.heap.size w w' := by
  have hl := hx.len
  have he := fun W : World => run_eql_slice_nil (P := Try.prog) W 22 3 p n c Try.underlying22
  cases p with
  | none =>
    have h0 : n = 0 := by
      rcases Nat.eq_zero_or_pos n with h | h
      · exact h
      · obtain ⟨b, o, e, _⟩ := hx.at h; cases e
    subst h0
    have hxs : Hid (xs = []) := List.eq_nil_of_length_eq_zero hl
    clear hx hl
    go_enter Try.func39, Try.ntmps39
    go_wp2
    go_ret
    exact ⟨none, 0, rfl, by rw [hxs.out]; exact Own.nil _ _ _, Below.refl _ _⟩
  | some ad =>
    have hin := Lib.hid (hx.alloc (.cells #[] 3))
    clear hx
    replace hl := Lib.hid hl
    go_enter Try.func39, Try.ntmps39
    go_wp2_with (at_builtin; refine wp_appendL intG _ rfl _ _ rfl w.heap.size _ 0 0 [] rfl (Own.empty 3 w) ad n c xs rfl hin.out (by omega) (by simp) ?_; intro p' c' w2 hO hg _ hz)
    have hB : Below w.heap.size w w2 := ((Below.refl _ w).alloc (Nat.le_refl _) _).grown hg (by simp) (fun x hx => by cases hx; exact Nat.le_refl _)
    replace hO := Lib.hid hO; replace hB := Lib.hid hB
    clear hg hz
    go_wp2
    go_ret
    exact ⟨p', c', by simp, by simpa using hO.out, hB.out⟩
set_option maxHeartbeats 2000000 in
theorem can_any (a b n c : Nat) (p : Option Addr) (l : List Nat) (w : World) (ha : 2 ≤ a) (ha3 : a ≤ 3) (hb : 2 ≤ b) (hb3 : b ≤ 3) (hn : Hid (n = a * b)) (hnc : n ≤ c) (hx : IntsIn w p n (asI l)) (hl : IsOrd n l) :
    Calls Try.prog 21 #[.agg #[.int .i64 a, .int .i64 b, .slice p n c]] w fun e w' => e = .returned (.tuple #[.bool (canS a b l), .int .i64 0]) ∧ Below w.heap.size w w' := by
  obtain ⟨R, hR⟩ : ∃ R, R = canS a b l := ⟨_, rfl⟩
  rw [← hR]
  go_enter Try.func21, Try.ntmps21
  go_upto_region 1 with fail
  have f0 := heap_alloc_new w (.cells #[.int .i64 a, .int .i64 b, .slice p n c] 39)
  have hB0 := (Below.refl w.heap.size w).alloc (Nat.le_refl _) (.cells #[.int .i64 a, .int .i64 b, .slice p n c] 39)
  have hx0 := hx.alloc (.cells #[.int .i64 a, .int .i64 b, .slice p n c] 39)
  generalize w.alloc (.cells #[.int .i64 a, .int .i64 b, .slice p n c] 39) = W0 at *
  have d0 : W0.cell? ⟨w.heap.size, 0, none⟩ = some (.int .i64 (a : Int)) := wcell (cs := [_, _, _]) f0 0
  have d1 : W0.cell? ⟨w.heap.size, 1, none⟩ = some (.int .i64 (b : Int)) := wcell (cs := [_, _, _]) f0 1
  have d2 : W0.cell? ⟨w.heap.size, 2, none⟩ = some (.slice p n c) := wcell (cs := [_, _, _]) f0 2
  have HM := Lib.hid (may_any a b n c p l W0 ha ha3 hb hb3 hn hx0 hl)
  replace hB0 := Lib.hid hB0; replace hx0 := Lib.hid hx0; replace f0 := Lib.hid f0
  clear hx
  go_wp2_with fail
  refine HM.out.mono ?_
  rintro e w1 ⟨rfl, hB1⟩
  have f1 := (Below.block hB1 _ (lt_of_heap f0.out)).trans f0.out
  have HP := Lib.hid (parity_any a b n c p l w1 ha ha3 hb hb3 hn hnc (hx0.out.below hB1) hl)
  have hB2 := Lib.hid (hB0.out.trans (hB1.mono hB0.out.size))
  clear d0 d1 d2 HM hB1 hx0 hB0 f0
  have d0 : w1.cell? ⟨w.heap.size, 0, none⟩ = some (.int .i64 (a : Int)) := wcell (cs := [_, _, _]) f1 0
  have d1 : w1.cell? ⟨w.heap.size, 1, none⟩ = some (.int .i64 (b : Int)) := wcell (cs := [_, _, _]) f1 1
  have d2 : w1.cell? ⟨w.heap.size, 2, none⟩ = some (.slice p n c) := wcell (cs := [_, _, _]) f1 2
  clear f1
  have hres : Hid (((parN a b l % 2 : Nat) : Int) = 0 ↔ R = true) := by show _ ↔ _; rw [hR]; unfold canS; simp; omega
  clear hR
  generalize parN a b l % 2 = T at *
  go_wp2_with fail
  refine HP.out.mono ?_
  rintro e w2 ⟨rfl, hB3⟩
  have hB4 := Lib.hid (hB2.out.trans (hB3.mono hB2.out.size))
  clear HP hB3 hB2 d0 d1 d2
  cases R with
  | true =>
    have hT : T = 0 := by have := hres.out.2 rfl; omega
    subst hT
    clear hres
    go_wp2_with fail
    go_ret2
    exact ⟨rfl, hB4.out⟩
  | false =>
    have hT : T ≠ 0 := fun e => by have := hres.out.1 (by omega); cases this
    have hT2 : ((T : Int) == 0) = false := by simp; omega
    clear hres
    go_wp2_with fail
    go_ret2
    exact ⟨rfl, hB4.out⟩
/-- a tray in memory: its block, its cells. -/
structure Tray (B : Nat) (W : World) (tb a b n : Nat) (q : Option Addr) (c g : Nat) (l : List Nat) : Prop where
  box : W.heap[tb]? = some (.cells #[.int .i64 (a : Int), .int .i64 (b : Int), .slice q n c, .int .i64 (g : Int)] 80 (0, 0))
  own : Own 3 B W q n c (asI l)
  low : B ≤ tb
  ne : ∀ x, q = some x → x.block ≠ tb
theorem Tray.drewN {B : Nat} {W : World} {tb a b n : Nat} {q : Option Addr} {c g : Nat} {l : List Nat} (h : Tray B W tb a b n q c g l) (k : Nat) : Tray B (W.drewN k) tb a b n q c g l := ⟨h.box, h.own, h.low, h.ne⟩
set_option maxHeartbeats 4000000 in
theorem newTray_any (a b n c : Nat) (p : Option Addr) (l : List Nat) (w : World) (hn0 : 0 < n) (hn9 : n ≤ 9) (hx : IntsIn w p n (asI l)) (hl : IsOrd n l) :
    Calls Try.prog 47 #[.agg #[.int .i64 a, .int .i64 b, .slice p n c]] w fun e w' => ∃ tb q c', e = .returned (.pointer (some ⟨tb, 0, none⟩)) ∧ Tray w.heap.size w' tb a b n q c' (ixN l 0) l ∧ Below w.heap.size w w' := by
  obtain ⟨g, hg⟩ : ∃ g, ixN l 0 = g := ⟨_, rfl⟩
  rw [hg]
  go_enter Try.func47, Try.ntmps47
  go_upto_region 1 with fail
  have f0 := heap_alloc_new w (.cells #[.int .i64 a, .int .i64 b, .slice p n c] 39)
  have hB0 := (Below.refl w.heap.size w).alloc (Nat.le_refl _) (.cells #[.int .i64 a, .int .i64 b, .slice p n c] 39)
  have hx0 := hx.alloc (.cells #[.int .i64 a, .int .i64 b, .slice p n c] 39)
  have hs0 : (w.alloc (.cells #[.int .i64 a, .int .i64 b, .slice p n c] 39)).heap.size = w.heap.size + 1 := by simp
  generalize w.alloc (.cells #[.int .i64 a, .int .i64 b, .slice p n c] 39) = W0 at *
  have d2 : W0.cell? ⟨w.heap.size, 2, none⟩ = some (.slice p n c) := wcell (cs := [_, _, _]) f0 2
  have HC := Lib.hid (clone_any p n c (asI l) W0 (by omega) hx0)
  replace hB0 := Lib.hid hB0; replace f0 := Lib.hid f0; replace hs0 := Lib.hid hs0
  clear hx hx0
  go_wp2_with fail
  refine HC.out.mono ?_
  rintro e w1 ⟨q, c1, rfl, hO, hB1⟩
  have f1 := (Below.block hB1 _ (lt_of_heap f0.out)).trans f0.out
  have fz := wfree f1 2
  have e2 : w1.cell? ⟨w.heap.size, 2, none⟩ = some (.slice p n c) := wcell (cs := [_, _, _]) f1 2
  have f2 := wset f1 2 (.slice q n c1)
  have hqb : ∀ x, q = some x → x.block ≠ w.heap.size := fun x hx => by have := (OwnC.block (k := 1) hO x hx).1; rw [hs0.out] at this; omega
  have hO2 : Own 3 W0.heap.size (w1.setCell ⟨w.heap.size, 2, none⟩ (.slice q n c1)) q n c1 (asI l) := OwnC.keep (k := 1) hO fun x hx => wset_ne _ _ (hqb x hx)
  have hB2 := Lib.hid ((hB0.out.trans (hB1.mono hB0.out.size)).setCell (p := ⟨w.heap.size, 2, none⟩) (Nat.le_refl _) (.slice q n c1))
  replace f2 := Lib.hid f2; replace hO2 := Lib.hid hO2; replace hqb := Lib.hid hqb
  clear HC hB1 f1 d2 hO hB0 f0
  go_upto_region 2 with fail
  generalize w1.setCell ⟨w.heap.size, 2, none⟩ (.slice q n c1) = W2 at *
  have f3 : W2.heap[w.heap.size]? = some (.cells #[.int .i64 (a : Int), .int .i64 (b : Int), .slice q n c1] 39 (0, 0)) := f2.out
  have d0 : W2.cell? ⟨w.heap.size, 0, none⟩ = some (.int .i64 (a : Int)) := wcell (cs := [_, _, _]) f3 0
  have d1 : W2.cell? ⟨w.heap.size, 1, none⟩ = some (.int .i64 (b : Int)) := wcell (cs := [_, _, _]) f3 1
  have d2 : W2.cell? ⟨w.heap.size, 2, none⟩ = some (.slice q n c1) := wcell (cs := [_, _, _]) f3 2
  have HX : Hid (∀ W, W2.heap = W.heap → Calls Try.prog 42 #[.slice q n c1, .int .i64 0] W fun e w' => e = .returned (.int .i64 (g : Nat)) ∧ W = w') := fun W h => by
    rw [← hg]
    exact indexP q c1 n l 0 W (by omega) (hO2.out.in.keep (by rw [h]; exact Nat.le_refl _) fun _ _ _ => by rw [h]) (hl.mem hn0)
  clear f3 e2 fz
  clear hg
  go_region_law (go_simp; refine (HX.out W2.drew rfl).mono ?_; rintro e w' ⟨rfl, rfl⟩)
  all_goals
    have hfin : Hid (Tray w.heap.size (W2.alloc (.cells #[.int .i64 (a : Int), .int .i64 (b : Int), .slice q n c1, .int .i64 (g : Int)] 80)).drew W2.heap.size a b n q c1 g l ∧ Below w.heap.size w (W2.alloc (.cells #[.int .i64 (a : Int), .int .i64 (b : Int), .slice q n c1, .int .i64 (g : Int)] 80)).drew) := by
      have hlow : w.heap.size ≤ W2.heap.size := hB2.out.size
      refine ⟨⟨heap_alloc_new W2 _, OwnC.mono (k := 1) (World.ownsRow.drew (OwnC.alloc (k := 1) hO2.out _)) (by rw [hs0.out]; omega), hlow, fun x hx => ?_⟩, (hB2.out.alloc hlow _).drew⟩
      have := (OwnC.block (k := 1) hO2.out x hx).2
      omega
    go_wp2_with fail
    go_ret
    exact ⟨_, q, c1, rfl, hfin.out.1, hfin.out.2⟩
end Go.Proofs.Ytkakggagaplaiaa
