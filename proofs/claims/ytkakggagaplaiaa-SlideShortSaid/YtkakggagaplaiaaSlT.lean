/- What gameroomkeep.tray and gameroomkeep.ints compute; conditions: 2 or 3 by 2 or 3 places, a number below the orders' count. -/
import Derived.Test.YtkakggagaplaiaaSlD
namespace Go.Proofs.Ytkakggagaplaiaa
open Go.RowKit

set_option maxHeartbeats 400000 in
theorem ints_any (p : Option Addr) (n c : Nat) (xs : List Int) (w : World) (hn0 : 0 < n) (hn : n < 1099511627776) (hx : IntsIn w p n xs) :
    Calls Try.prog 24 #[.slice p n c] w fun e w' => ∃ p' c', e = .returned (.slice p' n c') ∧ Own 3 w.heap.size w' p' n c' xs ∧ Below w.heap.size w w' := by
  obtain ⟨b, o, rfl, _, _⟩ := hx.at hn0
  have hin := Lib.hid hx
  clear hx
  go_enter Try.func24, Try.ntmps24
  go_wp2_with (at_builtin; refine wp_appendL intG _ rfl _ _ rfl w.heap.size none 0 0 [] rfl (Own.nil 3 w.heap.size w) ⟨b, o, none⟩ n c xs rfl hin.out (by omega) (by simp) ?_; intro p' c' w2 hO hg _ hz)
  have hB : Below w.heap.size w w2 := (Below.refl _ w).grown hg (by simp) (fun x hx => by cases hx)
  replace hO := Lib.hid hO; replace hB := Lib.hid hB
  clear hg hz
  go_wp2
  go_ret
  exact ⟨p', c', by simp, by simpa using hO.out, hB.out⟩
set_option maxRecDepth 20000 in
set_option maxHeartbeats 8000000 in
theorem tray_any (a b n k : Nat) (w : World) (ha : 2 ≤ a) (ha3 : a ≤ 3) (hb : 2 ≤ b) (hb3 : b ≤ 3) (hn : Hid (n = a * b)) (hk : k < fac n) :
    Calls Try.prog 20 #[.int .i64 a, .int .i64 b, .int .i64 k] w fun e w' => ∃ p c, e = .returned (.tuple #[.agg #[.int .i64 a, .int .i64 b, .slice p n c], .bool true]) ∧ Own 3 w.heap.size w' p n c (asI (nth n k)) ∧ Below w.heap.size w w' := by
  have hn9 : n ≤ 9 := by rw [hn.out]; have := Nat.mul_le_mul ha3 hb3; omega
  have hn0 : 0 < n := by rw [hn.out]; exact Nat.mul_pos (by omega) (by omega)
  have hab : (a : Int) * (b : Int) = (n : Int) := by rw [hn.out]; push_cast; rfl
  have hw : IntKind.i64.wrap (n : Int) = n := IntWalk.i64_in _ (by omega)
  go_enter Try.func20, Try.ntmps20
  go_upto_region 1 with fail
  have f0 := heap_alloc_new w (.cells #[.int .i64 0, .int .i64 0, .slice none 0 0] 39)
  have hB0 := (Below.refl w.heap.size w).alloc (Nat.le_refl _) (.cells #[.int .i64 0, .int .i64 0, .slice none 0 0] 39)
  have hs0 : (w.alloc (.cells #[.int .i64 0, .int .i64 0, .slice none 0 0] 39)).heap.size = w.heap.size + 1 := by simp
  generalize w.alloc (.cells #[.int .i64 0, .int .i64 0, .slice none 0 0] 39) = W0 at *
  have HN := Lib.hid (nth_any n k W0 (by omega) (by omega) hk)
  replace f0 := Lib.hid f0; replace hB0 := Lib.hid hB0; replace hs0 := Lib.hid hs0; replace hk := Lib.hid hk
  go_wp2_with fail
  refine HN.out.mono ?_
  rintro e w1 ⟨q, c, rfl, hO, hB1⟩
  have r1 := (Below.block hB1 _ (lt_of_heap f0.out)).trans f0.out
  have hB2 := Lib.hid (hB0.out.trans (hB1.mono (by rw [hs0.out]; omega)))
  have k0 : w1.cell? ⟨w.heap.size, 0, none⟩ = some (.int .i64 0) := wcell (cs := [_, _, _]) r1 0
  have k1 : w1.cell? ⟨w.heap.size, 1, none⟩ = some (.int .i64 0) := wcell (cs := [_, _, _]) r1 1
  have k2 : w1.cell? ⟨w.heap.size, 2, none⟩ = some (.slice none 0 0) := wcell (cs := [_, _, _]) r1 2
  have z0 := wfree r1 0
  have z1 := wfree r1 1
  have z2 := wfree r1 2
  have t0 := Lib.hid (wset (wset (wset r1 0 (.int .i64 (a : Int))) 1 (.int .i64 (b : Int))) 2 (.slice q n c))
  have hfin : Hid (Own 3 w.heap.size (((w1.setCell ⟨w.heap.size, 0, none⟩ (.int .i64 (a : Int))).setCell ⟨w.heap.size, 1, none⟩ (.int .i64 (b : Int))).setCell ⟨w.heap.size, 2, none⟩ (.slice q n c)) q n c (asI (nth n k))) := by
    refine OwnC.mono (k := 1) (OwnC.keep (k := 1) hO fun x hx => ?_) (by rw [hs0.out]; omega)
    have := (OwnC.block (k := 1) hO x hx).1
    have hne : x.block ≠ w.heap.size := by rw [hs0.out] at this; omega
    rw [wset_ne _ _ hne, wset_ne _ _ hne, wset_ne _ _ hne]
  have hB3 : Hid (Below w.heap.size w (((w1.setCell ⟨w.heap.size, 0, none⟩ (.int .i64 (a : Int))).setCell ⟨w.heap.size, 1, none⟩ (.int .i64 (b : Int))).setCell ⟨w.heap.size, 2, none⟩ (.slice q n c))) :=
    ((hB2.out.setCell (p := ⟨w.heap.size, 0, none⟩) (Nat.le_refl _) _).setCell (p := ⟨w.heap.size, 1, none⟩) (Nat.le_refl _) _).setCell (p := ⟨w.heap.size, 2, none⟩) (Nat.le_refl _) _
  clear r1 hO hB1
  go_wp2_with fail
  have u0 := Lib.hid (wcell (cs := [.int .i64 (a : Int), .int .i64 (b : Int), .slice q n c]) t0.out 0)
  have u1 := Lib.hid (wcell (cs := [.int .i64 (a : Int), .int .i64 (b : Int), .slice q n c]) t0.out 1)
  have u2 := Lib.hid (wcell (cs := [.int .i64 (a : Int), .int .i64 (b : Int), .slice q n c]) t0.out 2)
  refine bodyPost_ret (v := .tuple #[.agg #[.int .i64 (a : Int), .int .i64 (b : Int), .slice q n c], .bool true]) (by simp [results, Try.results20, go_sem, u0.out, u1.out, u2.out]) rfl ⟨q, c, rfl, hfin.out, hB3.out⟩
end Go.Proofs.Ytkakggagaplaiaa
