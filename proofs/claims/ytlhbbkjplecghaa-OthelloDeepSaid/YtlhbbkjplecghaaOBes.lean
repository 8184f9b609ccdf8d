/- What othello.Best computes of a right board: seekS between -1000 and 1000; conditions: a board of 4 to 8 by 4 to 8 places, both even, whose signs are 0 to 2, who is 1 or 2, a depth of 0 to 6. -/
import Derived.Test.YtlhbbkjplecghaaOSek
namespace Go.Proofs.Ytlhbbkjplecghaa
open Go.RowKit

set_option maxRecDepth 20000 in
set_option maxHeartbeats 2000000 in
theorem Best_yes (q : Option Addr) (n c a b who deep f : Nat) (s : List Nat) (w : World) (h1 : 4 ≤ a) (h2 : a ≤ 8) (h3 : 4 ≤ b) (h4 : b ≤ 8) (h5 : a % 2 = 0) (h6 : b % 2 = 0) (hn : n = a * b) (hw1 : 1 ≤ who) (hw2 : who ≤ 2) (hd : deep ≤ 6) (hf : 2 * deep + 2 ≤ f) (hs : ∀ j, st s j ≤ 2) (hx : IntsIn w q n (asI s)) (uI dI : Int) (huI : Hid (uI = who)) (hdI : Hid (dI = deep)) :
    Calls Try.prog 11 #[.agg #[.int .i64 a, .int .i64 b, .slice q n c], .int .i64 uI, .int .i64 dI] w fun e' w' => e' = .returned (.tuple #[.int .i64 (seekS a b f s who deep (-1000) 1000).1, .int .i64 (seekS a b f s who deep (-1000) 1000).2, .int .i64 0]) ∧ Below w.heap.size w w' := by
  have huI := huI.out; have hdI := hdI.out
  subst huI hdI
  have hn100 : n ≤ 100 := by rw [hn]; exact Nat.mul_le_mul (show a ≤ 10 by omega) (show b ≤ 10 by omega)
  have hl : s.length = a * b := by have := hx.len; rw [asI_len] at this; omega
  have HC := check_any q n c a b who (asI s) (w.alloc (.cells #[.int .i64 a, .int .i64 b, .slice q n c] 24)) (by omega) (by omega) (by omega) (by omega) (by omega) (by omega) (by omega) (hx.alloc _)
  rw [chk_of h1 h2 h3 h4 h5 h6 hw1 hw2 hl hs] at HC
  have hB0 := Lib.hid ((Below.refl w.heap.size w).alloc (Nat.le_refl _) (.cells #[.int .i64 a, .int .i64 b, .slice q n c] 24))
  have e0 := heap_alloc_new w (.cells #[.int .i64 a, .int .i64 b, .slice q n c] 24)
  have hx0 := hx.alloc (.cells #[.int .i64 a, .int .i64 b, .slice q n c] 24)
  have hsz : w.heap.size < (w.alloc (.cells #[.int .i64 a, .int .i64 b, .slice q n c] 24)).heap.size := by simp
  have HK := Lib.hid (fun W hx => seek_any n a b (by omega) (by omega) (by omega) (by omega) hn f q c who deep s (-1000) 1000 W hw1 hw2 (by omega) (by omega) (by omega) (by omega) (by omega) (Lib.hid hs) (Lib.hid (by split <;> omega)) hx who deep (-1000) 1000 (Lib.hid rfl) (Lib.hid rfl) (Lib.hid rfl) (Lib.hid rfl))
  generalize seekS a b f s who deep (-1000) 1000 = S at *
  replace HC := Lib.hid HC; replace hl := Lib.hid hl; replace hn := Lib.hid hn; replace h5 := Lib.hid h5; replace h6 := Lib.hid h6; replace hs := Lib.hid hs
  clear hx
  go_enter Try.func11, Try.ntmps11
  go_wp2_with fail
  generalize w.alloc (.cells #[.int .i64 a, .int .i64 b, .slice q n c] 24) = W0 at *
  refine HC.out.mono ?_
  rintro e' w1 ⟨rfl, hB⟩
  have hB1 := Lib.hid (hB0.out.trans (hB.mono hB0.out.size))
  have e1 := (hB.block _ hsz).trans e0
  have HP := Lib.hid (HK.out w1 (Lib.hid (hx0.below hB)))
  have d0 : w1.cell? ⟨w.heap.size, 0, none⟩ = some (.int .i64 (a : Int)) := wcell (cs := [_, _, _]) e1 0
  have d1 : w1.cell? ⟨w.heap.size, 1, none⟩ = some (.int .i64 (b : Int)) := wcell (cs := [_, _, _]) e1 1
  have d2 : w1.cell? ⟨w.heap.size, 2, none⟩ = some (.slice q n c) := wcell (cs := [_, _, _]) e1 2
  clear hB hB0 e0 e1 hx0 hsz HC HK
  go_wp2_with fail
  refine HP.out.mono ?_
  rintro e' w2 ⟨rfl, hB⟩
  have hB2 := Lib.hid (hB1.out.trans (hB.mono hB1.out.size))
  clear hB d0 d1 d2
  go_wp2_with fail
  refine bodyPost_ret (v := .tuple #[.int .i64 S.1, .int .i64 S.2, .int .i64 0]) (by simp [results, Try.results11, go_sem]) rfl ⟨rfl, hB2.out⟩
end Go.Proofs.Ytlhbbkjplecghaa
