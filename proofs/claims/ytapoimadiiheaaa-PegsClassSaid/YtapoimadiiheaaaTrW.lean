/- What (pegs.jump).turn does; conditions: a board of the call's own, three places that hold 0 or 1. -/
import Derived.Test.YtapoimadiiheaaaTrn
namespace Go.Proofs.Ytapoimadiiheaaa
open Go.RowKit

theorem asI_set2 (s : List Nat) (i v : Nat) : asI (s.set i v) = (asI s).set i (v : Int) := by simp [asI, List.map_set]
theorem xor_flip {x : Nat} (h : x ≤ 1) : bits BinOp.xor IntKind.i64 ((x : Nat) : Int) 1 = ((1 - x : Nat) : Int) := by
  rcases (show x = 0 ∨ x = 1 by omega) with rfl | rfl <;> decide +kernel
def trnK (s : List Nat) (j : Jm) : Nat → List Nat
  | 0 => s
  | 1 => flp s j.1
  | 2 => flp (flp s j.1) j.2.1
  | _ => trnS s j
set_option maxHeartbeats 4000000 in
theorem turn_any (j : Jm) (n c B : Nat) (p : Option Addr) (s : List Nat) (w : World) (hn : n ≤ 1000) (hO : Own 3 B w p n c (asI s)) (hj : wfJ n j) (h1 : st s j.1 ≤ 1) (h2 : st s j.2.1 ≤ 1) (h3 : st s j.2.2 ≤ 1) :
    Calls Try.prog 27 #[.agg #[.int .i64 (j.1 : Int), .int .i64 (j.2.1 : Int), .int .i64 (j.2.2 : Int)], .slice p n c] w fun e w' => e = .returned (.tuple #[]) ∧ Own 3 B w' p n c (asI (trnS s j)) ∧ w.grownBy w' (p.map (·.block)) := by
  obtain ⟨f, o, t⟩ := j
  have hsl : s.length = n := by have := hO.len; rwa [asI_len] at this
  obtain ⟨w1, w2, w3, w4, w5, w6⟩ := hj
  simp only at w1 w2 w3 w4 w5 w6 h1 h2 h3
  obtain ⟨g, rfl, hgB, hgl, _⟩ := hO.where (by omega)
  have hgr0 : Hid (w.grownBy (w.alloc (.cells #[.int .i64 (f : Int), .int .i64 (o : Int), .int .i64 (t : Int)] 54)) (some g)) := grown_below ((Below.refl _ _).alloc (Nat.le_refl _) _) _
  have hO0 := Lib.hid (hO.alloc (.cells #[.int .i64 (f : Int), .int .i64 (o : Int), .int .i64 (t : Int)] 54))
  have y2 : st (flp s f) o ≤ 1 := by rw [flp_at (by rw [hsl]; exact w1), if_neg (Ne.symm w4)]; exact h2
  have y3 : st (flp (flp s f) o) t ≤ 1 := by rw [flp_at (by rw [flp_len, hsl]; exact w2), if_neg (Ne.symm w6), flp_at (by rw [hsl]; exact w1), if_neg (Ne.symm w5)]; exact h3
  have hx1 := xor_flip h1
  have hx2 := xor_flip y2
  have hx3 := xor_flip y3
  have f1 : (0 : Int) ≤ (f : Int) := by omega
  have f2 : (f : Int) < (n : Int) := by omega
  have f3 : (0 : Int) ≤ (o : Int) := by omega
  have f4 : (o : Int) < (n : Int) := by omega
  have f5 : (0 : Int) ≤ (t : Int) := by omega
  have f6 : (t : Int) < (n : Int) := by omega
  have hi0 : ∀ w, (Instr.index 69 (.agg #[.int .i64 (f : Int), .int .i64 (o : Int), .int .i64 (t : Int)]) (.int .i64 0)).run Try.prog w = .ok (.int .i64 (f : Int)) w := fun w => by kernel_rfl
  have hi1 : ∀ w, (Instr.index 69 (.agg #[.int .i64 (f : Int), .int .i64 (o : Int), .int .i64 (t : Int)]) (.int .i64 1)).run Try.prog w = .ok (.int .i64 (o : Int)) w := fun w => by kernel_rfl
  have hi2 : ∀ w, (Instr.index 69 (.agg #[.int .i64 (f : Int), .int .i64 (o : Int), .int .i64 (t : Int)]) (.int .i64 2)).run Try.prog w = .ok (.int .i64 (t : Int)) w := fun w => by kernel_rfl
  have hsl' := Lib.hid hsl
  clear hO hsl
  go_enter Try.func27, Try.ntmps27
  go_wp2_with fail
  go_loopg [13] 3 (fun gk iv W' => ∃ k : Nat, k ≤ 3 ∧ gk = 3 - k ∧ iv = .int .i64 k ∧ Own 3 B W' (some ⟨g, 0, none⟩) n c (asI (trnK s (f, o, t) k)) ∧ w.grownBy W' (some g))
  case atStart => exact ⟨0, by omega, rfl, rfl, hO0.out, hgr0.out⟩
  case round =>
    obtain ⟨k, hk, hgk, rfl, hOk, hgr⟩ := hrel
    obtain ⟨W1, rfl⟩ : ∃ W1 : World, W1 = wr := ⟨_, rfl⟩
    replace hgk := Lib.hid hgk
    clear hO0 hgr0
    rcases (show k = 0 ∨ k = 1 ∨ k = 2 ∨ k = 3 by omega) with rfl | rfl | rfl | rfl
    · have d := Own.cell hOk w1
      rw [asI_at] at d
      replace d : W1.cell? ⟨g, f, none⟩ = some (.int .i64 ((st s f : Nat) : Int)) := d
      have fr := Own.free hOk f
      have hs := Own.set hOk f ((1 - st s f : Nat) : Int)
      rw [← asI_set2] at hs
      replace hs := Lib.hid hs
      have hg2 := Lib.hid (grown_set hgr f (.int .i64 ((1 - st s f : Nat) : Int)))
      replace hOk := Lib.hid hOk; replace hgr := Lib.hid hgr
      go_wp2_with fail
      have hgk := hgk.out
      go_roundg 2
      case measure => omega
      case rel => exact ⟨1, by omega, rfl, by go_num, hs.out, hg2.out⟩
    · have d := Own.cell hOk w2
      rw [asI_at] at d
      replace d : W1.cell? ⟨g, o, none⟩ = some (.int .i64 ((st (flp s f) o : Nat) : Int)) := d
      have fr := Own.free hOk o
      have hs := Own.set hOk o ((1 - st (flp s f) o : Nat) : Int)
      rw [← asI_set2] at hs
      replace hs := Lib.hid hs
      have hg2 := Lib.hid (grown_set hgr o (.int .i64 ((1 - st (flp s f) o : Nat) : Int)))
      replace hOk := Lib.hid hOk; replace hgr := Lib.hid hgr
      go_wp2_with fail
      have hgk := hgk.out
      go_roundg 1
      case measure => omega
      case rel => exact ⟨2, by omega, rfl, by go_num, hs.out, hg2.out⟩
    · have d := Own.cell hOk w3
      rw [asI_at] at d
      replace d : W1.cell? ⟨g, t, none⟩ = some (.int .i64 ((st (flp (flp s f) o) t : Nat) : Int)) := d
      have fr := Own.free hOk t
      have hs := Own.set hOk t ((1 - st (flp (flp s f) o) t : Nat) : Int)
      rw [← asI_set2] at hs
      replace hs := Lib.hid hs
      have hg2 := Lib.hid (grown_set hgr t (.int .i64 ((1 - st (flp (flp s f) o) t : Nat) : Int)))
      replace hOk := Lib.hid hOk; replace hgr := Lib.hid hgr
      go_wp2_with fail
      have hgk := hgk.out
      go_roundg 0
      case measure => omega
      case rel => exact ⟨3, by omega, rfl, by go_num, hs.out, hg2.out⟩
    · replace hOk := Lib.hid hOk; replace hgr := Lib.hid hgr
      go_wp2_with fail
      go_end0
      exact ⟨rfl, hOk.out, hgr.out⟩
end Go.Proofs.Ytapoimadiiheaaa
