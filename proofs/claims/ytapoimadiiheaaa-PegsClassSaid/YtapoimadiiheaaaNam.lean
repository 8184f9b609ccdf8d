/- What (search).name computes: the board as a string; conditions: n <= 100 places, signs 0 to 2. -/
import Derived.Test.YtapoimadiiheaaaRwj
import Derived.StillTactics
import Derived.Deep.DeepCutAuto
import Derived.Deep.RegionHeld3
namespace Go.Proofs.Ytapoimadiiheaaa
open Go.RowKit Go.Maps

/-- written up to place k. -/
def bysK (s : List Nat) (k : Nat) : List Int := asI (s.take k) ++ List.replicate (s.length - k) 0
theorem bysK_len (s : List Nat) {k : Nat} (hk : k ≤ s.length) : (bysK s k).length = s.length := by unfold bysK asI; simp; omega
theorem bysK_zero (s : List Nat) : bysK s 0 = List.replicate s.length 0 := by simp [bysK, asI]
theorem bysK_all (s : List Nat) : bysK s s.length = asI s := by simp [bysK]
theorem bysK_set (s : List Nat) {k : Nat} (hk : k < s.length) : (bysK s k).set k (st s k : Int) = bysK s (k + 1) := by
  unfold bysK
  have e : s.length - k = (s.length - (k + 1)) + 1 := by omega
  have hl : (asI (s.take k)).length = k := by unfold asI; simp; omega
  rw [List.set_append_right _ _ (by rw [hl]; exact Nat.le_refl _), hl, Nat.sub_self, e, List.replicate_succ, List.set_cons_zero]
  have e2 : s.take (k + 1) = s.take k ++ [st s k] := by rw [List.take_add_one]; unfold st; rw [List.getElem?_eq_getElem hk]; rfl
  rw [e2]
  simp [asI]
theorem run_mkB (n : Nat) (hn : n ≤ 1000) (w : World) : (Instr.makeSlice 71 (.int .i64 (n : Int)) (.int .i64 (n : Int))).run Try.prog w = .ok (.slice (some ⟨w.heap.size, 0, none⟩) n n) (w.alloc (.cells (Array.replicate n (.int .u8 0)) 5)) := by
  rw [run_mkK .u8 1 Try.underlying71 (by kernel_rfl) (by omega) .i64 .i64 n n n rfl rfl (by omega) w]; simp
set_option maxHeartbeats 4000000 in
set_option maxRecDepth 100000 in
theorem name_any (n c sb : Nat) (q : Option Addr) (s : List Nat) (w : World) (hn : n ≤ 100) (hsb : sb < w.heap.size) (hcell : w.cell? ⟨sb, 0, none⟩ = some (.slice q n c)) (hx : IntsIn w q n (asI s)) (hs : ∀ j, st s j ≤ 2) :
    Calls Try.prog 30 #[.pointer (some ⟨sb, 0, none⟩)] w fun e w' => e = .returned (.string (strOfNums (asI s))) ∧ Below w.heap.size w w' := by
  have hsl : s.length = n := by have := hx.len; rwa [asI_len] at this
  have hmk := run_mkB n (by omega) w
  have f1 := heap_alloc_new w (.cells (Array.replicate n (.int .u8 0)) 5)
  have hB1 : Below w.heap.size w (w.alloc (.cells (Array.replicate n (.int .u8 0)) 5)) := (Below.refl _ _).alloc (Nat.le_refl _) _
  have d2 : (w.alloc (.cells (Array.replicate n (.int .u8 0)) 5)).cell? ⟨sb, 0, none⟩ = some (.slice q n c) := (hB1.cell (p := ⟨sb, 0, none⟩) hsb).trans hcell
  replace hB1 := Lib.hid hB1; replace f1 := Lib.hid f1; replace hsl := Lib.hid hsl; replace hs := Lib.hid hs; replace hx := Lib.hid hx
  go_enter Try.func30, Try.ntmps30
  go_upto_region 2 with fail
  generalize w.alloc (.cells (Array.replicate n (.int .u8 0)) 5) = W1 at *
  clear hmk
  have hN1 : Hid (NumsK .u8 W1 w.heap.size 5 (bysK s 0)) := by show NumsK _ _ _ _ _; rw [bysK_zero, hsl.out]; unfold NumsK; rw [f1.out]; simp
  go_wp2_with fail
  clear d2
  go_loopg [17] n (fun gk iv W' => ∃ k : Nat, k ≤ n ∧ gk = n - k ∧ iv = .int .i64 k ∧ NumsK .u8 W' w.heap.size 5 (bysK s k) ∧ Below w.heap.size w W')
  case atStart => exact ⟨0, Nat.zero_le _, rfl, rfl, hN1.out, hB1.out⟩
  case round =>
    obtain ⟨k, hkn, hgk, rfl, hNk, hBk⟩ := hrel
    obtain ⟨W2, rfl⟩ : ∃ W2 : World, W2 = wr := ⟨_, rfl⟩
    replace hgk := Lib.hid hgk
    clear hN1
    by_cases hlt : k < n
    · obtain ⟨bq, oq, rfl, hbq, hcq⟩ := (hx.out.below hBk).at (by omega)
      have dk := hcq k hlt
      rw [asI_at] at dk
      have hst2 := hs.out k
      have dN := hNk.cell (i := k) (by rw [bysK_len _ (by rw [hsl.out]; omega), hsl.out]; exact hlt)
      have dF := hNk.free k
      have hset : Hid (NumsK .u8 (W2.setCell ⟨w.heap.size, k, none⟩ (.int .u8 (st s k : Int))) w.heap.size 5 (bysK s (k + 1))) := by
        show NumsK _ _ _ _ _
        rw [← bysK_set s (by rw [hsl.out]; exact hlt)]; exact hNk.set k _
      have hB3 : Hid (Below w.heap.size w (W2.setCell ⟨w.heap.size, k, none⟩ (.int .u8 (st s k : Int)))) := hBk.setCell (p := ⟨w.heap.size, k, none⟩) (by simp) _
      have hwr : IntKind.u8.wrap (st s k : Int) = (st s k : Int) := by
        generalize st s k = v at *
        unfold IntKind.wrap; simp [IntKind.bits, IntKind.signed]; omega
      replace hNk := Lib.hid hNk; replace hBk := Lib.hid hBk
      clear hcq
      go_wp2_with fail
      have hgk := hgk.out
      go_roundg (n - (k + 1))
      case measure => omega
      case rel => exact ⟨k + 1, hlt, rfl, by go_num, by first | exact hset.out | (rw [hwr]; exact hset.out), by first | exact hB3.out | (rw [hwr]; exact hB3.out)⟩
    · have hke : k = n := by omega
      subst hke
      rw [show bysK s k = asI s by rw [← hsl.out]; exact bysK_all s] at hNk
      have hbl : (asI s).length = k := by rw [asI_len]; exact hsl.out
      have hcv1 := run_convert_bytes_arg (P := Try.prog) W2 71 5 Try.underlying71 (by kernel_rfl) w.heap.size 0 k k (asI s) hbl (fun i hi => by
        rw [Nat.zero_add, hNk.cell (i := i) (by omega)]; rfl) 9 (by kernel_rfl)
      replace hNk := Lib.hid hNk; replace hBk := Lib.hid hBk
      have hkk : ¬ (k : Int) < (k : Int) := by omega
      go_wp2_with fail
      go_ret
      exact ⟨rfl, hBk.out⟩
end Go.Proofs.Ytapoimadiiheaaa
