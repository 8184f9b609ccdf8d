/- What (pegs.jump).move and gameroomkeep.count compute; conditions: a board of at most 1000 places. -/
import Derived.Test.YtapoimadiiheaaaTrW
namespace Go.Proofs.Ytapoimadiiheaaa
open Go.RowKit

set_option maxHeartbeats 2000000 in
theorem move_any (f o t : Nat) (w : World) : Calls Try.prog 21 #[.agg #[.int .i64 (f : Int), .int .i64 (o : Int), .int .i64 (t : Int)]] w fun e w' => e = .returned (.agg #[.int .i64 (f : Int), .int .i64 (t : Int), .int .i64 0]) ∧ Below w.heap.size w w' := by
  have hB := Lib.hid (below2 w (.cells #[.int .i64 (f : Int), .int .i64 (o : Int), .int .i64 (t : Int)] 54) (.cells #[.int .i64 (f : Int), .int .i64 (t : Int), .int .i64 0] 32))
  obtain ⟨h1, h2⟩ := heap2 w (.cells #[.int .i64 (f : Int), .int .i64 (o : Int), .int .i64 (t : Int)] 54) (.cells #[.int .i64 (f : Int), .int .i64 (t : Int), .int .i64 0] 32)
  have u0 := Lib.hid (wcell (cs := [_, _, _]) h2 0)
  have u1 := Lib.hid (wcell (cs := [_, _, _]) h2 1)
  have u2 := Lib.hid (wcell (cs := [_, _, _]) h2 2)
  clear h1 h2
  go_enter Try.func21, Try.ntmps21
  go_wp2_with fail
  refine bodyPost_ret (v := .agg #[.int .i64 (f : Int), .int .i64 (t : Int), .int .i64 0]) (by simp [results, Try.results21, go_sem, u0.out, u1.out, u2.out]) rfl ⟨rfl, hB.out⟩
set_option maxHeartbeats 2000000 in
theorem count_any (A H : Int) (n c : Nat) (q : Option Addr) (s : List Nat) (v : Nat) (w : World) (hn : n ≤ 1000) (hx : IntsIn w q n (asI s)) :
    Calls Try.prog 9 #[.agg #[.int .i64 A, .int .i64 H, .slice q n c], .int .i64 (v : Int)] w fun e w' => e = .returned (.int .i64 ((s.countP (· == v) : Nat) : Int)) ∧ Below w.heap.size w w' := by
  have hsl : s.length = n := by have := hx.len; rwa [asI_len] at this
  have e0 := heap_alloc_new w (.cells #[.int .i64 A, .int .i64 H, .slice q n c] 24)
  have hB0 := Lib.hid ((Below.refl w.heap.size w).alloc (Nat.le_refl _) (.cells #[.int .i64 A, .int .i64 H, .slice q n c] 24))
  have d2 : (w.alloc (.cells #[.int .i64 A, .int .i64 H, .slice q n c] 24)).cell? ⟨w.heap.size, 2, none⟩ = some (.slice q n c) := wcell (cs := [_, _, _]) e0 2
  have hx0 := Lib.hid (hx.alloc (.cells #[.int .i64 A, .int .i64 H, .slice q n c] 24))
  have hall : Hid (cntV s v n = s.countP (· == v)) := by show _ = _; unfold cntV; rw [← hsl, List.take_length]
  replace hsl := Lib.hid hsl
  clear hx e0
  go_enter Try.func9, Try.ntmps9
  go_wp2_with fail
  go_loopg [5, 6] n (fun gk cv iv W' => ∃ k : Nat, k ≤ n ∧ gk = n - k ∧ iv = .int .i64 k ∧ cv = .int .i64 (cntV s v k : Nat) ∧ w.alloc (.cells #[.int .i64 A, .int .i64 H, .slice q n c] 24) = W')
  case atStart => exact ⟨0, Nat.zero_le _, rfl, rfl, by simp [cntV], rfl⟩
  case round =>
    obtain ⟨k, hk, hgk, rfl, rfl, rfl⟩ := hrel
    replace hgk := Lib.hid hgk
    have hle := cntV_le s v k
    by_cases hlt : k < n
    · obtain ⟨b, o, rfl, _, hc⟩ := hx0.out.at (by omega)
      have dk := hc k hlt
      rw [asI_at] at dk
      have hs2 : Hid (cntV s v (k + 1) = cntV s v k + if st s k = v then 1 else 0) := cntV_succ (by rw [hsl.out]; exact hlt)
      clear hc
      generalize cntV s v k = cn at *
      obtain ⟨x, hxe⟩ : ∃ x, x = st s k := ⟨_, rfl⟩
      rw [← hxe] at dk hs2
      replace hxe := Lib.hid hxe
      by_cases hxv : x = v
      · have hs3 : Hid (cntV s v (k + 1) = cn + 1) := by show _ = _; rw [hs2.out, if_pos hxv]
        subst hxv
        go_wp2_with fail
        have hgk := hgk.out
        go_roundg (n - (k + 1))
        case measure => omega
        case rel => exact ⟨k + 1, hlt, rfl, by go_num, by rw [hs3.out]; go_num, rfl⟩
      · have hs3 : Hid (cntV s v (k + 1) = cn) := by show _ = _; rw [hs2.out, if_neg hxv, Nat.add_zero]
        have hxi : ¬ (x : Int) = (v : Int) := by omega
        go_wp2_with fail
        have hgk := hgk.out
        go_roundg (n - (k + 1))
        case measure => omega
        case rel => exact ⟨k + 1, hlt, rfl, by go_num, by rw [hs3.out], rfl⟩
    · have hke : k = n := by omega
      subst hke
      have hkk : ¬ (k : Int) < (k : Int) := by omega
      go_wp2_with fail
      go_ret
      refine ⟨?_, hB0.out⟩
      show Ending.returned (.int .i64 ((cntV s v k : Nat) : Int)) = _
      rw [hall.out]
end Go.Proofs.Ytapoimadiiheaaa
