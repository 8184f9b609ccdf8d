/- What tour.at computes: the field, if all places lie on the board; conditions: a board of 1 to 8 by 1 to 8, the table of leaps as the program lays it. -/
import Derived.Test.YtebgliipeaelhaaDoorNew
namespace Go.Proofs.YtebgliipeaelhaaDoor
open Go.RowKit

theorem has_any (p : Option Addr) (n c v : Nat) (w : World) (hv : v < n) : Calls Tryd.prog 22 #[.slice p n c, .int .i64 v] w fun r w' => r = .returned (.bool true) ∧ w = w' := by
  have h1 : decide ((v : Int) ≥ 0) = true := by simp
  have h2 : decide ((v : Int) < (n : Int)) = true := by simp; omega
  go_enter Tryd.func22, Tryd.ntmps22
  go_wp2
  go_ret
  exact ⟨rfl, rfl⟩

set_option maxRecDepth 100000 in
set_option maxHeartbeats 2000000 in
theorem at_any (a b : Nat) (p : Option Addr) (n c : Nat) (ps : List Nat) (w : World) (ha1 : 1 ≤ a) (ha : a ≤ 8) (hb1 : 1 ≤ b) (hb : b ≤ 8) (hL : Lps w) (hn : n ≤ 1000) (hp : IntsIn w p n (asI ps)) (hps : ∀ q ∈ ps, q < a * b) :
    Calls Tryd.prog 11 #[.int .i64 a, .int .i64 b, .slice p n c] w fun r w' => ∃ g, r = .returned (.tuple #[.slice (some ⟨g, 0, none⟩) (a * b) (a * b), .int .i64 0]) ∧ w.heap.size ≤ g ∧ FieldIn w' g a b ∧ Below w.heap.size w w' := by
  have H := newField_any a b w ha1 ha hb1 hb hL
  have hn64 : a * b ≤ 64 := Nat.mul_le_mul ha hb
  obtain ⟨N, hN⟩ : ∃ N, N = a * b := ⟨_, rfl⟩
  rw [← hN] at hn64 hps H ⊢
  have hlen := Lib.hid hp.len
  replace hps := Lib.hid hps; replace hp := Lib.hid hp; replace hN := Lib.hid hN
  clear hL ha1 ha hb1 hb
  go_enter Tryd.func11, Tryd.ntmps11
  go_wp2_with (go_at_call 21; with_reducible refine H.mono ?_; rintro r W ⟨g, rfl, hg, hF, hB⟩)
  have hin := Lib.hid (hp.out.below hB)
  clear hp
  replace hF := Lib.hid hF; replace hB := Lib.hid hB
  obtain ⟨W0, rfl⟩ : ∃ W0 : World, W0 = W := ⟨_, rfl⟩
  go_wp2
  go_loopg [9, 20] n (fun gk ev jv w1 => ∃ j : Nat, j ≤ n ∧ gk = n - j ∧ jv = .int .i64 j ∧ ev = .int .i64 0 ∧ W0 = w1)
  case atStart => exact ⟨0, by omega, by omega, rfl, rfl, rfl⟩
  case round =>
    obtain ⟨j, hj, hgk, rfl, rfl, rfl⟩ := hrel
    replace hgk := Lib.hid hgk
    by_cases hlt : j < n
    · obtain ⟨bb, o, rfl, _, hc⟩ := hin.out.at (by omega)
      have hcj := hc j hlt
      have hjl : j < ps.length := by have := hlen.out; rw [asI_len] at this; omega
      rw [asI_at ps j] at hcj
      have hq : st ps j < N := by unfold st; rw [List.getElem?_eq_getElem hjl]; exact hps.out _ (List.getElem_mem hjl)
      generalize st ps j = v at *
      clear hc hjl
      have HH := has_any (some ⟨g, 0, none⟩) N N v W0 hq
      go_wp2_with (go_at_call 22; with_reducible refine HH.mono ?_; rintro r w2 ⟨rfl, rfl⟩)
      have hgk := hgk.out
      go_roundg (n - (j + 1))
      case measure => omega
      case rel => exact ⟨j + 1, by omega, rfl, by go_num, rfl, rfl⟩
    · go_wp2
      go_ret2
      exact ⟨g, rfl, hg, hF.out, hB.out⟩
end Go.Proofs.YtebgliipeaelhaaDoor
