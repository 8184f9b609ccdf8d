/- The column of a picture; conditions: at most twenty rows. -/
import Derived.Test.YtkklcfaghnfleaaNPc
namespace Go.Proofs.Ytkklcfaghnfleaa
open Go.RowKit

theorem colL_succ (j : Nat) (c : Pic) (x : Nat) : colL (j + 1) c x = colL j c x ++ [c j x] := by
  unfold colL; rw [List.range_succ, List.map_append]; rfl
set_option maxRecDepth 20000 in
set_option maxHeartbeats 2000000 in
theorem column_any {B : Nat} {w : World} {pb n m : Nat} {rq : Option Addr} {rc : Nat} {cq : Option Addr} {cc cb kc : Nat} {g kp : Nat → Nat} {c : Pic} (h : Pc B w pb n m rq rc cq cc cb kc g kp c) (x : Nat) (hx : x < m) (hn : n ≤ 20) :
    Calls Try.prog 34 #[.pointer (some ⟨pb, 0, none⟩), .int .i64 x] w fun e W' => ∃ q k, e = .returned (.slice q n k) ∧ Own 3 w.heap.size W' q n k (colL n c x) ∧ Below w.heap.size w W' := by
  have HP := Lib.hid (fun W' (hb : Below w.heap.size w W') => h.below hb (Nat.le_refl _))
  have k2 := h.k2
  clear h
  go_enter Try.func34, Try.ntmps34
  go_wp2_with fail
  go_loopg [5, 13] n (fun gk lv jv W' => ∃ (j c' : Nat) (p : Option Addr), j ≤ n ∧ gk = n - j ∧ jv = .int .i64 j ∧ lv = .slice p j c' ∧ Own 3 w.heap.size W' p j c' (colL j c x) ∧ Below w.heap.size w W')
  case atStart => exact ⟨0, 0, none, by omega, by omega, rfl, rfl, Own.nil _ _ _, Below.refl _ _⟩
  case round =>
    obtain ⟨j, c', p, hj, hgk, rfl, rfl, hO, hBr⟩ := hrel
    obtain ⟨W1, rfl⟩ : ∃ W1 : World, W1 = wr := ⟨_, rfl⟩
    replace hgk := Lib.hid hgk
    rcases Nat.lt_or_ge j n with hlt | hge
    · have hP1 := HP.out W1 hBr
      have a1 := hP1.at hlt
      have a2 := hP1.cell hlt hx
      have a3 := hP1.cap hlt
      have hs := Lib.hid (colL_succ j c x)
      have hz9 := hBr.size
      clear hP1
      generalize c j x = v at *
      generalize g j = gj at *
      generalize kp j = kj at *
      replace hO := Lib.hid hO; replace hBr := Lib.hid hBr
      go_wp2_with (at_builtin; refine wp_append1 intG W1 rfl (.tmp 17) (.tmp 22) rfl w.heap.size p j c' _ rfl hO.out v rfl ?_ hz9 ?_; (omega); intro p6 c6 w6 hO7 hg6 hr6 hz6)
      have hB7 := Lib.hid (hBr.out.grown hg6 hz9 (fun x hx => by
        cases p with
        | none => cases hx
        | some y => simp at hx; subst hx; exact (hO.out.block y rfl).1))
      rw [← hs.out] at hO7
      replace hO7 := Lib.hid hO7
      clear hg6 hr6 hz6
      go_wp2_with fail
      have hgk := hgk.out
      go_roundg (n - (j + 1))
      case measure => omega
      case rel => exact ⟨j + 1, c6, p6, by omega, rfl, by go_num, rfl, hO7.out, hB7.out⟩
    · obtain rfl : j = n := by omega
      replace hO := Lib.hid hO; replace hBr := Lib.hid hBr
      go_wp2_with fail
      go_ret
      exact ⟨p, c', rfl, hO.out, hBr.out⟩
end Go.Proofs.Ytkklcfaghnfleaa
