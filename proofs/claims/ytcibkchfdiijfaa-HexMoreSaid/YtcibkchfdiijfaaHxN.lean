/- hex.near: what its iterator hands out; conditions: a board of 1 to 10 by as many, a place of it. -/
import Derived.RangeFuncBox
import Derived.RangeFuncLeaves
import Derived.Shelf.Abstract
import Derived.WalkKit
import Derived.OwnWalkIn
import Derived.TacticsInMore
import Derived.LoopNIn
import Derived.LoopIn
import Derived.BigQuiet
import Derived.Deep.Cut
import Derived.Deep.DeepCutAuto
import Derived.Deep.RegionLaw
import Derived.Deep.RegionHeld3
import Derived.Lib.Hide
import Derived.Test.YtcibkchfdiijfaaGrd
namespace Go.Proofs.Ytcibkchfdiijfaa
open Go.RowKit Go.Shelf

def dx6 : Nat → Int | 0 => -1 | 1 => 1 | 2 => 0 | 3 => 1 | 4 => -1 | _ => 0
def dy6 : Nat → Int | 0 => 0 | 1 => 0 | 2 => -1 | 3 => -1 | 4 => 1 | _ => 1
/-- the neighbours in the first k directions. -/
def upN (n x y : Nat) : Nat → List Nat
  | 0 => []
  | k + 1 => upN n x y k ++ if 0 ≤ (x : Int) + dx6 k ∧ (x : Int) + dx6 k < n ∧ 0 ≤ (y : Int) + dy6 k ∧ (y : Int) + dy6 k < n then [(((y : Int) + dy6 k) * n + ((x : Int) + dx6 k)).toNat] else []
theorem upN_mono {n x y z : Nat} (k : Nat) (hk : k ≤ 6) (h : z ∈ upN n x y k) : z ∈ upN n x y 6 := by
  have key : ∀ d, z ∈ upN n x y (k + d) := fun d => by
    induction d with
    | zero => exact h
    | succ d ih => exact List.mem_append_left _ ih
  have := key (6 - k)
  rwa [show k + (6 - k) = 6 by omega] at this
def nearL (n at_ : Nat) : List Nat := upN n (at_ % n) (at_ / n) 6
theorem d6 (k : Nat) : -1 ≤ dx6 k ∧ dx6 k ≤ 1 ∧ -1 ≤ dy6 k ∧ dy6 k ≤ 1 := by
  match k with
  | 0 => simp [dx6, dy6]
  | 1 => simp [dx6, dy6]
  | 2 => simp [dx6, dy6]
  | 3 => simp [dx6, dy6]
  | 4 => simp [dx6, dy6]
  | _ + 5 => simp [dx6, dy6]
def A6 : Value := .agg #[.int .i64 (-1), .int .i64 0, .int .i64 1, .int .i64 0, .int .i64 0, .int .i64 (-1), .int .i64 1, .int .i64 (-1), .int .i64 (-1), .int .i64 1, .int .i64 0, .int .i64 1]
theorem ix6 (k : Nat) (hk : k < 6) : ∀ w, (Instr.index 60 (.agg #[.int .i64 (-1), .int .i64 0, .int .i64 1, .int .i64 0, .int .i64 0, .int .i64 (-1), .int .i64 1, .int .i64 (-1), .int .i64 (-1), .int .i64 1, .int .i64 0, .int .i64 1]) (.int .i64 k)).run Try.prog w = .ok (.agg #[.int .i64 (dx6 k), .int .i64 (dy6 k)]) w := by
  intro w
  rcases (show k = 0 ∨ k = 1 ∨ k = 2 ∨ k = 3 ∨ k = 4 ∨ k = 5 by omega) with rfl | rfl | rfl | rfl | rfl | rfl <;> rfl

section
attribute [local go_sem] Oper.semAt_some
set_option maxRecDepth 100000 in
set_option maxHeartbeats 4000000 in
theorem near1_any (l Bn Ba n p : Nat) (J : List Nat → World → Prop) (W0 : World) (hn1 : 1 ≤ n) (hn : n ≤ 10) (hp : p < n * n)
    (hJB : ∀ pre A, J pre A → A.cell? ⟨Bn, 0, none⟩ = some (.int .i64 (n : Int)))
    (hJ : ∀ pre A B, J pre A → Below A.heap.size A B → J pre B)
    (hY : ∀ m pre x W', J pre W' → x < n * n → x ∈ nearL n p → YieldAt Fence.wide m Try.prog l #[.int .i64 (x : Int)] W' fun e W'' => e = .returned (.bool true) ∧ J (pre ++ [x]) W'')
    (ha : W0.cell? ⟨Ba, 0, none⟩ = some (.int .i64 (p : Int))) (h0 : J [] W0) :
    Calls Try.prog 30 #[.func (.yield l) #[] #[], .pointer (some ⟨Ba, 0, none⟩), .pointer (some ⟨Bn, 0, none⟩)] W0 fun e W' => e = .returned (.tuple #[]) ∧ J (nearL n p) W' := by
  obtain ⟨x, hx⟩ : ∃ x, x = p % n := ⟨_, rfl⟩
  obtain ⟨y, hy⟩ : ∃ y, y = p / n := ⟨_, rfl⟩
  have hxn : x < n := by rw [hx]; exact Nat.mod_lt _ hn1
  have hyn : y < n := by rw [hy]; exact Nat.div_lt_of_lt_mul hp
  have hm : (p : Int).tmod (n : Int) = (x : Int) := by rw [hx, Int.tmod_eq_emod_of_nonneg (by omega)]; exact (Int.natCast_emod p n).symm
  have hd : (p : Int).tdiv (n : Int) = (y : Int) := by rw [hy]; exact (Int.ofNat_tdiv p n).symm
  have hwx : IntKind.i64.wrap (x : Int) = x := IntWalk.i64_in _ (by omega)
  have hwy : IntKind.i64.wrap (y : Int) = y := IntWalk.i64_in _ (by omega)
  have hn0 : ¬ n = 0 := by omega
  have hend : nearL n p = upN n x y 6 := by rw [hx, hy]; rfl
  have hcn := hJB _ _ h0
  rw [hend] at hY ⊢
  clear hx hy hend
  replace hJ := Lib.hid hJ; replace hJB := Lib.hid hJB; replace h0 := Lib.hid h0; replace hY := Lib.hid hY
  go_enter Try.func30, Try.ntmps30
  go_wp2_with fail
  go_quiet (fail)
  go_wp2_with fail
  have hW0' : ∀ r, W0.drewN r = W0.drewN r := fun _ => rfl
  clear hW0'
  go_loopg [23] 6 (fun g iv W' => ∃ k : Nat, k ≤ 6 ∧ g = 6 - k ∧ iv = .int .i64 (k : Int) ∧ Hid (J (upN n x y k) W'))
  case atStart => exact ⟨0, Nat.zero_le _, rfl, rfl, hJ.out _ _ _ h0.out (below_drewN (Below.refl _ _) _)⟩
  case round =>
    clear h0 hcn ha
    obtain ⟨k, hk, hgk, rfl, hj⟩ := hrel
    obtain ⟨W1, rfl⟩ : ∃ W1 : World, W1 = wr := ⟨_, rfl⟩
    replace hgk := Lib.hid hgk
    by_cases hlt : k < 6
    · have hix := ix6 k hlt
      have hd6 := d6 k
      have hup : Hid (upN n x y (k + 1) = upN n x y k ++ if 0 ≤ (x : Int) + dx6 k ∧ (x : Int) + dx6 k < n ∧ 0 ≤ (y : Int) + dy6 k ∧ (y : Int) + dy6 k < n then [(((y : Int) + dy6 k) * n + ((x : Int) + dx6 k)).toNat] else []) := rfl
      generalize dx6 k = dx at *
      generalize dy6 k = dy at *
      obtain ⟨a, hae⟩ : ∃ a, a = (x : Int) + dx := ⟨_, rfl⟩
      obtain ⟨b, hbe⟩ : ∃ b, b = (y : Int) + dy := ⟨_, rfl⟩
      have hwa : IntKind.i64.wrap ((x : Int) + dx) = a := by rw [hae]; exact IntWalk.i64_in _ (by omega)
      have hwb : IntKind.i64.wrap ((y : Int) + dy) = b := by rw [hbe]; exact IntWalk.i64_in _ (by omega)
      rw [← hae, ← hbe] at hup
      have hj1 : ∀ r, Hid (J (upN n x y k) ((W1.alloc (.cells #[.int .i64 dx, .int .i64 dy] 59)).drewN r)) := fun r => hJ.out _ _ _ hj.out (below_drewN ((Below.refl _ _).alloc (Nat.le_refl _) _) r)
      have hcn : (W1.alloc (.cells #[.int .i64 dx, .int .i64 dy] 59)).cell? ⟨Bn, 0, none⟩ = some (.int .i64 (n : Int)) := hJB.out _ _ (hj1 0).out
      replace hj1 := Lib.hid hj1
      by_cases hc : 0 ≤ a ∧ a < n ∧ 0 ≤ b ∧ b < n
      · rw [if_pos hc] at hup
        obtain ⟨c1, c2, c3, c4⟩ := hc
        obtain ⟨a, rfl⟩ := Int.eq_ofNat_of_zero_le c1
        obtain ⟨b, rfl⟩ := Int.eq_ofNat_of_zero_le c3
        have hup2 : Hid (upN n x y (k + 1) = upN n x y k ++ [b * n + a]) := by
          show _ = _
          rw [hup.out]; norm_cast
        have d2 : decide ((a : Int) < (n : Int)) = true := decide_eq_true c2
        have d4 : decide ((b : Int) < (n : Int)) = true := decide_eq_true c4
        have hlt2 : b * n + a < n * n := by
          have := Nat.mul_le_mul_right n (show b + 1 ≤ n by omega)
          rw [Nat.succ_mul] at this; omega
        have hnn : n * n ≤ 100 := Nat.mul_le_mul hn hn
        obtain ⟨T, hT⟩ : ∃ T, T = b * n := ⟨_, rfl⟩
        obtain ⟨S, hS⟩ : ∃ S, S = T + a := ⟨_, rfl⟩
        have e1 : (b : Int) * (n : Int) = (T : Nat) := by rw [hT]; push_cast; rfl
        have e2 : (T : Int) + (a : Int) = (S : Nat) := by rw [hS]; push_cast; rfl
        rw [← hT, ← hS] at hlt2 hup2
        have w1 : IntKind.i64.wrap (T : Int) = T := IntWalk.i64_in _ (by omega)
        have w2 : IntKind.i64.wrap (S : Int) = S := IntWalk.i64_in _ (by omega)
        replace hT := Lib.hid hT; replace hS := Lib.hid hS; replace hae := Lib.hid hae; replace hbe := Lib.hid hbe
        clear hup
        go_wp2_with fail
        go_quiet (fail)
        go_upto_region 5 with fail
        obtain ⟨W2, hW2⟩ : ∃ W2, W2 = (W1.alloc (.cells #[.int .i64 dx, .int .i64 dy] 59)).drewN nq := ⟨_, rfl⟩
        have hj2 := hj1.out nq
        rw [← hW2] at hj2
        have hcn2 := hJB.out _ _ hj2.out
        obtain ⟨fn, tmps, assign, body, hyy, hR⟩ := hY.out 8 _ S W2 hj2.out hlt2 (upN_mono (k + 1) (by omega) (by rw [hup2.out]; simp))
        rw [← hW2]
        replace hW2 := Lib.hid hW2; replace hj2 := Lib.hid hj2
        refine (wpIn_wide (n := 9)).1 ?_
        gi_wp2
        refine hR.mono ?_
        rintro e W3 ⟨rfl, hj3⟩
        rw [← hup2.out] at hj3
        replace hj3 := Lib.hid hj3
        gi_wp2
        go_wp2_with fail
        have hgk := hgk.out
        go_roundg (6 - (k + 1))
        case measure => omega
        case rel => exact ⟨k + 1, by omega, rfl, by go_num, hj3⟩
      · rw [if_neg hc, List.append_nil] at hup
        replace hae := Lib.hid hae; replace hbe := Lib.hid hbe
        have hfin : Hid (∀ r, J (upN n x y (k + 1)) ((W1.alloc (.cells #[.int .i64 dx, .int .i64 dy] 59)).drewN r)) := fun r => by rw [hup.out]; exact (hj1.out r).out
        clear hup hj1
        by_cases c1 : 0 ≤ a
        · by_cases c2 : a < n
          · have d2 : decide (a < (n : Int)) = true := decide_eq_true c2
            by_cases c3 : 0 ≤ b
            · have d4 : decide (b < (n : Int)) = false := decide_eq_false fun h => hc ⟨c1, c2, c3, h⟩
              replace hc := Lib.hid hc
              go_wp2_with fail
              go_quiet (fail)
              go_wp2_with fail
              have hgk := hgk.out
              go_roundg (6 - (k + 1))
              case measure => omega
              case rel => exact ⟨k + 1, by omega, rfl, by go_num, hfin.out _⟩
            · have d3 : decide (0 ≤ b) = false := decide_eq_false c3
              replace hc := Lib.hid hc
              go_wp2_with fail
              go_quiet (fail)
              go_wp2_with fail
              have hgk := hgk.out
              go_roundg (6 - (k + 1))
              case measure => omega
              case rel => exact ⟨k + 1, by omega, rfl, by go_num, hfin.out _⟩
          · have d2 : decide (a < (n : Int)) = false := decide_eq_false c2
            replace hc := Lib.hid hc
            go_wp2_with fail
            go_quiet (fail)
            go_wp2_with fail
            have hgk := hgk.out
            go_roundg (6 - (k + 1))
            case measure => omega
            case rel => exact ⟨k + 1, by omega, rfl, by go_num, hfin.out _⟩
        · have d1 : decide (0 ≤ a) = false := decide_eq_false c1
          replace hc := Lib.hid hc
          go_wp2_with fail
          go_quiet (fail)
          go_wp2_with fail
          have hgk := hgk.out
          go_roundg (6 - (k + 1))
          case measure => omega
          case rel => exact ⟨k + 1, by omega, rfl, by go_num, hfin.out _⟩
    · obtain rfl : k = 6 := by omega
      go_wp2_with fail
      go_end0
      exact ⟨rfl, hj.out⟩
end
end Go.Proofs.Ytcibkchfdiijfaa
