/- What the closure of cover.Queens and cover.Queens compute, told by the plain function placeS; conditions: n is 1 to 8. -/
import Derived.Test.YtfimnjoedmaidaaMem
import Derived.Test.YtfimnjoedmaidaaSpec
import Derived.Test.YtfimnjoedmaidaaRows
import Derived.Laws.EntriesVeiled
namespace Go.Proofs.Ytfimnjoedmaidaa
open Go.RowKit

set_option maxHeartbeats 2000000 in
theorem place_any (n nb pb : Nat) (hn : n ≤ 8) : ∀ (f y : Nat) (c u d : Int) (w : World), n = y + f → Hid (w.heap[nb]? = some (.cells #[.int .i64 n] 3 (0, 0))) →
    Hid (w.heap[pb]? = some (.cells #[.func (.func 13) #[] #[.pointer (some ⟨nb, 0, none⟩), .pointer (some ⟨pb, 0, none⟩)]] 38 (0, 0))) → ∀ (yI : Int), Hid (yI = y) →
    Calls Try.prog 13 #[.int .i64 yI, .int .u64 c, .int .u64 u, .int .u64 d, .pointer (some ⟨nb, 0, none⟩), .pointer (some ⟨pb, 0, none⟩)] w fun e w' => e = .returned (.int .i64 (placeS n f y c u d)) ∧ Below w.heap.size w w' := by
  intro f
  induction f with
  | zero =>
    intro y c u d w hf hnb hpb yI hy
    have hy := hy.out
    subst hy
    have c0 := cell_of_one hnb.out
    have e0 : ((y : Int) == (n : Int)) = true := by simp; omega
    clear hf
    go_enter Try.func13, Try.ntmps13
    go_wp2
    go_ret
    exact ⟨rfl, Below.refl _ _⟩
  | succ f ih =>
    intro y c u d w hf hnb hpb yI hy
    have hy := hy.out
    subst hy
    have c0 := cell_of_one hnb.out
    have e0 : ((y : Int) == (n : Int)) = false := by simp; omega
    have hyn : y < n := by omega
    have hf8 : f ≤ 7 := by omega
    replace hf := Lib.hid hf
    have hp8 : 8 ^ f ≤ 8 ^ 7 := Nat.pow_le_pow_right (by omega) hf8
    go_enter Try.func13, Try.ntmps13
    go_wp2
    clear c0
    go_loopg [11, 20] n (fun kk m i W => ∃ x : Nat, x ≤ n ∧ kk = n - x ∧ i = .int .i64 x ∧ m = .int .i64 (sumQ (fun x => if free n y c u d x then placeS n f (y + 1) (bor c (sh x)) (bor u (sh (x + y))) (bor d (sh (x + n - y))) else 0) x : Nat) ∧ Below w.heap.size w W)
    case atStart => exact ⟨0, by omega, by omega, rfl, rfl, Below.refl _ _⟩
    case round =>
      obtain ⟨x, hx, hg, rfl, rfl, hB⟩ := hrel
      replace hg := Lib.hid hg
      have hle : ∀ x, (fun x => if free n y c u d x then placeS n f (y + 1) (bor c (sh x)) (bor u (sh (x + y))) (bor d (sh (x + n - y))) else 0) x ≤ 8 ^ 7 := fun x => by
        simp only
        split
        · exact Nat.le_trans (placeS_le n hn f _ _ _ _) hp8
        · exact Nat.zero_le _
      have hs := sumQ_le _ _ hle x
      have hs2 : x * 8 ^ 7 ≤ 8 * 8 ^ 7 := Nat.mul_le_mul_right _ (by omega)
      have hq := hle x
      generalize hF : (fun x => if free n y c u d x then placeS n f (y + 1) (bor c (sh x)) (bor u (sh (x + y))) (bor d (sh (x + n - y))) else 0) = F at *
      have hsb : sumQ F x ≤ 16777216 := by omega
      have hqb : F x ≤ 2097152 := by omega
      have hFx : Hid (F x = if free n y c u d x then placeS n f (y + 1) (bor c (sh x)) (bor u (sh (x + y))) (bor d (sh (x + n - y))) else 0) := by show _ = _; rw [← hF]
      have hsq : Hid (sumQ F (x + 1) = sumQ F x + F x) := rfl
      replace hF := Lib.hid hF
      clear hle hs hs2 hq
      by_cases hlt : x < n
      · have c1 := (hB.block nb (lt_of_heap hnb.out)).trans hnb.out
        have c2 := (hB.block pb (lt_of_heap hpb.out)).trans hpb.out
        have d1 := cell_of_one c1
        have d2 := cell_of_one c2
        have IH := Lib.hid (ih (y + 1) (bor c (sh x)) (bor u (sh (x + y))) (bor d (sh (x + n - y))))
        have z1 : (0 : Int) ≤ x := by omega
        have z2 : (0 : Int) ≤ x + y := by omega
        have z3 : (0 : Int) ≤ x - y + n := by omega
        have z4 : ((x : Int) - y + n).toNat = x + n - y := by omega
        replace c1 := Lib.hid c1; replace c2 := Lib.hid c2
        replace hB := Lib.hid hB
        clear ih
        obtain ⟨W0, rfl⟩ : ∃ W0 : World, W0 = wr := ⟨_, rfl⟩
        by_cases hfr : free n y c u d x = true
        · rw [if_pos hfr] at hFx
          obtain ⟨k1, k2, k3⟩ : band c (sh x) = 0 ∧ band u (sh (x + y)) = 0 ∧ band d (sh (x + n - y)) = 0 := by simpa [free] using hfr
          have l1 : (bits .and .u64 c (IntKind.u64.wrap (2 ^ x)) == 0) = true := by simpa [band, sh] using k1
          have l2 : (bits .and .u64 u (IntKind.u64.wrap (2 ^ (x + y))) == 0) = true := by simpa [band, sh] using k2
          have l3 : (bits .and .u64 d (IntKind.u64.wrap (2 ^ (x + n - y))) == 0) = true := by simpa [band, sh] using k3
          clear k1 k2 k3
          replace hfr := Lib.hid hfr
          go_wp2
          go_quiet (fail)
          go_wp2_with fail
          refine (IH.out (World.drewN W0 _) (by have := hf.out; omega) c1.out c2.out _ (Lib.hid (by omega))).mono ?_
          rintro e w' ⟨rfl, hB2⟩
          have hp : placeS n f (y + 1) (bits .or .u64 c (IntKind.u64.wrap (2 ^ x))) (bits .or .u64 u (IntKind.u64.wrap (2 ^ (x + y)))) (bits .or .u64 d (IntKind.u64.wrap (2 ^ (x + n - y)))) = F x := hFx.out.symm
          replace hB2 := Lib.hid hB2
          rw [show placeS n f (y + 1) (bor c (sh x)) (bor u (sh (x + y))) (bor d (sh (x + n - y))) = F x from hFx.out.symm]
          replace hp := Lib.hid hp
          go_wp2_with fail
          have hg := hg.out
          go_roundg (n - (x + 1))
          case measure => omega
          case rel => exact ⟨x + 1, by omega, rfl, by go_num, by rw [hsq.out]; go_num, hB.out.trans ((below_drewN (Below.refl _ _) _).trans (hB2.out.mono hB.out.size))⟩
        · rw [if_neg hfr] at hFx
          have k0 : ¬ (band c (sh x) = 0 ∧ band u (sh (x + y)) = 0 ∧ band d (sh (x + n - y)) = 0) := by simpa [free] using hfr
          replace hfr := Lib.hid hfr
          by_cases k1 : band c (sh x) = 0
          · have l1 : (bits .and .u64 c (IntKind.u64.wrap (2 ^ x)) == 0) = true := by simpa [band, sh] using k1
            by_cases k2 : band u (sh (x + y)) = 0
            · have l2 : (bits .and .u64 u (IntKind.u64.wrap (2 ^ (x + y))) == 0) = true := by simpa [band, sh] using k2
              have l3 : (bits .and .u64 d (IntKind.u64.wrap (2 ^ (x + n - y))) == 0) = false := by
                have k3 : ¬ band d (sh (x + n - y)) = 0 := fun h => k0 ⟨k1, k2, h⟩
                simpa [band, sh] using k3
              clear k0 k1 k2
              go_wp2
              go_quiet (fail)
              go_wp2_with fail
              have hg := hg.out
              go_roundg (n - (x + 1))
              case measure => omega
              case rel => exact ⟨x + 1, by omega, rfl, by go_num, by rw [hsq.out, hFx.out]; rfl, below_drewN hB.out _⟩
            · have l2 : (bits .and .u64 u (IntKind.u64.wrap (2 ^ (x + y))) == 0) = false := by simpa [band, sh] using k2
              clear k0 k1 k2
              go_wp2
              go_quiet (fail)
              go_wp2_with fail
              have hg := hg.out
              go_roundg (n - (x + 1))
              case measure => omega
              case rel => exact ⟨x + 1, by omega, rfl, by go_num, by rw [hsq.out, hFx.out]; rfl, below_drewN hB.out _⟩
          · have l1 : (bits .and .u64 c (IntKind.u64.wrap (2 ^ x)) == 0) = false := by simpa [band, sh] using k1
            clear k0 k1
            go_wp2
            go_quiet (fail)
            go_wp2_with fail
            have hg := hg.out
            go_roundg (n - (x + 1))
            case measure => omega
            case rel => exact ⟨x + 1, by omega, rfl, by go_num, by rw [hsq.out, hFx.out]; rfl, below_drewN hB.out _⟩
      · replace hB := Lib.hid hB
        have hxn : x = n := by omega
        replace hxn := Lib.hid hxn
        go_wp2
        go_ret
        refine ⟨ret_int ?_, hB.out⟩
        rw [hxn.out, ← hF.out]; rfl

set_option maxHeartbeats 1000000 in
theorem queens_any (n : Nat) (w : World) (h1 : 1 ≤ n) (h2 : n ≤ 8) (nI : Int) (hnI : Hid (nI = n)) :
    Calls Try.prog 7 #[.int .i64 nI] w fun e w' => e = .returned (.tuple #[.int .i64 (placeS n n 0 0 0 0), .int .i64 0]) ∧ Below w.heap.size w w' := by
  have hnI := hnI.out
  subst hnI
  go_enter Try.func7, Try.ntmps7
  go_wp2_with fail
  have F := place_any n w.heap.size (w.heap.size + 1) h2 n 0 0 0 0 ((w.alloc (.cells #[.int .i64 n] 3)).alloc (.cells #[.func (.func 13) #[] #[.pointer (some ⟨w.heap.size, 0, none⟩), .pointer (some ⟨w.heap.size + 1, 0, none⟩)]] 38)) (by omega)
    (by show _ = _; rw [Below.heap_alloc _ _ _ (by simp)]; exact heap_alloc_new w _)
    (by show _ = _; simpa using heap_alloc_new (w.alloc (.cells #[.int .i64 n] 3)) (.cells #[.func (.func 13) #[] #[.pointer (some ⟨w.heap.size, 0, none⟩), .pointer (some ⟨w.heap.size + 1, 0, none⟩)]] 38)) 0 rfl
  refine F.mono ?_
  rintro e w' ⟨rfl, hB⟩
  have hB1 : Below w.heap.size w w' := (((Below.refl _ w).alloc (Nat.le_refl _) _).alloc (by simp) _).trans (hB.mono (by simp; omega))
  replace hB1 := Lib.hid hB1
  clear hB F
  go_wp2_with fail
  go_ret2
  exact ⟨rfl, hB1.out⟩
end Go.Proofs.Ytfimnjoedmaidaa
