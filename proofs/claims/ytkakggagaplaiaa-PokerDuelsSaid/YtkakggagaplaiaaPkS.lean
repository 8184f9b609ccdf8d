/- What slices.SortStableFunc over poker.value's comparison does to a row of at most five signs; conditions stand in each. -/
import Derived.Test.YtkakggagaplaiaaPkP
import Derived.Lib.SliceRun
import Derived.Deep.RegionHeld3
import Derived.Deep.RegionLaw
namespace Go.Proofs.Ytkakggagaplaiaa
open Go.RowKit

def cmpN (a b : Nat) : Int := if a < b then -1 else if b < a then 1 else 0
theorem cmpN_neg {a b : Nat} : decide (cmpN a b < 0) = decide (a < b) := by
  unfold cmpN
  by_cases h : a < b
  · simp [h]
  · by_cases h2 : b < a <;> simp [h, h2]
theorem isnan_any (x : Int) (w : World) : Calls Try.prog 90 #[.int .i64 x] w fun e w' => e = .returned (.bool false) ∧ w = w' := by
  go_enter Try.func90, Try.ntmps90
  go_wp2_with fail
  go_ret
  exact ⟨by simp, rfl⟩
theorem cmp_any (a b : Nat) (w : World) : Calls Try.prog 77 #[.int .i64 a, .int .i64 b] w fun e w' => e = .returned (.int .i64 (cmpN a b)) ∧ w = w' := by
  have HA := Lib.hid (fun x W => isnan_any x W)
  obtain ⟨R, hR⟩ : ∃ R, R = cmpN a b := ⟨_, rfl⟩
  rw [← hR]
  unfold cmpN at hR
  by_cases h : a < b
  · have i1 : decide ((a : Int) < (b : Int)) = true := decide_eq_true (by omega)
    rw [if_pos h] at hR
    subst hR
    go_enter Try.func77, Try.ntmps77
    go_wp2_with fail
    refine (HA.out _ _).mono ?_
    rintro e w' ⟨rfl, rfl⟩
    go_wp2_with fail
    refine (HA.out _ _).mono ?_
    rintro e w' ⟨rfl, rfl⟩
    go_wp2_with fail
    go_ret
    exact ⟨rfl, rfl⟩
  · have i1 : decide ((a : Int) < (b : Int)) = false := decide_eq_false (by omega)
    rw [if_neg h] at hR
    by_cases h2 : b < a
    · have i2 : decide ((b : Int) < (a : Int)) = true := decide_eq_true (by omega)
      rw [if_pos h2] at hR
      subst hR
      go_enter Try.func77, Try.ntmps77
      go_wp2_with fail
      refine (HA.out _ _).mono ?_
      rintro e w' ⟨rfl, rfl⟩
      go_wp2_with fail
      refine (HA.out _ _).mono ?_
      rintro e w' ⟨rfl, rfl⟩
      go_wp2_with fail
      go_ret
      exact ⟨rfl, rfl⟩
    · have i2 : decide ((b : Int) < (a : Int)) = false := decide_eq_false (by omega)
      rw [if_neg h2] at hR
      subst hR
      go_enter Try.func77, Try.ntmps77
      go_wp2_with fail
      refine (HA.out _ _).mono ?_
      rintro e w' ⟨rfl, rfl⟩
      go_wp2_with fail
      refine (HA.out _ _).mono ?_
      rintro e w' ⟨rfl, rfl⟩
      go_wp2_with fail
      go_ret
      exact ⟨rfl, rfl⟩
set_option maxHeartbeats 2000000 in
theorem by_any (a b gm : Nat) (ms : List Nat) (w : World) (ha : a < 13) (hb : b < 13) (hm : Nums w gm 118 (asI ms)) (hl : ms.length = 13) :
    Calls Try.prog 76 #[.int .i64 a, .int .i64 b, .pointer (some ⟨gm, 0, none⟩)] w fun e w' => e = .returned (.int .i64 (cmpN (st ms b) (st ms a))) ∧ ∃ k, w' = w.drewN k := by
  have HC : Hid (∀ r, Calls Try.prog 77 #[.int .i64 (st ms b), .int .i64 (st ms a)] (w.drewN r) fun e w' => e = .returned (.int .i64 (cmpN (st ms b) (st ms a))) ∧ w.drewN r = w') := fun r => cmp_any _ _ _
  have ka := hm.cell (i := a) (by rw [asI_len, hl]; exact ha)
  have kb := hm.cell (i := b) (by rw [asI_len, hl]; exact hb)
  rw [asI_at] at ka kb
  clear hm
  generalize cmpN (st ms b) (st ms a) = r at *
  generalize st ms a = x at *
  generalize st ms b = y at *
  have i1 : (0 : Int) ≤ (a : Int) := by omega
  have i2 : (a : Int) < 13 := by omega
  have i3 : (0 : Int) ≤ (b : Int) := by omega
  have i4 : (b : Int) < 13 := by omega
  go_enter Try.func76, Try.ntmps76
  go_wp2_with fail
  go_quiet ((go_at_call 77; ((with_reducible refine (HC.out _).mono ?_); exact fun _ _ h => ⟨h.1, _, h.2.symm⟩)))
  go_wp2_with fail
  go_ret
  exact ⟨rfl, _, rfl⟩

/-- blocks other than g are as they were. -/
def Oth (g : Nat) (w W : World) : Prop := w.heap.size ≤ W.heap.size ∧ ∀ k, k < w.heap.size → k ≠ g → W.heap[k]? = w.heap[k]?
theorem Oth.refl (g : Nat) (w : World) : Oth g w w := ⟨Nat.le_refl _, fun _ _ _ => rfl⟩
theorem Oth.set {g : Nat} {w W : World} (h : Oth g w W) (i : Nat) (v : Value) : Oth g w (W.setCell ⟨g, i, none⟩ v) :=
  ⟨by simpa [World.setCell] using h.1, fun k hk hne => (Below.heap_setCell W _ v k (by simpa using hne)).trans (h.2 k hk hne)⟩
theorem Oth.drewN {g : Nat} {w W : World} (h : Oth g w W) (n : Nat) : Oth g w (W.drewN n) := h
/-- the row in block g reads s. -/
def Vs (B : Nat) (w : World) (g n c : Nat) (s : List Nat) (W : World) : Prop := Own 3 B W (some ⟨g, 0, none⟩) n c (asI s) ∧ Below B w W ∧ Oth g w W
theorem st_lt13 {s : List Nat} (h : ∀ x ∈ s, x < 13) (i : Nat) : st s i < 13 := by
  by_cases hi : i < s.length
  · exact h _ (st_mem_lt hi)
  · unfold st; rw [List.getElem?_eq_none (by omega)]; exact Nat.zero_lt_succ _
theorem bub_lt {m : Nat → Nat} {s : List Nat} (h : ∀ x ∈ s, x < 13) (j : Nat) (hj : j < s.length) : ∀ x ∈ bub m j s, x < 13 := fun x hx => h x ((bub_mem m j s hj x).1 hx)

set_option maxRecDepth 20000 in
set_option maxHeartbeats 4000000 in
theorem ins_any (B g n c gm : Nat) (ms s0 : List Nat) (w W0 : World) (hn : n ≤ 5) (hgB : B ≤ g) (hV : Vs B w g n c s0 W0) (hs0 : ∀ x ∈ s0, x < 13) (hgm : gm ≠ g) (hmw : Nums w gm 118 (asI ms)) (hl : ms.length = 13) :
    Calls Try.prog 107 #[.slice (some ⟨g, 0, none⟩) n c, .int .i64 0, .int .i64 n, .func (.func 76) #[] #[.pointer (some ⟨gm, 0, none⟩)]] W0 fun e W' => e = .returned (.tuple #[]) ∧ Vs B w g n c (isr (st ms) s0 n) W' := by
  have hn0 : s0.length = n := by have := hV.1.len; simpa [asI_len] using this
  have hmlt := hmw.lt
  replace hV := Lib.hid hV
  replace hs0 := Lib.hid hs0
  replace hn0 := Lib.hid hn0
  by_cases hz : n = 0
  · subst hz
    go_enter Try.func107, Try.ntmps107
    go_wp2_with fail
    go_loopg [8] 1 (fun gk iv W' => gk = 1 ∧ iv = .int .i64 1 ∧ W0 = W')
    case atStart => exact ⟨rfl, rfl, rfl⟩
    case round =>
      obtain ⟨hgk, rfl, rfl⟩ := hrel
      go_wp2_with fail
      go_end0
      exact ⟨rfl, hV.out⟩
  go_enter Try.func107, Try.ntmps107
  go_wp2_with fail
  go_loopg [8] (n - 1) (fun gk iv W' => ∃ i : Nat, 1 ≤ i ∧ i ≤ n ∧ gk = n - i ∧ iv = .int .i64 i ∧ Hid (Vs B w g n c (isr (st ms) s0 i) W'))
  case atStart => exact ⟨1, by omega, by omega, by omega, rfl, hV.out⟩
  case round =>
    obtain ⟨i, hi1, hi, hgk, rfl, hV1⟩ := hrel
    obtain ⟨W1, rfl⟩ : ∃ W1 : World, W1 = wr := ⟨_, rfl⟩
    replace hgk := Lib.hid hgk
    clear hV
    by_cases hlt : i < n
    · obtain ⟨T, hT⟩ : ∃ T, T = isr (st ms) s0 (i + 1) := ⟨_, rfl⟩
      have hT' := Lib.hid hT
      have hT1 : Hid (T = bub (st ms) i (isr (st ms) s0 i)) := hT
      have hx13 : Hid (∀ x ∈ isr (st ms) s0 i, x < 13) := fun x hx => hs0.out x ((isr_mem _ _ _ _ (by have := hn0.out; omega)).1 hx)
      clear hT
      generalize isr (st ms) s0 i = S0 at *
      go_wp2_with fail
      go_loopg [9] i (fun gk2 jv W' => ∃ (j : Nat) (S : List Nat), j ≤ i ∧ gk2 = j ∧ jv = .int .i64 j ∧ Hid (Vs B w g n c S W') ∧ Hid (T = bub (st ms) j S) ∧ Hid (∀ x ∈ S, x < 13))
      case atStart => exact ⟨i, S0, Nat.le_refl _, rfl, rfl, hV1, hT1, hx13⟩
      case round =>
        clear hV1 hT1 hx13
        obtain ⟨j, S, hj, hgk2, rfl, hV2, hT2, hx2⟩ := hrel
        obtain ⟨W2, rfl⟩ : ∃ W2 : World, W2 = wr := ⟨_, rfl⟩
        replace hgk2 := Lib.hid hgk2
        rcases Nat.eq_zero_or_pos j with h0 | h0
        · subst h0
          have e1 : T = S := hT2.out
          subst e1
          go_wp2_with fail
          go_quiet (fail)
          have hV3 : Hid (Vs B w g n c T (W2.drewN nq)) := ⟨hV2.out.1, below_drewN hV2.out.2.1 nq, hV2.out.2.2⟩
          go_wp2_with fail
          have hgk := hgk.out
          go_roundg (n - (i + 1))
          case measure => omega
          case rel => exact ⟨i + 1, by omega, by omega, rfl, by go_num, by rw [← hT'.out]; exact hV3⟩
        · obtain ⟨k, rfl⟩ : ∃ k, j = k + 1 := ⟨j - 1, by omega⟩
          obtain ⟨hO, hB, hOt⟩ := hV2.out
          have hlS : S.length = n := by have := hO.len; simpa [asI_len] using this
          have k1 := Own.cell hO (i := k + 1) (by omega)
          have k0 := Own.cell hO (i := k) (by omega)
          rw [asI_at] at k1 k0
          have hmW : Hid (∀ r, Nums (W2.drewN r) gm 118 (asI ms)) := fun r => by
            have e : (W2.drewN r).heap[gm]? = w.heap[gm]? := hOt.2 gm hmlt hgm
            exact e.trans hmw
          have HC : Hid (∀ r, Calls Try.prog 76 #[.int .i64 (st S (k + 1)), .int .i64 (st S k), .pointer (some ⟨gm, 0, none⟩)] (W2.drewN r) fun e w' => e = .returned (.int .i64 (cmpN (st ms (st S k)) (st ms (st S (k + 1))))) ∧ ∃ q, w' = W2.drewN q) := fun r =>
            (by_any _ _ gm ms (W2.drewN r) (st_lt13 hx2.out _) (st_lt13 hx2.out _) (hmW.out r) hl).mono fun e w' ⟨h1, q, h2⟩ => ⟨h1, r + q, by rw [h2, World.drewN_drewN]⟩
          have hr : decide (cmpN (st ms (st S k)) (st ms (st S (k + 1))) < 0) = decide (st ms (st S k) < st ms (st S (k + 1))) := cmpN_neg
          have i1 : ((k : Int) + 1) - 1 = (k : Int) := by omega
          have i2 : (0 : Int) ≤ (k : Int) + 1 := by omega
          have i3 : ((k : Int) + 1) < (n : Int) := by omega
          have i4 : (0 : Int) ≤ (k : Int) := by omega
          have i5 : (k : Int) < (n : Int) := by omega
          have i7 : IntKind.i64.wrap (k : Int) = k := IntWalk.i64_in _ (by omega)
          have i8 : k ≠ k + 1 := by omega
          have i9 : k + 1 ≠ k := by omega
          have i6 : decide ((0 : Int) < (k : Int) + 1) = true := decide_eq_true (by omega)
          have hT3 := hT2.out
          unfold bub at hT3
          generalize cmpN (st ms (st S k)) (st ms (st S (k + 1))) = r at *
          by_cases hcm : st ms (st S k) < st ms (st S (k + 1))
          · have r1 : decide (r < 0) = true := by rw [hr]; exact decide_eq_true hcm
            rw [if_pos hcm] at hT3
            have f1 := Own.free hO (k + 1)
            have f0 := Own.free hO k
            have hO2 := Own.set (Own.set hO (k + 1) (st S k : Nat)) k (st S (k + 1) : Nat)
            rw [← asI_set, ← asI_set] at hO2
            have hB2 := Lib.hid ((hB.setCell (p := ⟨g, k + 1, none⟩) hgB (.int .i64 (st S k))).setCell (p := ⟨g, k, none⟩) hgB (.int .i64 (st S (k + 1))))
            have hOt2 := Lib.hid ((hOt.set (k + 1) (.int .i64 (st S k))).set k (.int .i64 (st S (k + 1))))
            have hx3 : Hid (∀ x ∈ ((S.set (k + 1) (st S k)).set k (st S (k + 1))), x < 13) := fun x hx => hx2.out x ((swap_mem (by omega) x).1 hx)
            replace hO2 := Lib.hid hO2; replace hT3 := Lib.hid hT3
            clear hO hB hOt hr hcm hV2 hT2 hmW
            replace hlS := Lib.hid hlS
            generalize st S k = x0 at *
            generalize st S (k + 1) = x1 at *
            go_wp2_with fail
            go_quiet ((go_at_call 76; ((with_reducible refine (HC.out _).mono ?_); exact fun _ _ h => ⟨h.1, h.2⟩)))
            go_wp2_with fail
            go_region_law (fail)
            all_goals
              have hV3 : Hid (Vs B w g n c ((S.set (k + 1) x0).set k x1) (((W2.drewN (nq + 1)).setCell ⟨g, k + 1, none⟩ (.int .i64 (x0 : Nat))).setCell ⟨g, k, none⟩ (.int .i64 (x1 : Nat)))) := ⟨hO2.out, below_drewN hB2.out (nq + 1), hOt2.out⟩
              go_wp2_with fail
              have hgk2 := hgk2.out
              go_roundg k
              case measure => omega
              case rel => exact ⟨k, _, by omega, rfl, by go_num, hV3, hT3, hx3⟩
          · have r1 : decide (r < 0) = false := by rw [hr]; exact decide_eq_false hcm
            rw [if_neg hcm] at hT3
            subst hT3
            clear hO hB hOt hr hcm hT2 hmW hlS
            generalize st T k = x0 at *
            generalize st T (k + 1) = x1 at *
            go_wp2_with fail
            go_quiet ((go_at_call 76; ((with_reducible refine (HC.out _).mono ?_); exact fun _ _ h => ⟨h.1, h.2⟩)))
            have hV3 : Hid (Vs B w g n c T (W2.drewN nq)) := ⟨hV2.out.1, below_drewN hV2.out.2.1 nq, hV2.out.2.2⟩
            go_wp2_with fail
            have hgk := hgk.out
            go_roundg (n - (i + 1))
            case measure => omega
            case rel => exact ⟨i + 1, by omega, by omega, rfl, by go_num, by rw [← hT'.out]; exact hV3⟩
    · obtain rfl : i = n := by omega
      go_wp2_with fail
      go_end0
      exact ⟨rfl, hV1.out⟩

set_option maxRecDepth 20000 in
set_option maxHeartbeats 1000000 in
theorem stbl_any (B g n c gm : Nat) (ms s0 : List Nat) (w W0 : World) (hn : n ≤ 5) (hgB : B ≤ g) (hV : Vs B w g n c s0 W0) (hs0 : ∀ x ∈ s0, x < 13) (hgm : gm ≠ g) (hmw : Nums w gm 118 (asI ms)) (hl : ms.length = 13) :
    Calls Try.prog 89 #[.slice (some ⟨g, 0, none⟩) n c, .int .i64 n, .func (.func 76) #[] #[.pointer (some ⟨gm, 0, none⟩)]] W0 fun e W' => e = .returned (.tuple #[]) ∧ Vs B w g n c (isr (st ms) s0 n) W' := by
  have HI := Lib.hid (ins_any B g n c gm ms s0 w W0 hn hgB hV hs0 hgm hmw hl)
  clear hV hs0 hmw hl
  have i1 : decide ((20 : Int) ≤ (n : Int)) = false := decide_eq_false (by omega)
  have i2 : decide ((20 : Int) < (n : Int)) = false := decide_eq_false (by omega)
  go_enter Try.func89, Try.ntmps89
  go_wp2_with fail
  go_loopg [7, 8] 1 (fun gk av bv W' => gk = 1 ∧ av = .int .i64 0 ∧ bv = .int .i64 20 ∧ W0 = W')
  case atStart => exact ⟨rfl, rfl, rfl, rfl⟩
  case round =>
    obtain ⟨hgk, rfl, rfl, rfl⟩ := hrel
    go_wp2_with fail
    refine HI.out.mono ?_
    rintro e w' ⟨rfl, hV⟩
    replace hV := Lib.hid hV
    clear HI
    go_wp2_with fail
    go_loopg [6, 7, 8, 9] 1 (fun gk av bv cv dv W' => gk = 1 ∧ av = .int .i64 20 ∧ w' = W')
    case atStart => exact ⟨rfl, rfl, rfl⟩
    case round =>
      obtain ⟨hgk2, rfl, rfl⟩ := hrel
      go_wp2_with fail
      go_end0
      exact ⟨rfl, hV.out⟩
set_option maxHeartbeats 1000000 in
theorem sortS_any (B g n c gm : Nat) (ms s0 : List Nat) (w W0 : World) (hn : n ≤ 5) (hgB : B ≤ g) (hV : Vs B w g n c s0 W0) (hs0 : ∀ x ∈ s0, x < 13) (hgm : gm ≠ g) (hmw : Nums w gm 118 (asI ms)) (hl : ms.length = 13) :
    Calls Try.prog 75 #[.slice (some ⟨g, 0, none⟩) n c, .func (.func 76) #[] #[.pointer (some ⟨gm, 0, none⟩)]] W0 fun e W' => e = .returned (.tuple #[]) ∧ Vs B w g n c (isr (st ms) s0 n) W' := by
  have HI := Lib.hid (stbl_any B g n c gm ms s0 w W0 hn hgB hV hs0 hgm hmw hl)
  clear hV hs0 hmw hl
  go_enter Try.func75, Try.ntmps75
  go_wp2_with fail
  refine HI.out.mono ?_
  rintro e w' ⟨rfl, hV⟩
  replace hV := Lib.hid hV
  go_wp2_with fail
  go_end0
  exact ⟨rfl, hV.out⟩
end Go.Proofs.Ytkakggagaplaiaa
