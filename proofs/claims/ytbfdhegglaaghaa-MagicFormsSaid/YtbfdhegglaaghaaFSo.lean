/- What slices.SortFunc over slices.Compare does to a row of at most eight slices: its elements are some of the old ones; conditions stand in each. -/
import Derived.Test.YtbfdhegglaaghaaFCm
import Derived.Test.YtbfdhegglaaghaaShelf
import Derived.Lib.SliceRun
import Derived.Deep.RegionHeld3
namespace Go.Proofs.Ytbfdhegglaaghaa
open Go.RowKit

/-- blocks other than g are as they were. -/
def Oth (g : Nat) (w W : World) : Prop := w.heap.size ≤ W.heap.size ∧ ∀ k, k < w.heap.size → k ≠ g → W.heap[k]? = w.heap[k]?
theorem Oth.refl (g : Nat) (w : World) : Oth g w w := ⟨Nat.le_refl _, fun _ _ _ => rfl⟩
theorem Oth.set {g : Nat} {w W : World} (h : Oth g w W) (i : Nat) (v : Value) : Oth g w (W.setCell ⟨g, i, none⟩ v) :=
  ⟨by simpa [World.setCell] using h.1, fun k hk hne => (Below.heap_setCell W _ v k (by simpa using hne)).trans (h.2 k hk hne)⟩
theorem Oth.drewN {g : Nat} {w W : World} (h : Oth g w W) (n : Nat) : Oth g w (W.drewN n) := h
theorem Oth.drew {g : Nat} {w W : World} (h : Oth g w W) : Oth g w W.drew := h
theorem IntsIn.oth {g n : Nat} {w W : World} {p : Option Addr} {l : List Int} (h : IntsIn w p n l) (ho : Oth g w W) (hp : ∀ a, p = some a → a.block ≠ g ∧ a.block < w.heap.size) : IntsIn W p n l :=
  h.keep ho.1 fun b _ e => ho.2 b (hp _ e).2 (hp _ e).1

/-- an element: a slice of NN numbers, not in block g, of which S holds. -/
def Elt (w : World) (g NN : Nat) (S : List Int → Prop) (v : Value) : Prop := ∃ p c l, v = .slice p NN c ∧ IntsIn w p NN l ∧ (∀ a, p = some a → a.block ≠ g ∧ a.block < w.heap.size) ∧ S l
def vt (vs : List Value) (i : Nat) : Value := vs[i]?.getD (.slice none 0 0)
theorem vt_set (vs : List Value) (i j : Nat) (v : Value) (hi : i < vs.length) : vt (vs.set i v) j = if j = i then v else vt vs j := by
  unfold vt
  rw [List.getElem?_set]
  by_cases h : i = j
  · subst h; simp [hi]
  · rw [if_neg h, if_neg (fun e => h e.symm)]
/-- the row in block g: n elements. -/
def Vs (B : Nat) (w : World) (g n c NN : Nat) (S : List Int → Prop) (W : World) : Prop :=
  ∃ vs, OwnC 23 1 B W (some ⟨g, 0, none⟩) n c vs ∧ (∀ i, i < n → Elt w g NN S (vt vs i)) ∧ Below B w W ∧ Oth g w W
theorem OwnC.at {E B g n c : Nat} {W : World} {vs : List Value} (h : OwnC E 1 B W (some ⟨g, 0, none⟩) n c vs) {i : Nat} (hi : i < n) : W.cell? ⟨g, i, none⟩ = some (vt vs i) := by
  have hl := h.len
  rw [h.cell (by omega)]; unfold vt; simp [show i < vs.length by omega]

set_option maxRecDepth 20000 in
set_option maxHeartbeats 4000000 in
theorem ins_any (B g n c NN : Nat) (S : List Int → Prop) (w W0 : World) (hn1 : 1 ≤ n) (hn : n ≤ 12) (hNN : NN < 1000) (hgB : B ≤ g) (hV : Vs B w g n c NN S W0) :
    Calls Try.prog 42 #[.slice (some ⟨g, 0, none⟩) n c, .int .i64 0, .int .i64 n, .func (.func 26) #[] #[]] W0 fun e W' => e = .returned (.tuple #[]) ∧ Vs B w g n c NN S W' := by
  replace hV := Lib.hid hV
  go_enter Try.func42, Try.ntmps42
  go_wp2_with fail
  go_loopg [8] (n - 1) (fun gk iv W' => ∃ i : Nat, 1 ≤ i ∧ i ≤ n ∧ gk = n - i ∧ iv = .int .i64 i ∧ Vs B w g n c NN S W')
  case atStart => exact ⟨1, by omega, by omega, by omega, rfl, hV.out⟩
  case round =>
    obtain ⟨i, hi1, hi, hgk, rfl, hV1⟩ := hrel
    obtain ⟨W1, rfl⟩ : ∃ W1 : World, W1 = wr := ⟨_, rfl⟩
    replace hgk := Lib.hid hgk; replace hV1 := Lib.hid hV1
    clear hV
    by_cases hlt : i < n
    · go_wp2_with fail
      go_loopg [9] i (fun gk2 jv W' => ∃ j : Nat, j ≤ i ∧ gk2 = j ∧ jv = .int .i64 j ∧ Vs B w g n c NN S W')
      case atStart => exact ⟨i, Nat.le_refl _, rfl, rfl, hV1.out⟩
      case round =>
        obtain ⟨j, hj, hgk2, rfl, hV2⟩ := hrel
        obtain ⟨W2, rfl⟩ : ∃ W2 : World, W2 = wr := ⟨_, rfl⟩
        replace hgk2 := Lib.hid hgk2
        clear hV1
        rcases Nat.eq_zero_or_pos j with h0 | h0
        · subst h0
          replace hV2 := Lib.hid hV2
          go_wp2_with fail
          go_quiet (fail)
          have hV3 : Hid (Vs B w g n c NN S (W2.drewN nq)) := by
            obtain ⟨vs, a1, a2, a3, a4⟩ := hV2.out
            exact ⟨vs, a1, a2, below_drewN a3 nq, a4⟩
          go_wp2_with fail
          have hgk := hgk.out
          go_roundg (n - (i + 1))
          case measure => omega
          case rel => exact ⟨i + 1, by omega, by omega, rfl, by go_num, hV3.out⟩
        · obtain ⟨k, rfl⟩ : ∃ k, j = k + 1 := ⟨j - 1, by omega⟩
          obtain ⟨vs, hO, hE, hB, hOt⟩ := hV2
          have k1 := hO.at (i := k + 1) (by omega)
          have k0 := hO.at (i := k) (by omega)
          obtain ⟨p1, c1, l1, e1, x1, b1, s1⟩ := hE (k + 1) (by omega)
          obtain ⟨p0, c0, l0, e0, x0, b0, s0⟩ := hE k (by omega)
          rw [e1] at k1
          rw [e0] at k0
          have HC : Hid (∀ r, Calls Try.prog 26 #[.slice p1 NN c1, .slice p0 NN c0] (W2.drewN r) fun e w' => e = .returned (.int .i64 (cmpL l1 l0)) ∧ W2.drewN r = w') := fun r =>
            compare_any p1 p0 NN NN c1 c0 l1 l0 (W2.drewN r) (by omega) (by omega) (x1.oth (hOt.drewN r) b1) (x0.oth (hOt.drewN r) b0)
          have hlv := hO.len
          generalize cmpL l1 l0 = r at *
          have i1 : ((k : Int) + 1) - 1 = (k : Int) := by omega
          have i2 : (0 : Int) ≤ (k : Int) + 1 := by omega
          have i3 : ((k : Int) + 1) < (n : Int) := by omega
          have i4 : (0 : Int) ≤ (k : Int) := by omega
          have i5 : (k : Int) < (n : Int) := by omega
          have i7 : IntKind.i64.wrap (k : Int) = k := IntWalk.i64_in _ (by omega)
          have i8 : k ≠ k + 1 := by omega
          have i9 : k + 1 ≠ k := by omega
          have i6 : decide ((0 : Int) < (k : Int) + 1) = true := decide_eq_true (by omega)
          by_cases hr : r < 0
          · have r1 : decide (r < 0) = true := by simpa using hr
            have f1 := hO.free (k + 1)
            have f0 := hO.free k
            have hO2 := (hO.set (k + 1) (.slice p0 NN c0)).set k (.slice p1 NN c1)
            have hE2 : Hid (∀ i, i < n → Elt w g NN S (vt ((vs.set (k + 1) (.slice p0 NN c0)).set k (.slice p1 NN c1)) i)) := fun t ht => by
              rw [vt_set _ _ _ _ (by rw [List.length_set]; omega)]
              by_cases h1 : t = k
              · rw [if_pos h1]; exact ⟨p1, c1, l1, rfl, x1, b1, s1⟩
              · rw [if_neg h1, vt_set _ _ _ _ (by omega)]
                by_cases h2 : t = k + 1
                · rw [if_pos h2]; exact ⟨p0, c0, l0, rfl, x0, b0, s0⟩
                · rw [if_neg h2]; exact hE t ht
            have hB2 := Lib.hid ((hB.setCell (p := ⟨g, k + 1, none⟩) hgB (.slice p0 NN c0)).setCell (p := ⟨g, k, none⟩) hgB (.slice p1 NN c1))
            have hOt2 := Lib.hid ((hOt.set (k + 1) (.slice p0 NN c0)).set k (.slice p1 NN c1))
            replace hO2 := Lib.hid hO2
            clear hO hE hB hOt e1 e0 x1 x0 b1 b0 s1 s0 hr
            replace hlv := Lib.hid hlv
            go_wp2_with fail
            go_quiet ((go_at_call 26; ((with_reducible refine (HC.out _).mono ?_); exact fun _ _ h => ⟨h.1, _, h.2.symm⟩)))
            go_wp2_with fail
            go_region_law (fail)
            all_goals
              have hV3 : Hid (Vs B w g n c NN S (((W2.drewN nq).setCell ⟨g, k + 1, none⟩ (.slice p0 NN c0)).setCell ⟨g, k, none⟩ (.slice p1 NN c1)).drew) := ⟨_, hO2.out, hE2.out, (below_drewN hB2.out (nq + 1)), hOt2.out⟩
              go_wp2_with fail
              have hgk2 := hgk2.out
              go_roundg k
              case measure => omega
              case rel => exact ⟨k, by omega, rfl, by go_num, hV3.out⟩
          · have r1 : decide (r < 0) = false := by simpa using hr
            have hV2 : Hid (Vs B w g n c NN S W2) := ⟨vs, hO, hE, hB, hOt⟩
            clear hO hE hB hOt e1 e0 x1 x0 b1 b0 s1 s0 hr
            replace hlv := Lib.hid hlv
            go_wp2_with fail
            go_quiet ((go_at_call 26; ((with_reducible refine (HC.out _).mono ?_); exact fun _ _ h => ⟨h.1, _, h.2.symm⟩)))
            have hV3 : Hid (Vs B w g n c NN S (W2.drewN nq)) := by
              obtain ⟨vs, a1, a2, a3, a4⟩ := hV2.out
              exact ⟨vs, a1, a2, below_drewN a3 nq, a4⟩
            go_wp2_with fail
            have hgk := hgk.out
            go_roundg (n - (i + 1))
            case measure => omega
            case rel => exact ⟨i + 1, by omega, by omega, rfl, by go_num, hV3.out⟩
    · go_wp2_with fail
      go_end0
      exact ⟨rfl, hV1.out⟩
set_option maxRecDepth 20000 in
set_option maxHeartbeats 1000000 in
theorem pdq_any (B g n c NN : Nat) (S : List Int → Prop) (lim : Int) (w W0 : World) (hn1 : 1 ≤ n) (hn : n ≤ 12) (hNN : NN < 1000) (hgB : B ≤ g) (hV : Vs B w g n c NN S W0) :
    Calls Try.prog 35 #[.slice (some ⟨g, 0, none⟩) n c, .int .i64 0, .int .i64 n, .int .i64 lim, .func (.func 26) #[] #[]] W0 fun e W' => e = .returned (.tuple #[]) ∧ Vs B w g n c NN S W' := by
  have HI := Lib.hid (ins_any B g n c NN S w W0 hn1 hn hNN hgB hV)
  clear hV
  have h12 : decide ((n : Int) ≤ 12) = true := decide_eq_true (by omega)
  go_enter Try.func35, Try.ntmps35
  go_wp2_with fail
  go_loopg [1, 2] 1 (fun gk av bv W' => gk = 1 ∧ av = .int .i64 0 ∧ bv = .int .i64 n ∧ W0 = W')
  case atStart => exact ⟨rfl, rfl, rfl, rfl⟩
  case round =>
    obtain ⟨hgk, rfl, rfl, rfl⟩ := hrel
    go_wp2_with fail
    refine HI.out.mono ?_
    rintro e w' ⟨rfl, hV⟩
    replace hV := Lib.hid hV
    go_wp2_with fail
    refine bodyPost_ret (results_none rfl _ _ _) rfl ?_
    exact ⟨rfl, hV.out⟩
set_option maxHeartbeats 1000000 in
theorem sortF_any (B g n c NN : Nat) (S : List Int → Prop) (w W0 : World) (hn1 : 1 ≤ n) (hn : n ≤ 12) (hNN : NN < 1000) (hgB : B ≤ g) (hV : Vs B w g n c NN S W0) :
    Calls Try.prog 25 #[.slice (some ⟨g, 0, none⟩) n c, .func (.func 26) #[] #[]] W0 fun e W' => e = .returned (.tuple #[]) ∧ Vs B w g n c NN S W' := by
  have HP := Lib.hid (fun lim => pdq_any B g n c NN S lim w W0 hn1 hn hNN hgB hV)
  have HL := Lib.hid (Sh.bits_Len (n : Int) W0 (by omega) (by omega))
  clear hV
  generalize Lib.bitLen (n : Int).toNat = r at *
  go_enter Try.func25, Try.ntmps25
  go_wp2_with fail
  refine HL.out.mono ?_
  rintro e w' ⟨rfl, rfl⟩
  go_wp2_with fail
  refine (HP.out _).mono ?_
  rintro e w' ⟨rfl, hV⟩
  replace hV := Lib.hid hV
  go_wp2_with fail
  go_end0
  exact ⟨rfl, hV.out⟩
end Go.Proofs.Ytbfdhegglaaghaa
