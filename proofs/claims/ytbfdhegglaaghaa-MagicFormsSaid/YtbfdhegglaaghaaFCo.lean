/- What slices.CompactFunc over slices.Equal does to a row of at most twelve slices: some of its elements are left, one at least; conditions stand in each. -/
import Derived.Test.YtbfdhegglaaghaaFSo
namespace Go.Proofs.Ytbfdhegglaaghaa
open Go.RowKit

theorem setCells_size (g : Nat) : ∀ (vs : List Value) (o : Nat) (w : World), (w.setCells g o vs).heap.size = w.heap.size
  | [], _, _ => rfl
  | v :: r, o, w => by rw [World.setCells, setCells_size g r]; simp [World.setCell]
theorem below_setCells {B g : Nat} (hg : B ≤ g) : ∀ (vs : List Value) (o : Nat) (w : World), Below B w (w.setCells g o vs)
  | [], _, w => Below.refl _ _
  | v :: r, o, w => by rw [World.setCells]; exact ((Below.refl B w).setCell (p := ⟨g, o, none⟩) hg v).trans (below_setCells hg r (o + 1) _)
theorem oth_setCells {g : Nat} {w : World} : ∀ (vs : List Value) (o : Nat) (W : World), Oth g w W → Oth g w (W.setCells g o vs)
  | [], _, _, h => h
  | v :: r, o, W, h => by rw [World.setCells]; exact oth_setCells r (o + 1) _ (h.set o v)
/-- what is left: k of the elements. -/
def Lft (B : Nat) (w : World) (g k NN : Nat) (S : List Int → Prop) (W : World) : Prop :=
  Below B w W ∧ Oth g w W ∧ ∀ i, i < k → ∃ v, W.cell? ⟨g, i, none⟩ = some v ∧ Elt w g NN S v

set_option maxRecDepth 20000 in
set_option maxHeartbeats 4000000 in
theorem compactF_any (B g n c NN : Nat) (S : List Int → Prop) (w W0 : World) (hn1 : 2 ≤ n) (hn : n ≤ 12) (hNN : NN < 1000) (hgB : B ≤ g) (hV : Vs B w g n c NN S W0) :
    Calls Try.prog 27 #[.slice (some ⟨g, 0, none⟩) n c, .func (.func 28) #[] #[]] W0 fun e W' => ∃ k, e = .returned (.slice (some ⟨g, 0, none⟩) k c) ∧ 1 ≤ k ∧ k ≤ n ∧ Lft B w g k NN S W' := by
  replace hV := Lib.hid hV
  have g2 : decide ((n : Int) < 2) = false := decide_eq_false (by omega)
  go_enter Try.func27, Try.ntmps27
  go_wp2_with fail
  go_loopg [5] (n - 1) (fun gk kv W' => ∃ k : Nat, 1 ≤ k ∧ k ≤ n ∧ gk = n - k ∧ kv = .int .i64 k ∧ Vs B w g n c NN S W')
  case atStart => exact ⟨1, by omega, by omega, by omega, rfl, hV.out⟩
  case round =>
    obtain ⟨k, hk1, hk, hgk, rfl, hV1⟩ := hrel
    obtain ⟨W1, rfl⟩ : ∃ W1 : World, W1 = wr := ⟨_, rfl⟩
    replace hgk := Lib.hid hgk
    clear hV
    by_cases hlt : k < n
    · obtain ⟨j, rfl⟩ : ∃ j, k = j + 1 := ⟨k - 1, by omega⟩
      obtain ⟨vs, hO, hE, hB, hOt⟩ := hV1
      have k1 := hO.at (i := j + 1) (by omega)
      have k0 := hO.at (i := j) (by omega)
      obtain ⟨p1, c1, l1, e1, x1, b1, s1⟩ := hE (j + 1) (by omega)
      obtain ⟨p0, c0, l0, e0, x0, b0, s0⟩ := hE j (by omega)
      rw [e1] at k1
      rw [e0] at k0
      have HC : Hid (∀ r, Calls Try.prog 28 #[.slice p1 NN c1, .slice p0 NN c0] (W1.drewN r) fun e w' => e = .returned (.bool (eqL l1 l0)) ∧ ∃ k, w' = W1.drewN k) := fun r =>
        (equal_any p1 p0 NN c1 c0 l1 l0 (W1.drewN r) (by omega) (x1.oth (hOt.drewN r) b1) (x0.oth (hOt.drewN r) b0)).mono fun e w' h => ⟨h.1, let ⟨k, hk⟩ := h.2; ⟨_, hk.trans (World.drewN_drewN _ _ _)⟩⟩
      have hV2 : Hid (Vs B w g n c NN S W1) := ⟨vs, hO, hE, hB, hOt⟩
      have i1 : ((j : Int) + 1) - 1 = (j : Int) := by omega
      have i2 : (0 : Int) ≤ (j : Int) + 1 := by omega
      have i3 : ((j : Int) + 1) < (n : Int) := by omega
      have i4 : (0 : Int) ≤ (j : Int) := by omega
      have i5 : (j : Int) < (n : Int) := by omega
      have i7 : IntKind.i64.wrap (j : Int) = j := IntWalk.i64_in _ (by omega)
      clear hO hE hB hOt e1 e0 x1 x0 b1 b0 s1 s0
      rcases hr : eqL l1 l0 with _ | _
      · rw [hr] at HC
        clear hr
        go_wp2_with fail
        go_quiet ((go_at_call 28; ((with_reducible refine (HC.out _).mono ?_); exact fun _ _ h => ⟨h.1, h.2⟩)))
        have hV3 : Hid (Vs B w g n c NN S (W1.drewN nq)) := by
          obtain ⟨vs, a1, a2, a3, a4⟩ := hV2.out
          exact ⟨vs, a1, a2, below_drewN a3 nq, a4⟩
        go_wp2_with fail
        have hgk := hgk.out
        go_roundg (n - (j + 1 + 1))
        case measure => omega
        case rel => exact ⟨j + 1 + 1, by omega, by omega, rfl, by go_num, hV3.out⟩
      · rw [hr] at HC
        clear hr
        go_wp2_with fail
        go_quiet ((go_at_call 28; ((with_reducible refine (HC.out _).mono ?_); exact fun _ _ h => ⟨h.1, h.2⟩)))
        have hV3 : Hid (Vs B w g n c NN S (W1.drewN nq)) := by
          obtain ⟨vs, a1, a2, a3, a4⟩ := hV2.out
          exact ⟨vs, a1, a2, below_drewN a3 nq, a4⟩
        clear k1 k0 HC hV2
        generalize W1.drewN nq = W2 at *
        have hnc : n ≤ c := by obtain ⟨vs, a1, _⟩ := hV3.out; exact a1.cap
        have hck : ¬ c = j + 1 := by omega
        go_wp2_with fail
        go_loopg [5, 7] (n - (j + 1) - 1) (fun gk2 kv bv W' => ∃ a t : Nat, j + 1 ≤ a ∧ a ≤ j + (t + 1) ∧ j + 1 + (t + 1) ≤ n ∧ gk2 = n - (j + 1) - (t + 1) ∧ kv = .int .i64 a ∧ bv = .int .i64 ((t + 1 : Nat) : Int) ∧ Vs B w g n c NN S W')
        case atStart => exact ⟨j + 1, 0, by omega, by omega, by omega, by omega, by go_num, by go_num, hV3.out⟩
        case round =>
          obtain ⟨a, t, ha1, ha2, ht, hgk2, rfl, rfl, hV4⟩ := hrel
          obtain ⟨W3, rfl⟩ : ∃ W3 : World, W3 = wr := ⟨_, rfl⟩
          replace hgk2 := Lib.hid hgk2
          clear hV3
          by_cases hlt2 : j + 1 + (t + 1) < n
          · obtain ⟨vs, hO, hE, hB, hOt⟩ := hV4
            have k1 := hO.at (i := j + 1 + (t + 1)) hlt2
            have k0 := hO.at (i := j + 1 + t) (by omega)
            obtain ⟨p1, c1, l1, e1, x1, b1, s1⟩ := hE (j + 1 + (t + 1)) hlt2
            obtain ⟨p0, c0, l0, e0, x0, b0, s0⟩ := hE (j + 1 + t) (by omega)
            rw [e1] at k1
            rw [e0] at k0
            have HC : Hid (∀ r, Calls Try.prog 28 #[.slice p1 NN c1, .slice p0 NN c0] (W3.drewN r) fun e w' => e = .returned (.bool (eqL l1 l0)) ∧ ∃ k, w' = W3.drewN k) := fun r =>
              (equal_any p1 p0 NN c1 c0 l1 l0 (W3.drewN r) (by omega) (x1.oth (hOt.drewN r) b1) (x0.oth (hOt.drewN r) b0)).mono fun e w' h => ⟨h.1, let ⟨k, hk⟩ := h.2; ⟨_, hk.trans (World.drewN_drewN _ _ _)⟩⟩
            have f1 := hO.free a
            have ka := hO.at (i := a) (by omega)
            have hlv := hO.len
            have hV5 : Hid (Vs B w g n c NN S W3) := ⟨vs, hO, hE, hB, hOt⟩
            have hV6 : Hid (Vs B w g n c NN S (W3.setCell ⟨g, a, none⟩ (.slice p1 NN c1))) := by
              refine ⟨_, hO.set a (.slice p1 NN c1), fun i hi => ?_, hB.setCell (p := ⟨g, a, none⟩) hgB _, hOt.set a _⟩
              rw [vt_set _ _ _ _ (by omega)]
              by_cases h1 : i = a
              · rw [if_pos h1]; exact ⟨p1, c1, l1, rfl, x1, b1, s1⟩
              · rw [if_neg h1]; exact hE i hi
            have i1 : ((t : Int) + 1) - 1 = (t : Int) := by omega
            have i2 : (0 : Int) ≤ (t : Int) + 1 := by omega
            have i3 : ((t : Int) + 1) < ((n - (j + 1) : Nat) : Int) := by omega
            have i4 : (0 : Int) ≤ (t : Int) := by omega
            have i5 : (t : Int) < ((n - (j + 1) : Nat) : Int) := by omega
            have i7 : IntKind.i64.wrap (t : Int) = t := IntWalk.i64_in _ (by omega)
            clear hO hE hB hOt e1 e0 x1 x0 b1 b0 s1 s0
            replace hlv := Lib.hid hlv
            generalize vt vs a = va at *
            rcases hr : eqL l1 l0 with _ | _
            · rw [hr] at HC
              clear hr
              go_wp2_with fail
              go_quiet ((go_at_call 28; ((with_reducible refine (HC.out _).mono ?_); exact fun _ _ h => ⟨h.1, h.2⟩)))
              go_wp2_with fail
              have hV7 : Hid (Vs B w g n c NN S ((W3.drewN nq).setCell ⟨g, a, none⟩ (.slice p1 NN c1))) := by
                obtain ⟨vs, a1, a2, a3, a4⟩ := hV6.out
                exact ⟨vs, a1, a2, below_drewN a3 nq, a4⟩
              have hgk2 := hgk2.out
              go_roundg (n - (j + 1) - (t + 1 + 1))
              case measure => omega
              case rel => exact ⟨a + 1, t + 1, by omega, by omega, by omega, rfl, by go_num, by go_num, hV7.out⟩
            · rw [hr] at HC
              clear hr
              go_wp2_with fail
              go_quiet ((go_at_call 28; ((with_reducible refine (HC.out _).mono ?_); exact fun _ _ h => ⟨h.1, h.2⟩)))
              go_wp2_with fail
              have hV7 : Hid (Vs B w g n c NN S (W3.drewN nq)) := by
                obtain ⟨vs, a1, a2, a3, a4⟩ := hV5.out
                exact ⟨vs, a1, a2, below_drewN a3 nq, a4⟩
              have hgk2 := hgk2.out
              go_roundg (n - (j + 1) - (t + 1 + 1))
              case measure => omega
              case rel => exact ⟨a, t + 1, by omega, by omega, by omega, rfl, by go_num, by go_num, hV7.out⟩
          · have hjt : n = j + 1 + (t + 1) := by omega
            have han : a < n := by omega
            have hca : ¬ c = a := by omega
            have hOx : ∃ vs, OwnC 23 1 B W3 (some ⟨g, 0, none⟩) n c vs := let ⟨vs, a1, _⟩ := hV4; ⟨vs, a1⟩
            obtain ⟨vs, hO⟩ := hOx
            have hcl : ∀ ty, (Builtin.clear_ #[33] ty #[.slice (some ⟨g, a, none⟩) (n - a) (c - a)]).run Try.prog W3 = .ok (.tuple #[]) (W3.setCells g a (List.replicate (n - a) (.slice none 0 0))) := fun ty =>
              Lib.run_clear_slice W3 33 23 ty (.slice none 0 0) Try.underlying33 (fun w => by kernel_rfl) rfl rfl g a (n - a) (c - a) (by omega) (fun i hi => by rw [hO.at (i := a + i) (by omega)]; rfl) (fun i _ => hO.free _)
            have hres : Hid (Lft B w g a NN S (W3.setCells g a (List.replicate (n - a) (.slice none 0 0)))) := by
              obtain ⟨vs, a1, a2, a3, a4⟩ := hV4
              refine ⟨a3.trans (below_setCells hgB _ _ _), oth_setCells _ _ _ a4, fun i hi => ⟨_, ?_, a2 i (by omega)⟩⟩
              rw [World.cell?_setCells_out _ _ _ _ _ (fun _ _ => .inl (by simp; exact hi))]
              exact a1.at (by omega)
            clear hO hV4
            have g3 : ¬ ((t : Int) + 1 < ((n - (j + 1) : Nat) : Int)) := by omega
            replace hjt := Lib.hid hjt
            go_wp2_with fail
            go_ret
            exact ⟨a, rfl, by omega, by omega, hres.out⟩
    · replace hV1 := Lib.hid hV1
      obtain rfl : k = n := by omega
      have hL : Hid (Lft B w g k NN S W1) := by
        obtain ⟨vs, a1, a2, a3, a4⟩ := hV1.out
        exact ⟨a3, a4, fun i hi => ⟨_, a1.at hi, a2 i hi⟩⟩
      go_wp2_with fail
      go_ret
      exact ⟨k, rfl, by omega, by omega, hL.out⟩
end Go.Proofs.Ytbfdhegglaaghaa
