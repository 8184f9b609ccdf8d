/- What slices.CompactFunc over slices.Equal does to a row of ways: of neighbours that are alike one is left; conditions: the row is as RowF tells. -/
import Derived.Test.YtelhpfhnmnaefaaDrS
import Derived.BigQuiet
import Derived.Lib.SliceRun
import Derived.Laws.IdiomCopy
namespace Go.Proofs.Ytelhpfhnmnaefaa
open Go.RowKit

theorem RowF.set {g n : Nat} {F : Nat → List Nat} {W : World} (h : RowF g n F W) {a : Nat} (ha : a < n) {p : Option Addr} {m c : Nat} {l : List Nat} (hx : IntsIn W p m (asI l)) (hm : m ≤ 1000000) (hne : ∀ x, p = some x → x.block ≠ g) :
    RowF g n (fun i => if i = a then l else F i) (W.setCell ⟨g, a, none⟩ (.slice p m c)) := by
  have ho : Ob g W (W.setCell ⟨g, a, none⟩ (.slice p m c)) := (Ob.refl g W).set a _
  refine ⟨fun i hi => ?_, fun i hi => by rw [World.frozen?_setCell]; exact h.free i hi⟩
  by_cases e : i = a
  · subst e
    obtain ⟨p0, m0, c0, h1, _⟩ := h.at_ i hi
    rw [if_pos rfl]
    exact ⟨p, m, c, World.cell?_setCell_same' W _ _ (by rw [h1]; rfl), hx.ob ho hne, hm, hne⟩
  · obtain ⟨p0, m0, c0, h1, h2, h3, h4⟩ := h.at_ i hi
    rw [if_neg e]
    exact ⟨p0, m0, c0, by rw [World.cell?_setCell_other (h := by intro e2; apply e; cases e2; rfl)]; exact h1, h2.ob ho h4, h3, h4⟩
theorem RowF.drewN {g n : Nat} {F : Nat → List Nat} {W : World} (h : RowF g n F W) (k : Nat) : RowF g n F (W.drewN k) := ⟨h.at_, h.free⟩
theorem range_set (a : Nat) (l : List Nat) (G : Nat → List Nat) : (List.range (a + 1)).map (fun i => if i = a then l else G i) = (List.range a).map G ++ [l] := by
  rw [List.range_succ, List.map_append]
  congr 1
  · apply List.map_congr_left
    intro i hi
    rw [if_neg (by have := List.mem_range.1 hi; omega)]
  · simp
theorem ob_setCells {g : Nat} {w : World} : ∀ (vs : List Value) (o : Nat) (W : World), Ob g w W → Ob g w (W.setCells g o vs)
  | [], _, _, h => h
  | v :: r, o, W, h => by rw [World.setCells]; exact ob_setCells r (o + 1) _ (h.set o v)
/-- the first ways of a row, as a list. -/
def RowL (g : Nat) (R : List (List Nat)) (W : World) : Prop := ∀ i l, R[i]? = some l → ∃ (p : Option Addr) (m c : Nat), W.cell? ⟨g, i, none⟩ = some (.slice p m c) ∧ IntsIn W p m (asI l) ∧ m ≤ 1000000 ∧ ∀ a, p = some a → a.block ≠ g
theorem RowF.list {g n a : Nat} {G : Nat → List Nat} {W : World} {R : List (List Nat)} (h : RowF g n G W) (ha : a ≤ n) (hR : (List.range a).map G = R) : RowL g R W := fun i l hi => by
  subst hR
  have hlt : i < a := by have := (List.getElem?_eq_some_iff.1 hi).1; simpa using this
  obtain ⟨p, m, c, h1, h2, h3, h4⟩ := h.at_ i (by omega)
  have e : G i = l := by simpa [hlt] using hi
  rw [e] at h2
  exact ⟨p, m, c, h1, h2, h3, h4⟩

set_option maxRecDepth 20000 in
set_option maxHeartbeats 8000000 in
theorem compact_any (g n c : Nat) (F : Nat → List Nat) (W0 : World) (hn2 : 2 ≤ n) (hn : n ≤ 1000000000000) (hnc : n ≤ c) (hR : RowF g n F W0) :
    Calls Try.prog 20 #[.slice (some ⟨g, 0, none⟩) n c, .func (.func 21) #[] #[]] W0 fun e W' => e = .returned (.slice (some ⟨g, 0, none⟩) (cpN F n).length c) ∧ RowL g (cpN F n) W' ∧ Ob g W0 W' := by
  have g2 : decide ((n : Int) < 2) = false := decide_eq_false (by omega)
  have hRR := Lib.hid hR
  obtain ⟨R, hRe⟩ : ∃ R, cpN F n = R := ⟨_, rfl⟩
  rw [hRe]
  replace hRe := Lib.hid hRe
  clear hR
  go_enter Try.func20, Try.ntmps20
  go_wp2_with fail
  go_loopg [5] (n - 1) (fun gk kv W' => ∃ k : Nat, 1 ≤ k ∧ k ≤ n ∧ gk = n - k ∧ kv = .int .i64 k ∧ RowF g n F W' ∧ Ob g W0 W' ∧ (List.range k).map F = cpN F k)
  case atStart => exact ⟨1, by omega, by omega, by omega, rfl, hRR.out, Ob.refl _ _, rfl⟩
  case round =>
    obtain ⟨k, hk1, hk, hgk, rfl, hV1, hO1, hcp⟩ := hrel
    obtain ⟨W1, rfl⟩ : ∃ W1 : World, W1 = wr := ⟨_, rfl⟩
    replace hgk := Lib.hid hgk
    clear hRR
    by_cases hlt : k < n
    · obtain ⟨j, rfl⟩ : ∃ j, k = j + 1 := ⟨k - 1, by omega⟩
      obtain ⟨p1, m1, c1, k1, x1, b1, s1⟩ := hV1.at_ (j + 1) (by omega)
      obtain ⟨p0, m0, c0, k0, x0, b0, s0⟩ := hV1.at_ j (by omega)
      have HC : Hid (∀ r, Calls Try.prog 21 #[.slice p1 m1 c1, .slice p0 m0 c0] (W1.drewN r) fun e w' => e = .returned (.bool (decide (F (j + 1) = F j))) ∧ ∃ k, w' = W1.drewN k) := fun r =>
        (equal_any p1 p0 m1 m0 c1 c0 _ _ (W1.drewN r) b1 b0 (x1.keep (Nat.le_refl _) fun _ _ _ => rfl) (x0.keep (Nat.le_refl _) fun _ _ _ => rfl)).mono fun e w' h => ⟨h.1, let ⟨k, hk⟩ := h.2; ⟨_, hk.trans (World.drewN_drewN _ _ _)⟩⟩
      have i1 : ((j : Int) + 1) - 1 = (j : Int) := by omega
      have i2 : (0 : Int) ≤ (j : Int) + 1 := by omega
      have i3 : ((j : Int) + 1) < (n : Int) := by omega
      have i4 : (0 : Int) ≤ (j : Int) := by omega
      have i5 : (j : Int) < (n : Int) := by omega
      have i7 : IntKind.i64.wrap (j : Int) = j := IntWalk.i64_in _ (by omega)
      have hnext : cpN F (j + 1 + 1) = if F (j + 1) = F j then cpN F (j + 1) else cpN F (j + 1) ++ [F (j + 1)] := rfl
      replace hV1 := Lib.hid hV1; replace hO1 := Lib.hid hO1; replace hcp := Lib.hid hcp
      clear x1 x0 b1 b0 s1 s0
      by_cases hr : F (j + 1) = F j
      · rw [decide_eq_true hr] at HC
        rw [if_pos hr] at hnext
        replace hr := Lib.hid hr; replace hnext := Lib.hid hnext
        go_wp2_with fail
        go_quiet ((go_at_call 21; ((with_reducible refine (HC.out _).mono ?_); exact fun _ _ h => ⟨h.1, h.2⟩)))
        have hV3 : Hid (RowF g n F (W1.drewN nq)) := hV1.out.drewN nq
        have hO3 : Hid (Ob g W0 (W1.drewN nq)) := hO1.out.drewN nq
        clear k1 k0 HC hV1 hO1
        generalize W1.drewN nq = W2 at *
        have hck : ¬ c = j + 1 := by omega
        go_wp2_with fail
        go_loopg [5, 7] (n - (j + 1) - 1) (fun gk2 kv bv W' => ∃ (a t : Nat) (G : Nat → List Nat), a ≤ j + (t + 1) ∧ j + 1 + (t + 1) ≤ n ∧ gk2 = n - (j + 1) - (t + 1) ∧ kv = .int .i64 a ∧ bv = .int .i64 ((t + 1 : Nat) : Int) ∧ RowF g n G W' ∧ Ob g W0 W' ∧ (∀ i, j + 1 + t ≤ i → G i = F i) ∧ (List.range a).map G = cpN F (j + 1 + (t + 1)))
        case atStart => exact ⟨j + 1, 0, F, by omega, by omega, by omega, by go_num, by go_num, hV3.out, hO3.out, fun _ _ => rfl, by rw [hcp.out]; exact hnext.out.symm⟩
        case round =>
          obtain ⟨a, t, G, ha2, ht, hgk2, rfl, rfl, hV4, hO4, hG, hc4⟩ := hrel
          obtain ⟨W3, rfl⟩ : ∃ W3 : World, W3 = wr := ⟨_, rfl⟩
          replace hgk2 := Lib.hid hgk2
          clear hV3 hO3
          by_cases hlt2 : j + 1 + (t + 1) < n
          · obtain ⟨p1, m1, c1, k1, x1, b1, s1⟩ := hV4.at_ (j + 1 + (t + 1)) hlt2
            obtain ⟨p0, m0, c0, k0, x0, b0, s0⟩ := hV4.at_ (j + 1 + t) (by omega)
            rw [hG _ (by omega)] at x1 x0
            have HC : Hid (∀ r, Calls Try.prog 21 #[.slice p1 m1 c1, .slice p0 m0 c0] (W3.drewN r) fun e w' => e = .returned (.bool (decide (F (j + 1 + (t + 1)) = F (j + 1 + t)))) ∧ ∃ k, w' = W3.drewN k) := fun r =>
              (equal_any p1 p0 m1 m0 c1 c0 _ _ (W3.drewN r) b1 b0 (x1.keep (Nat.le_refl _) fun _ _ _ => rfl) (x0.keep (Nat.le_refl _) fun _ _ _ => rfl)).mono fun e w' h => ⟨h.1, let ⟨k, hk⟩ := h.2; ⟨_, hk.trans (World.drewN_drewN _ _ _)⟩⟩
            have f1 := hV4.free a (by omega)
            obtain ⟨pa, ma, ca, ka, _⟩ := hV4.at_ a (by omega)
            have hV6 : Hid (RowF g n (fun i => if i = a then F (j + 1 + (t + 1)) else G i) (W3.setCell ⟨g, a, none⟩ (.slice p1 m1 c1))) := hV4.set (by omega) x1 b1 s1
            have hO6 : Hid (Ob g W0 (W3.setCell ⟨g, a, none⟩ (.slice p1 m1 c1))) := hO4.set a _
            have hnext2 : cpN F (j + 1 + (t + 1) + 1) = if F (j + 1 + (t + 1)) = F (j + 1 + t) then cpN F (j + 1 + (t + 1)) else cpN F (j + 1 + (t + 1)) ++ [F (j + 1 + (t + 1))] := rfl
            have i1 : ((t : Int) + 1) - 1 = (t : Int) := by omega
            have i2 : (0 : Int) ≤ (t : Int) + 1 := by omega
            have i3 : ((t : Int) + 1) < ((n - (j + 1) : Nat) : Int) := by omega
            have i4 : (0 : Int) ≤ (t : Int) := by omega
            have i5 : (t : Int) < ((n - (j + 1) : Nat) : Int) := by omega
            have i7 : IntKind.i64.wrap (t : Int) = t := IntWalk.i64_in _ (by omega)
            replace hV4 := Lib.hid hV4; replace hO4 := Lib.hid hO4; replace hG := Lib.hid hG; replace hc4 := Lib.hid hc4; replace hnext2 := Lib.hid hnext2
            clear x1 x0 b1 b0 s1 s0
            by_cases hr2 : F (j + 1 + (t + 1)) = F (j + 1 + t)
            · rw [decide_eq_true hr2] at HC
              have hn2' := hnext2.out
              rw [if_pos hr2] at hn2'
              replace hr2 := Lib.hid hr2; replace hn2' := Lib.hid hn2'
              go_wp2_with fail
              go_quiet ((go_at_call 21; ((with_reducible refine (HC.out _).mono ?_); exact fun _ _ h => ⟨h.1, h.2⟩)))
              go_wp2_with fail
              have hgk2 := hgk2.out
              go_roundg (n - (j + 1) - (t + 1 + 1))
              case measure => omega
              case rel => exact ⟨a, t + 1, G, by omega, by omega, rfl, by go_num, by go_num, hV4.out.drewN _, hO4.out.drewN _, fun i hi => hG.out i (by omega), by rw [hc4.out]; exact hn2'.out.symm⟩
            · rw [decide_eq_false hr2] at HC
              have hn2' := hnext2.out
              rw [if_neg hr2] at hn2'
              replace hr2 := Lib.hid hr2; replace hn2' := Lib.hid hn2'
              go_wp2_with fail
              go_quiet ((go_at_call 21; ((with_reducible refine (HC.out _).mono ?_); exact fun _ _ h => ⟨h.1, h.2⟩)))
              go_wp2_with fail
              have hgk2 := hgk2.out
              go_roundg (n - (j + 1) - (t + 1 + 1))
              case measure => omega
              case rel =>
                refine ⟨a + 1, t + 1, _, by omega, by omega, rfl, by go_num, by go_num, hV6.out.drewN nq, hO6.out.drewN nq, fun i hi => ?_, ?_⟩
                · show (if i = a then _ else G i) = F i
                  rw [if_neg (by omega)]; exact hG.out i (by omega)
                · rw [range_set, hc4.out]; exact hn2'.out.symm
          · have hjt : n = j + 1 + (t + 1) := by omega
            have han : a < n := by omega
            have hca : ¬ c = a := by omega
            have hcl : ∀ ty, (Builtin.clear_ #[29] ty #[.slice (some ⟨g, a, none⟩) (n - a) (c - a)]).run Try.prog W3 = .ok (.tuple #[]) (W3.setCells g a (List.replicate (n - a) (.slice none 0 0))) := fun ty =>
              Lib.run_clear_slice W3 29 22 ty (.slice none 0 0) Try.underlying29 (fun w => by kernel_rfl) rfl rfl g a (n - a) (c - a) (by omega) (fun i hi => by obtain ⟨_, _, _, h, _⟩ := hV4.at_ (a + i) (by omega); rw [h]; rfl) (fun i _ => hV4.free _ (by omega))
            have hres : Hid (RowL g R (W3.setCells g a (List.replicate (n - a) (.slice none 0 0)))) := by
              show RowL _ _ _
              rw [← hRe.out, hjt, ← hc4]
              have h1 := hV4.list (a := a) (by omega) rfl
              have ho : Ob g W3 (W3.setCells g a (List.replicate (j + 1 + (t + 1) - a) (.slice none 0 0))) := ob_setCells _ _ _ (Ob.refl _ _)
              intro i l hi
              have hlt : i < a := by have := (List.getElem?_eq_some_iff.1 hi).1; simpa using this
              obtain ⟨p, m, c, k1, k2, k3, k4⟩ := h1 i l hi
              refine ⟨p, m, c, ?_, k2.ob ho k4, k3, k4⟩
              rw [World.cell?_setCells_out _ _ _ _ _ (fun _ _ => .inl (by simp; exact hlt))]
              exact k1
            have hobr : Hid (Ob g W0 (W3.setCells g a (List.replicate (n - a) (.slice none 0 0)))) := ob_setCells _ _ _ hO4
            have hRl : Hid (R.length = a) := by show _ = _; rw [← hRe.out, hjt, ← hc4]; simp
            have g3 : ¬ ((t : Int) + 1 < ((n - (j + 1) : Nat) : Int)) := by omega
            replace hjt := Lib.hid hjt; replace hV4 := Lib.hid hV4; replace hO4 := Lib.hid hO4; replace hG := Lib.hid hG; replace hc4 := Lib.hid hc4
            go_wp2_with fail
            go_ret
            exact ⟨by rw [hRl.out]; rfl, hres.out, hobr.out⟩
      · rw [decide_eq_false hr] at HC
        rw [if_neg hr] at hnext
        replace hr := Lib.hid hr; replace hnext := Lib.hid hnext
        go_wp2_with fail
        go_quiet ((go_at_call 21; ((with_reducible refine (HC.out _).mono ?_); exact fun _ _ h => ⟨h.1, h.2⟩)))
        go_wp2_with fail
        have hgk := hgk.out
        go_roundg (n - (j + 1 + 1))
        case measure => omega
        case rel => exact ⟨j + 1 + 1, by omega, by omega, rfl, by go_num, hV1.out.drewN _, hO1.out.drewN _, by rw [hnext.out, ← hcp.out, List.range_succ, List.map_append]; rfl⟩
    · obtain rfl : n = k := by omega
      have hlen : (cpN F n).length = n := by rw [← hcp]; simp
      have hfin : Hid (RowL g R W1) := by show RowL _ _ _; rw [← hRe.out]; exact hV1.list (Nat.le_refl _) hcp
      have hRl : Hid (R.length = n) := by show _ = _; rw [← hRe.out]; exact hlen
      replace hlen := Lib.hid hlen; replace hV1 := Lib.hid hV1; replace hO1 := Lib.hid hO1; replace hcp := Lib.hid hcp
      go_wp2_with fail
      go_ret
      exact ⟨by rw [hRl.out]; rfl, hfin.out, hO1.out⟩
end Go.Proofs.Ytelhpfhnmnaefaa
