/- What slices.SortFunc does to a row of jumps: it holds the same jumps; conditions: fewer than 1000 of them. -/
import Derived.Test.YtapoimadiiheaaaNam
import Derived.Test.YtapoimadiiheaaaShelf
import Derived.BigQuiet
import Derived.StillTactics
import Derived.Deep.DeepCutAuto
import Derived.Deep.RegionHeld3
namespace Go.Proofs.Ytapoimadiiheaaa
open Go.RowKit Go.Shelf Go.Lib Go.Sort

def orI (x y : Int) : Int := if x ≠ 0 then x else y
set_option maxHeartbeats 2000000 in
theorem or_any (p : Option Addr) (c : Nat) (x y : Int) (w : World) (hx : IntsIn w p 2 [x, y]) :
    Calls Try.prog 33 #[.slice p 2 c] w fun e w' => e = .returned (.int .i64 (orI x y)) ∧ w = w' := by
  obtain ⟨b, o, rfl, _, hc⟩ := hx.at (by omega)
  have k0 := hc 0 (by omega)
  have k1 := hc 1 (by omega)
  simp only [List.getElem?_cons_zero, List.getElem?_cons_succ, Option.getD_some] at k0 k1
  replace k0 : w.cell? ⟨b, o, none⟩ = some (.int .i64 x) := k0
  clear hc hx
  go_enter Try.func33, Try.ntmps33
  go_wp2_with fail
  go_loopg [8] 2 (fun gk iv W' => ∃ k : Nat, k ≤ 2 ∧ gk = 2 - k ∧ iv = .int .i64 k ∧ (1 ≤ k → x = 0) ∧ (2 ≤ k → y = 0) ∧ w = W')
  case atStart => exact ⟨0, by omega, rfl, rfl, fun h => absurd h (by omega), fun h => absurd h (by omega), rfl⟩
  case round =>
    obtain ⟨k, hk, hgk, rfl, hx0, hy0, rfl⟩ := hrel
    replace hgk := Lib.hid hgk
    rcases (show k = 0 ∨ k = 1 ∨ k = 2 by omega) with rfl | rfl | rfl
    · by_cases hxz : x = 0
      · subst hxz
        go_wp2_with fail
        have hgk := hgk.out
        go_roundg 1
        case measure => omega
        case rel => exact ⟨1, by omega, rfl, by go_num, by simp, by simp, rfl⟩
      · have hxb : (x != 0) = true := by simpa using hxz
        have ho : Hid (orI x y = x) := if_pos hxz
        clear hx0 hy0
        go_wp2_with fail
        go_ret
        exact ⟨ret_int ho.out.symm, rfl⟩
    · have hx1 : x = 0 := hx0 (by omega)
      subst hx1
      by_cases hyz : y = 0
      · subst hyz
        go_wp2_with fail
        have hgk := hgk.out
        go_roundg 0
        case measure => omega
        case rel => exact ⟨2, by omega, rfl, by go_num, by simp, by simp, rfl⟩
      · have hyb : (y != 0) = true := by simpa using hyz
        have ho : Hid (orI 0 y = y) := if_neg (by simp)
        clear hx0 hy0
        go_wp2_with fail
        go_ret
        exact ⟨ret_int ho.out.symm, rfl⟩
    · have hx1 : x = 0 := hx0 (by omega)
      have hy1 : y = 0 := hy0 (by omega)
      subst hx1 hy1
      clear hx0 hy0
      go_wp2_with fail
      go_ret
      exact ⟨rfl, rfl⟩
/-- a world in which blocks were laid behind w. -/
def GW (w X : World) : Prop := ∃ q os', X = grow (w.drewN q) os'
theorem GW.refl (w : World) : GW w w := ⟨0, #[], by rw [grow_empty]; rfl⟩
theorem GW.alloc {w X : World} (h : GW w X) (o : Obj) : GW w (X.alloc o) := by
  obtain ⟨q, os', rfl⟩ := h
  exact ⟨q, os' ++ #[o], by rw [alloc_eq_grow, grow_grow]⟩
theorem GW.drew {w X : World} (h : GW w X) : GW w X.drew := by
  obtain ⟨q, os', rfl⟩ := h
  exact ⟨q + 1, os', rfl⟩
def cfJ (x y : Jm) : Int := orI (compareInt (x.1 : Int) (y.1 : Int)) (compareInt (x.2.2 : Int) (y.2.2 : Int))
def encJ (x : Jm) : List Value := [.int .i64 (x.1 : Int), .int .i64 (x.2.1 : Int), .int .i64 (x.2.2 : Int)]
theorem ltJ (x y : Jm) : ltOf cfJ x y = decide (x.1 < y.1 ∨ (x.1 = y.1 ∧ x.2.2 < y.2.2)) := by
  unfold ltOf cfJ
  apply decide_eq_decide.2
  have hc : ∀ a b : Nat, (a < b ∧ compareInt (a : Int) (b : Int) = -1) ∨ (b < a ∧ compareInt (a : Int) (b : Int) = 1) ∨ (a = b ∧ compareInt (a : Int) (b : Int) = 0) := fun a b => by
    unfold compareInt
    rcases Nat.lt_trichotomy a b with h | h | h
    · exact .inl ⟨h, if_pos (by omega)⟩
    · exact .inr (.inr ⟨h, by rw [if_neg (by omega), if_neg (by omega)]⟩)
    · exact .inr (.inl ⟨h, by rw [if_neg (by omega), if_pos (by omega)]⟩)
  unfold orI
  rcases hc x.1 y.1 with ⟨h1, e1⟩ | ⟨h1, e1⟩ | ⟨h1, e1⟩ <;> rcases hc x.2.2 y.2.2 with ⟨h2, e2⟩ | ⟨h2, e2⟩ | ⟨h2, e2⟩ <;> rw [e1, e2] <;> simp <;> omega
theorem swoJ : SWO (ltOf cfJ) where
  irrefl x := by rw [ltJ]; simp
  trans x y z h1 h2 := by rw [ltJ] at *; simp at *; omega
  ntrans x y z h1 h2 := by rw [ltJ] at *; simp at *; omega
set_option maxHeartbeats 800000 in
theorem clos32 (x y : Jm) (W : World) : Calls Try.prog 32 #[.agg #[.int .i64 (x.1 : Int), .int .i64 (x.2.1 : Int), .int .i64 (x.2.2 : Int)], .agg #[.int .i64 (y.1 : Int), .int .i64 (y.2.1 : Int), .int .i64 (y.2.2 : Int)]] W fun e w' => e = .returned (.int .i64 (cfJ x y)) ∧ GW W w' := by
  obtain ⟨x1, x2, x3⟩ := x
  obtain ⟨y1, y2, y3⟩ := y
  have hcf : Hid (orI (compareInt (x1 : Int) (y1 : Int)) (compareInt (x3 : Int) (y3 : Int)) = cfJ (x1, x2, x3) (y1, y2, y3)) := rfl
  have C : ∀ (a b : Int) (w : World), Calls Try.prog 34 #[.int .i64 a, .int .i64 b] w fun e w' => e = .returned (.int .i64 (compareInt a b)) ∧ w' = w := fun a b w => AnyG.cmp_Compare_int Sh.cmpJ a b w
  have C1 := Lib.hid (C (x1 : Int) (y1 : Int))
  have C2 := Lib.hid (C (x3 : Int) (y3 : Int))
  clear C
  generalize cfJ (x1, x2, x3) (y1, y2, y3) = r at *
  generalize compareInt (x1 : Int) (y1 : Int) = r1 at *
  generalize compareInt (x3 : Int) (y3 : Int) = r2 at *
  have eA := heap_alloc_new W (.cells #[.int .i64 (x1 : Int), .int .i64 (x2 : Int), .int .i64 (x3 : Int)] 54)
  obtain ⟨f0, f1⟩ := heap2 W (.cells #[.int .i64 (x1 : Int), .int .i64 (x2 : Int), .int .i64 (x3 : Int)] 54) (.cells #[.int .i64 (y1 : Int), .int .i64 (y2 : Int), .int .i64 (y3 : Int)] 54)
  have hG := ((GW.refl W).alloc (.cells #[.int .i64 (x1 : Int), .int .i64 (x2 : Int), .int .i64 (x3 : Int)] 54)).alloc (.cells #[.int .i64 (y1 : Int), .int .i64 (y2 : Int), .int .i64 (y3 : Int)] 54)
  clear eA
  have hsz : ((W.alloc (.cells #[.int .i64 (x1 : Int), .int .i64 (x2 : Int), .int .i64 (x3 : Int)] 54)).alloc (.cells #[.int .i64 (y1 : Int), .int .i64 (y2 : Int), .int .i64 (y3 : Int)] 54)).heap.size = W.heap.size + 2 := by simp
  go_enter Try.func32, Try.ntmps32
  go_upto_region 1 with fail
  generalize (W.alloc (.cells #[.int .i64 (x1 : Int), .int .i64 (x2 : Int), .int .i64 (x3 : Int)] 54)).alloc (.cells #[.int .i64 (y1 : Int), .int .i64 (y2 : Int), .int .i64 (y3 : Int)] 54) = V at *
  have a0 : V.cell? ⟨W.heap.size, 0, none⟩ = some (.int .i64 (x1 : Int)) := wcell (cs := [_, _, _]) f0 0
  have a2 : V.cell? ⟨W.heap.size, 2, none⟩ = some (.int .i64 (x3 : Int)) := wcell (cs := [_, _, _]) f0 2
  have b0 : V.cell? ⟨W.heap.size + 1, 0, none⟩ = some (.int .i64 (y1 : Int)) := wcell (cs := [_, _, _]) f1 0
  have b2 : V.cell? ⟨W.heap.size + 1, 2, none⟩ = some (.int .i64 (y3 : Int)) := wcell (cs := [_, _, _]) f1 2
  clear f0 f1
  have HO : Hid (∀ X : World, X.heap[W.heap.size + 2]? = some (.cells #[.int .i64 r1, .int .i64 r2] 3 (0, 0)) → Calls Try.prog 33 #[.slice (some ⟨W.heap.size + 2, 0, none⟩) 2 2] X fun e w6 => e = .returned (.int .i64 (orI r1 r2)) ∧ X = w6) := fun X h => or_any _ 2 r1 r2 X (IntsIn.mk' rfl (lt_of_heap h) fun j hj => by
    rcases (show j = 0 ∨ j = 1 by omega) with rfl | rfl
    · exact wcell (cs := [_, _]) h 0
    · exact wcell (cs := [_, _]) h 1)
  have hnw : (V.alloc (.cells #[.int .i64 r1, .int .i64 r2] 3)).heap[W.heap.size + 2]? = some (.cells #[.int .i64 r1, .int .i64 r2] 3 (0, 0)) := by rw [← hsz]; exact heap_alloc_new V _
  go_cut [4] (fun v wx => v = .int .i64 r ∧ GW W wx)
  case first =>
    go_region_held3 (fun w' => w'.cell? ⟨W.heap.size, 0, none⟩ = some (.int .i64 (x1 : Int)) ∧ w'.cell? ⟨W.heap.size, 2, none⟩ = some (.int .i64 (x3 : Int)) ∧ w'.cell? ⟨W.heap.size + 1, 0, none⟩ = some (.int .i64 (y1 : Int)) ∧ w'.cell? ⟨W.heap.size + 1, 2, none⟩ = some (.int .i64 (y3 : Int))) (first | with_reducible exact ⟨a0, a2, b0, b2⟩ | go_keep)
      (first
      | (go_at_call 34; (with_reducible refine (C1.out _).mono ?_); rintro e w6 ⟨rfl, rfl⟩)
      | (go_at_call 34; (with_reducible refine (C2.out _).mono ?_); rintro e w6 ⟨rfl, rfl⟩)
      | (go_at_call 33; (with_reducible refine (HO.out _ ?_).mono ?_); exact hnw; rintro e w6 ⟨rfl, rfl⟩))
    all_goals
      go_wp2_with fail
      go_meet
      exact ⟨by rw [← hcf.out], (hG.alloc _).drew⟩
  case rest =>
    obtain ⟨rfl, hG2⟩ := hcut
    replace hG2 := Lib.hid hG2
    go_wp2_with fail
    go_ret
    exact ⟨rfl, hG2.out⟩
/-- '.slice p n _' reads as the jumps J (in a block from B on). -/
def JIn (B : Nat) (w : World) (p : Option Addr) (n : Nat) (J : List Jm) : Prop :=
  J.length = n ∧ ∀ i, i < n → ∃ g j, p = some ⟨g, 0, none⟩ ∧ B ≤ g ∧ g < w.heap.size ∧ J[i]? = some j ∧ w.cell? ⟨g, 3 * i, none⟩ = some (.int .i64 (j.1 : Int)) ∧ w.cell? ⟨g, 3 * i + 1, none⟩ = some (.int .i64 (j.2.1 : Int)) ∧ w.cell? ⟨g, 3 * i + 2, none⟩ = some (.int .i64 (j.2.2 : Int))
theorem JIn.block {B : Nat} {w : World} {p : Option Addr} {n : Nat} {J : List Jm} (h : JIn B w p n J) (hn : 0 < n) : ∃ g, p = some ⟨g, 0, none⟩ ∧ B ≤ g ∧ g < w.heap.size := by
  obtain ⟨g, j, h1, h2, h3, _⟩ := h.2 0 hn
  exact ⟨g, h1, h2, h3⟩
theorem JIn.keep {B : Nat} {w w' : World} {p : Option Addr} {n : Nat} {J : List Jm} (h : JIn B w p n J) (hs : w.heap.size ≤ w'.heap.size) (hk : ∀ a, p = some a → B ≤ a.block → a.block < w.heap.size → w'.heap[a.block]? = w.heap[a.block]?) : JIn B w' p n J :=
  ⟨h.1, fun i hi => by
    obtain ⟨g, j, h1, h2, h3, h4, c1, c2, c3⟩ := h.2 i hi
    have e := hk _ h1 h2 h3
    exact ⟨g, j, h1, h2, Nat.lt_of_lt_of_le h3 hs, h4, (World.cell?_of_block (a := ⟨g, 3 * i, none⟩) e).trans c1, (World.cell?_of_block (a := ⟨g, 3 * i + 1, none⟩) e).trans c2, (World.cell?_of_block (a := ⟨g, 3 * i + 2, none⟩) e).trans c3⟩⟩
theorem JIn.below {B : Nat} {w w' : World} {p : Option Addr} {n : Nat} {J : List Jm} (h : JIn B w p n J) (hb : Below w.heap.size w w') : JIn B w' p n J := h.keep hb.size fun _ _ _ h3 => hb.block _ h3
theorem flat_at (J : List Jm) {i r : Nat} (hi : i < J.length) (hr : r < 3) : (flatK encJ 3 J.toArray)[3 * i + r]! = (encJ J[i])[r]! := by
  rw [get_flatK _ _ _ _ (by simp; omega), show (3 * i + r) / 3 = i by omega, show (3 * i + r) % 3 = r by omega]
  congr 2
  simp [hi]
theorem cmp32 (g n : Nat) (w : World) : CmpLays Try.prog 32 #[] encJ 3 cfJ g 0 n w := fun _ _ _ _ x y => clos32 x y _
theorem sortJ_any (p : Option Addr) (n c B : Nat) (J : List Jm) (w : World) (hn : n ≤ 1000000) (hO : OwnJ B w p n c J) :
    Calls Try.prog 31 #[.slice p n c, .func (.func 32) #[] #[]] w fun e w' => e = .returned (.tuple #[]) ∧ ∃ J', J'.Perm J ∧ JIn B w' p n J' ∧ w.grownBy w' (p.map (·.block)) := by
  have hl := hO.len
  rcases Nat.eq_zero_or_pos n with h0 | h0
  · subst h0
    have hl0 : J = [] := List.eq_nil_of_length_eq_zero hl
    subst hl0
    refine (AnyF.slices_SortFunc_none Sh.sortJ p c _ w).mono fun e w' ⟨he, hw⟩ => ⟨he, [], List.Perm.refl _, ?_, ?_⟩
    · exact ⟨rfl, fun i hi => absurd hi (by omega)⟩
    · rw [hw]; exact ⟨rfl, rfl, rfl, Nat.le_refl _, fun _ _ _ => rfl⟩
  · obtain ⟨g, rfl, hgB, hg, _⟩ := OwnC.where hO h0
    have hH : HoldsK encJ 3 w g 0 J.toArray := fun t ht => by
      have ht' : t < n * 3 := by rw [size_flatK] at ht; simpa [hl] using ht
      refine ⟨?_, OwnC.free hO _⟩
      rw [Nat.zero_add, OwnC.cell hO ht']
      have hi : t / 3 < J.length := by omega
      obtain ⟨k0, k1, k2⟩ := jvals_at (List.getElem?_eq_getElem hi)
      have ht3 : t = 3 * (t / 3) + t % 3 := by omega
      have h3 : t % 3 < 3 := by omega
      generalize t % 3 = r at *
      generalize t / 3 = i at *
      subst ht3
      rw [flat_at J hi h3]
      rcases (show r = 0 ∨ r = 1 ∨ r = 2 by omega) with rfl | rfl | rfl
      · exact k0
      · exact k1
      · exact k2
    have eg : ∀ args w, (callFunc 32 args).run Try.prog w = .ok (.enter 32 args) w := enters_of Try.func32 (by kernel_rfl) rfl
    have hs := AnyQ.slices_SortFunc Sh.sortJ 3 Try.isAgg54 Try.sizeOf54 encJ (fun _ => rfl) (fun x v hv => by simp [encJ] at hv; rcases hv with rfl | rfl | rfl <;> rfl) cfJ swoJ 32 #[] g 0 c J.toArray w eg (cmp32 g _ w) hH hg (by simp; omega)
    rw [show J.toArray.size = n by simp [hl]] at hs
    refine hs.mono fun e w' ⟨he, d', k, os, hp, _, hw⟩ => ⟨he, d'.toList, ?_, ?_, ?_⟩
    · have h3 := hp.2.2
      have h1 := hp.1
      have e1 : d'.extract 0 n = d' := by rw [Array.extract_eq_self_of_le (by simp at h1; omega)]
      have e2 : J.toArray.extract 0 n = J.toArray := by rw [Array.extract_eq_self_of_le (by simp; omega)]
      rw [e1, e2] at h3
      simpa using h3
    · have hds : d'.size = n := by have := hp.1; simp at this; omega
      refine ⟨by simpa using hds, fun i hi => ?_⟩
      have hi' : i < d'.toList.length := by simpa [hds] using hi
      have hcell : ∀ r, r < 3 → w'.cell? ⟨g, 3 * i + r, none⟩ = some ((encJ d'.toList[i])[r]!) := fun r hr => by
        have hc := cell?_putRow id (Sort.ahead w k) g 0 (flatK encJ 3 J.toArray) (flatK encJ 3 d') (holds_ahead _ _ _ _ _ _ hH) (by simp [hl, hds]) (3 * i + r) (by simp [hds]; omega)
        rw [Nat.zero_add] at hc
        rw [hw]
        unfold sortWorldK
        rw [World.cell?_of_block (a := ⟨g, 3 * i + r, none⟩) (w' := grow (putRowK encJ 3 (Sort.ahead w k) g 0 d') os) (w := putRow id (Sort.ahead w k) g 0 (flatK encJ 3 d')) (by simp only [grow]; rw [Array.getElem?_append_left (by simp [putRowK]; exact hg)]; rfl), hc]
        have := flat_at d'.toList hi' hr
        simp only [Array.toArray_toList] at this
        rw [this]; rfl
      refine ⟨g, d'.toList[i], rfl, hgB, ?_, List.getElem?_eq_getElem hi', hcell 0 (by omega), hcell 1 (by omega), hcell 2 (by omega)⟩
      rw [hw]; unfold sortWorldK; simp [grow, putRowK]; omega
    · rw [hw]
      refine ⟨rfl, rfl, rfl, by unfold sortWorldK; simp [grow, putRowK], fun b hb hne => ?_⟩
      have hbg : b ≠ g := fun e => hne (by rw [e]; rfl)
      show ((putRow id (Sort.ahead w k) g 0 (flatK encJ 3 d')).heap ++ os)[b]? = _
      rw [Array.getElem?_append_left (by simp; exact hb)]
      simp [putRow, mapBlock, Array.getElem?_modify, Ne.symm hbg]
end Go.Proofs.Ytapoimadiiheaaa
