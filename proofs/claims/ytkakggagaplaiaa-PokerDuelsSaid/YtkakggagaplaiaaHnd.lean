/- What gameroomkeep.hand deals: unlike cards; conditions: at most twelve of them. -/
import Derived.Test.YtkakggagaplaiaaStepA
import Derived.Test.YtkakggagaplaiaaSlV
namespace Go.Proofs.Ytkakggagaplaiaa
open Go.RowKit

theorem step_appendL {P : Program} {T E : TypeId} (hT : IntT P T E) {ops : Array Oper} {o : Oper} {a : Act} {K : Act → World → Prop} {Q : Exit → Act → World → Prop} {EE : Prop} (w : World) (hgd : o.guard = none) (s x : Operand)
    (hop : o.op = .call { callee := .builtin .append, args := #[s, x], argTypes := #[T, T] })
    (B : Nat) (p : Option Addr) (n c : Nat) (xs : List Int) (hs : a.eval s = .slice p n c) (own : Own E B w p n c xs) (ad : Addr) (m c2 : Nat) (ys : List Int) (hx : a.eval x = .slice (some ad) m c2) (hyl : ys.length = m)
    (hc : ∀ j, j < m → w.cell? (ad.add j) = some (.int .i64 (ys[j]?.getD 0)))
    (hn : n + m < 1099511627776) (hB : B ≤ w.heap.size)
    (hK : ∀ p' c' w', Own E B w' p' (n + m) c' (xs ++ ys) → w.grownBy w' (p.map (·.block)) → K (a.put o.dst (.slice p' (n + m) c')) w') :
    if Region.wanted o (yielded ops a.tmps) = true then Oper.wp P o a w K Q else EE := by
  obtain ⟨i0, hi, hz0, hz1, hz2⟩ := info_parts hT.info
  have hw : Region.wanted o (yielded ops a.tmps) = true := by simp [Region.wanted, hgd]
  rw [if_pos hw]
  obtain ⟨v', w', hrun, h2, h3, _, _⟩ := run_append_own_at (P := P) w B T o.type E i0 (.int .i64 0) 1 8 hT.under hi hz0 hz1 hz2 rfl (by omega) (.slice p n c) n _ own ad m c2 (ys.map (Value.int .i64)) (by simp [hyl])
    (fun j u hj => by
      have hjl : j < m := by
        have := (List.getElem?_eq_some_iff.1 hj).1
        simp at this; omega
      rw [hc j hjl]
      rw [List.getElem?_map] at hj
      rw [List.getElem?_eq_getElem (by omega)] at hj ⊢
      simpa using hj)
    (by intro u hu; obtain ⟨y, _, rfl⟩ := List.mem_map.1 hu; rfl) (by unfold maxLen; omega) (by omega) hB
  unfold Oper.wp
  simp [execOp, hop, resolve, invoke, builtin, hs, hx, hrun, Result.andThen]
  have hshape : ∃ p' c', v' = .slice p' (n + m) c' := by
    rcases h2.2 with ⟨hv, h0⟩ | ⟨g, cap, cur, hv, _⟩
    · exact ⟨none, 0, by rw [hv, h0]⟩
    · exact ⟨_, _, hv⟩
  obtain ⟨p', c', rfl⟩ := hshape
  refine hK p' c' w' (by simpa [Own] using h2) ⟨h3.os, h3.tape, h3.output, h3.size, fun k hk hne => h3.block k hk ?_⟩
  intro e; apply hne; rw [e]; cases p <;> rfl
theorem ints_some (b o n c : Nat) (xs : List Int) (w : World) (hn : n < 1099511627776) (hx : IntsIn w (some ⟨b, o, none⟩) n xs) :
    Calls Try.prog 24 #[.slice (some ⟨b, o, none⟩) n c] w fun e w' => ∃ p' c', e = .returned (.slice p' n c') ∧ Own 3 w.heap.size w' p' n c' xs ∧ Below w.heap.size w w' := by
  have hin := Lib.hid hx
  clear hx
  go_enter Try.func24, Try.ntmps24
  go_wp2_with (at_builtin; refine wp_appendL intG _ rfl _ _ rfl w.heap.size none 0 0 [] rfl (Own.nil 3 w.heap.size w) ⟨b, o, none⟩ n c xs rfl hin.out (by omega) (by simp) ?_; intro p' c' w2 hO hg _ hz)
  have hB : Below w.heap.size w w2 := (Below.refl _ w).grown hg (by simp) (fun x hx => by cases hx)
  replace hO := Lib.hid hO; replace hB := Lib.hid hB
  clear hg hz
  go_wp2
  go_ret
  exact ⟨p', c', by simp, by simpa using hO.out, hB.out⟩
/-- what is dealt and what is left. -/
structure Dl (w W : World) (i m : Nat) (L O : List Nat) (g cl : Nat) (q : Option Addr) (co : Nat) : Prop where
  sum : i + m = 52
  left : Own 3 w.heap.size W (some ⟨g, 0, none⟩) m cl (asI L)
  out : Own 3 w.heap.size W q i co (asI O)
  all : (O ++ L).Perm (List.range 52)
  ne : ∀ x, q.map (·.block) = some x → x ≠ g
  low : Below w.heap.size w W
set_option maxRecDepth 20000 in
set_option maxHeartbeats 8000000 in
theorem hand_any (p : Option Addr) (nr c n : Nat) (zs : List Int) (w : World) (hn : n ≤ 12) (hr : nr ≤ 9223372036854775807) (hx : IntsIn w p nr zs) (hz : ∀ j, j < nr → -9223372036854775808 ≤ zs[j]?.getD 0 ∧ zs[j]?.getD 0 ≤ 9223372036854775807) :
    Calls Try.prog 11 #[.slice p nr c, .int .i64 n] w fun e w' => ∃ q co O, e = .returned (.slice q n co) ∧ Own 3 w.heap.size w' q n co (asI O) ∧ O.length = n ∧ O.Nodup ∧ (∀ x ∈ O, x < 52) ∧ Below w.heap.size w w' := by
  replace hx := Lib.hid hx; replace hz := Lib.hid hz
  go_enter Try.func11, Try.ntmps11
  go_wp2_with fail
  go_loopg [5, 7] 52 (fun gk lv jv W' => ∃ (j cl : Nat) (q : Option Addr), j ≤ 52 ∧ gk = 52 - j ∧ jv = .int .i64 j ∧ lv = .slice q j cl ∧ Own 3 w.heap.size W' q j cl (asI (List.range j)) ∧ Below w.heap.size w W')
  case atStart => exact ⟨0, 0, none, by omega, by omega, rfl, rfl, Own.nil _ _ _, Below.refl _ _⟩
  case round =>
    obtain ⟨j, cl, q, hj, hgk, rfl, rfl, hO, hB⟩ := hrel
    obtain ⟨W1, rfl⟩ : ∃ W1 : World, W1 = wr := ⟨_, rfl⟩
    replace hgk := Lib.hid hgk
    by_cases hlt : j < 52
    · have hBs := Lib.hid hB.size
      have hqb := Lib.hid hO.rowb
      have hst : Hid (asI (List.range (j + 1)) = asI (List.range j) ++ [(j : Int)]) := by show _ = _; simp [asI, List.range_succ]
      replace hO := Lib.hid hO; replace hB := Lib.hid hB
      go_wp2_with (at_builtin; refine wp_append1 intG W1 rfl _ _ rfl w.heap.size q j cl _ rfl hO.out (j : Int) rfl (by omega) hBs.out ?_; intro q2 c2 w2 hO2 hg2 _ hz2; replace hO2 := Lib.hid hO2; replace hg2 := Lib.hid hg2)
      have hO3 : Hid (Own 3 w.heap.size w2 q2 (j + 1) c2 (asI (List.range (j + 1)))) := by rw [hst.out]; exact hO2.out
      have hB2 := Lib.hid (hB.out.grown hg2.out hBs.out hqb.out)
      clear hO hO2 hg2 hB hqb hst
      have hgk := hgk.out
      go_roundg (52 - (j + 1))
      case measure => omega
      case rel => exact ⟨j + 1, c2, q2, by omega, rfl, by go_num, rfl, hO3.out, hB2.out⟩
    · obtain rfl : j = 52 := by omega
      obtain ⟨g0, rfl, _, _, _⟩ := OwnC.where (k := 1) hO (by omega)
      have hD : Hid (Dl w W1 0 52 (List.range 52) [] g0 cl none 0) := ⟨rfl, hO, Own.nil _ _ _, List.Perm.refl _, fun x e => (by cases e), hB⟩
      clear hO hB
      go_wp2_with fail
      go_loopg [5, 6, 8] n (fun gk lv ov iv W' => ∃ (i m cl co g : Nat) (L O : List Nat) (q : Option Addr), i ≤ n ∧ gk = n - i ∧ iv = .int .i64 i ∧ lv = .slice (some ⟨g, 0, none⟩) m cl ∧ ov = .slice q i co ∧ Dl w W' i m L O g cl q co)
      case atStart => exact ⟨0, 52, cl, 0, g0, List.range 52, [], none, by omega, by omega, rfl, rfl, rfl, hD.out⟩
      case round =>
        obtain ⟨i, m, cl, co, g, L, O, q, hi, hgk, rfl, rfl, rfl, hD1⟩ := hrel
        obtain ⟨W2, rfl⟩ : ∃ W2 : World, W2 = wr := ⟨_, rfl⟩
        replace hgk := Lib.hid hgk
        clear hD
        by_cases hlt : i < n
        · have hsum := hD1.sum
          have hm0 : 0 < m := by omega
          have hLf := hD1.left
          have hll : L.length = m := by have := hLf.len; rwa [asI_len] at this
          have hQ := Lib.hid hD1.out
          have hne := Lib.hid hD1.ne
          have hlow := Lib.hid hD1.low
          have hBs := Lib.hid hD1.low.size
          have hqb := Lib.hid hD1.out.rowb
          have hcm := OwnC.cap (k := 1) hLf
          have hall := Lib.hid hD1.all
          clear hD1
          by_cases hir : i < nr
          · obtain ⟨rb, ro, hpe, hrb, hrc⟩ := hx.out.at (by omega)
            have r0 : W2.cell? ⟨rb, ro + i, none⟩ = some (.int .i64 (zs[i]?.getD 0)) := (hlow.out.cell (p := ⟨rb, ro + i, none⟩) hrb).trans (hrc i hir)
            obtain ⟨z1, z2⟩ := hz.out i hir
            generalize zs[i]?.getD 0 = z at *
            have HP := Lib.hid (picked_any z m W2 z1 z2 (by omega) (by omega) m (Lib.hid rfl))
            have hkm := pick_lt z m (by omega)
            generalize pick z m = kk at *
            have c0 := hLf.cellN hkm
            have hperm : Hid (((O ++ [st L kk]) ++ L.eraseIdx kk).Perm (List.range 52)) := by
              have h1 := cons_erase L kk (by omega)
              have h2 : L[kk]'(by omega) = st L kk := by unfold st; rw [List.getElem?_eq_getElem (by omega)]; rfl
              rw [h2] at h1
              rw [List.append_assoc]
              exact (List.Perm.append_left O h1).trans hall.out
            generalize st L kk = v at *
            have i1 : (0 : Int) ≤ (kk : Int) := by omega
            have i2 : (kk : Int) < (m : Int) := by omega
            have i3 : (kk : Int) ≤ (cl : Int) := by omega
            have i4 : (kk : Int) + 1 ≤ (m : Int) := by omega
            have i5 : (0 : Int) ≤ (kk : Int) + 1 := by omega
            have i6 : IntKind.i64.wrap ((kk : Int) + 1) = (kk : Int) + 1 := IntWalk.i64_in _ (by omega)
            replace hll := Lib.hid hll; replace hLf := Lib.hid hLf
            clear hrc hrb
            by_cases hck : cl = kk + 1
            · subst hck
              have i7 : (kk : Int) ≤ (kk : Int) + 1 := by omega
              subst hpe
              go_wp2_with fail
              refine HP.out.mono ?_
              rintro e w' ⟨rfl, rfl⟩
              clear HP r0
              go_wp2_with (at_builtin; refine wp_append1 intG W2 rfl _ _ rfl w.heap.size q i co _ rfl hQ.out (v : Int) rfl (by omega) hBs.out ?_; intro q2 co2 W3 hQ2 hg2 hor2 hz2; replace hQ2 := Lib.hid hQ2; replace hg2 := Lib.hid hg2; replace hor2 := Lib.hid hor2)
              have hL3 : Own 3 w.heap.size W3 (some ⟨g, 0, none⟩) m (kk + 1) (asI L) := hLf.out.grown hg2.out fun a ha e => by
                cases ha; exact hne.out g e.symm rfl
              have hQ3 : Hid (Own 3 w.heap.size W3 q2 (i + 1) co2 (asI (O ++ [v]))) := by rw [asI_app]; exact hQ2.out
              have hB3 := Lib.hid (hlow.out.grown hg2.out hBs.out hqb.out)
              have hq2s := Lib.hid (fun x hx => (OwnC.block (k := 1) hQ3.out x hx).2)
              have hgs3 : g < W3.heap.size := (OwnC.block (k := 1) hL3 _ rfl).2
              have HI : Hid (∀ X, X.heap = W3.heap → Calls Try.prog 24 #[.slice (some ⟨g, 0, none⟩) kk (kk + 1)] X fun e w' => ∃ p' c', e = .returned (.slice p' kk c') ∧ Own 3 W3.heap.size w' p' kk c' (asI (L.take kk)) ∧ Below W3.heap.size X w') := fun X hX => by
                have hin : IntsIn X (some ⟨g, 0, none⟩) kk (asI (L.take kk)) := by
                  have h1 := (hL3.in.keep (w' := X) (by rw [hX]; exact Nat.le_refl _) fun _ _ _ => by rw [hX]).part 0 kk (by omega) (by omega) (some ⟨g, 0, none⟩) (fun _ => rfl)
                  have e : ((asI L).take kk).drop 0 = asI (L.take kk) := by unfold asI; rw [List.drop_zero, List.map_take]
                  rw [e, Nat.sub_zero] at h1
                  exact h1
                have hs : X.heap.size = W3.heap.size := by rw [hX]
                refine (ints_some g 0 kk (kk + 1) _ X (by omega) hin).mono fun e w' ⟨p', c', h1, h2, h3⟩ => ⟨p', c', h1, by rw [← hs]; exact h2, by rw [← hs]; exact h3⟩
              have hcd : Hid (∀ X, Below W3.heap.size W3 X → ∀ j, j < 0 → X.cell? (Addr.add ⟨g, 0, none⟩ j) = some (.int .i64 ((asI (L.drop (kk + 1)))[j]?.getD 0))) := fun X hX j hj => by
                omega
  
  
  
              have hyl : Hid ((asI (L.drop (kk + 1))).length = 0) := by show _ = _; rw [asI_len, List.length_drop, hll.out]; omega
              clear hQ hQ2 hg2 hor2 hne hL3 hqb c0 hlow hLf
              go_region_law (first
                | (go_simp; refine (HI.out W3.drew rfl).mono ?_; rintro e w5 ⟨p5, c5, rfl, hO5, hB5⟩; replace hO5 := Lib.hid hO5; replace hB5 := Lib.hid (show Below W3.heap.size W3 w5 from (below_drewN (Below.refl W3.heap.size W3) 1).trans hB5))
                | (refine step_appendL intG _ (by rfl) _ _ (by rfl) W3.heap.size p5 kk c5 _ (by rfl) hO5.out ⟨g, 0, none⟩ 0 _ _ (by rfl) hyl.out (hcd.out _ hB5.out) (by omega) hB5.out.size ?_; intro p6 c6 w6 hO6 hg6; replace hO6 := Lib.hid hO6; replace hg6 := Lib.hid hg6))
              all_goals
                have hLe : asI (L.take kk) ++ asI (L.drop (kk + 1)) = asI (L.eraseIdx kk) := by rw [← asI_app, List.eraseIdx_eq_take_drop_succ]
                have hO7 := hO6.out
                rw [hLe, show kk + 0 = kk by omega] at hO7
                obtain ⟨g6, rfl, hg6B, hg6l, _⟩ := OwnC.where (k := 1) hO7 (by omega)
                have hB6 : Below W3.heap.size W3 w6 := hB5.out.grown hg6.out hB5.out.size (fun x e => by
                  cases p5 with
                  | none => cases e
                  | some y => have := (OwnC.block (k := 1) hO5.out y rfl).1; simp at e; omega)
                have hD2 : Hid (Dl w w6 (i + 1) (kk) (L.eraseIdx kk) (O ++ [v]) g6 c6 q2 co2) := by
                  refine ⟨by omega, OwnC.mono (k := 1) hO7 hB3.out.size, OwnC.below (k := 1) hQ3.out hB6 (Nat.le_refl _), hperm.out, fun x e e2 => ?_, hB3.out.trans (hB6.mono hB3.out.size)⟩
                  cases q2 with
                  | none => cases e
                  | some y =>
                    have h1 := hq2s.out y rfl
                    simp at e
                    omega
                have hlen6 : kk + 0 = kk := by omega
                clear hO7 hB6 hO6 hg6 hO5 hB5 hg6B hg6l
                try rw [hlen6]
                go_wp2_with fail
                have hgk := hgk.out
                go_roundg (n - (i + 1))
                case measure => omega
                case rel => exact ⟨i + 1, kk, c6, co2, g6, L.eraseIdx kk, O ++ [v], q2, by omega, rfl, by go_num, rfl, rfl, hD2.out⟩
            · subst hpe
              go_wp2_with fail
              refine HP.out.mono ?_
              rintro e w' ⟨rfl, rfl⟩
              clear HP r0
              go_wp2_with (at_builtin; refine wp_append1 intG W2 rfl _ _ rfl w.heap.size q i co _ rfl hQ.out (v : Int) rfl (by omega) hBs.out ?_; intro q2 co2 W3 hQ2 hg2 hor2 hz2; replace hQ2 := Lib.hid hQ2; replace hg2 := Lib.hid hg2; replace hor2 := Lib.hid hor2)
              have hL3 : Own 3 w.heap.size W3 (some ⟨g, 0, none⟩) m cl (asI L) := hLf.out.grown hg2.out fun a ha e => by
                cases ha; exact hne.out g e.symm rfl
              have hQ3 : Hid (Own 3 w.heap.size W3 q2 (i + 1) co2 (asI (O ++ [v]))) := by rw [asI_app]; exact hQ2.out
              have hB3 := Lib.hid (hlow.out.grown hg2.out hBs.out hqb.out)
              have hq2s := Lib.hid (fun x hx => (OwnC.block (k := 1) hQ3.out x hx).2)
              have hgs3 : g < W3.heap.size := (OwnC.block (k := 1) hL3 _ rfl).2
              have HI : Hid (∀ X, X.heap = W3.heap → Calls Try.prog 24 #[.slice (some ⟨g, 0, none⟩) kk cl] X fun e w' => ∃ p' c', e = .returned (.slice p' kk c') ∧ Own 3 W3.heap.size w' p' kk c' (asI (L.take kk)) ∧ Below W3.heap.size X w') := fun X hX => by
                have hin : IntsIn X (some ⟨g, 0, none⟩) kk (asI (L.take kk)) := by
                  have h1 := (hL3.in.keep (w' := X) (by rw [hX]; exact Nat.le_refl _) fun _ _ _ => by rw [hX]).part 0 kk (by omega) (by omega) (some ⟨g, 0, none⟩) (fun _ => rfl)
                  have e : ((asI L).take kk).drop 0 = asI (L.take kk) := by unfold asI; rw [List.drop_zero, List.map_take]
                  rw [e, Nat.sub_zero] at h1
                  exact h1
                have hs : X.heap.size = W3.heap.size := by rw [hX]
                refine (ints_some g 0 kk cl _ X (by omega) hin).mono fun e w' ⟨p', c', h1, h2, h3⟩ => ⟨p', c', h1, by rw [← hs]; exact h2, by rw [← hs]; exact h3⟩
              have hcd : Hid (∀ X, Below W3.heap.size W3 X → ∀ j, j < (m - (kk + 1)) → X.cell? (Addr.add ⟨g, kk + 1, none⟩ j) = some (.int .i64 ((asI (L.drop (kk + 1)))[j]?.getD 0))) := fun X hX j hj => by
                have h1 := (hX.cell (p := ⟨g, kk + 1 + j, none⟩) hgs3).trans (hL3.cellN (i := kk + 1 + j) (by omega))
                rw [asI_at]
                have e : st (L.drop (kk + 1)) j = st L (kk + 1 + j) := by unfold st; rw [List.getElem?_drop]
                rw [e, Addr.add_lit]; exact h1
              have hyl : Hid ((asI (L.drop (kk + 1))).length = (m - (kk + 1))) := by show _ = _; rw [asI_len, List.length_drop, hll.out]
              clear hQ hQ2 hg2 hor2 hne hL3 hqb c0 hlow hLf
              go_region_law (first
                | (go_simp; refine (HI.out W3.drew rfl).mono ?_; rintro e w5 ⟨p5, c5, rfl, hO5, hB5⟩; replace hO5 := Lib.hid hO5; replace hB5 := Lib.hid (show Below W3.heap.size W3 w5 from (below_drewN (Below.refl W3.heap.size W3) 1).trans hB5))
                | (refine step_appendL intG _ (by rfl) _ _ (by rfl) W3.heap.size p5 kk c5 _ (by rfl) hO5.out ⟨g, kk + 1, none⟩ (m - (kk + 1)) _ _ (by rfl) hyl.out (hcd.out _ hB5.out) (by omega) hB5.out.size ?_; intro p6 c6 w6 hO6 hg6; replace hO6 := Lib.hid hO6; replace hg6 := Lib.hid hg6))
              all_goals
                have hLe : asI (L.take kk) ++ asI (L.drop (kk + 1)) = asI (L.eraseIdx kk) := by rw [← asI_app, List.eraseIdx_eq_take_drop_succ]
                have hO7 := hO6.out
                rw [hLe, show kk + (m - (kk + 1)) = m - 1 by omega] at hO7
                obtain ⟨g6, rfl, hg6B, hg6l, _⟩ := OwnC.where (k := 1) hO7 (by omega)
                have hB6 : Below W3.heap.size W3 w6 := hB5.out.grown hg6.out hB5.out.size (fun x e => by
                  cases p5 with
                  | none => cases e
                  | some y => have := (OwnC.block (k := 1) hO5.out y rfl).1; simp at e; omega)
                have hD2 : Hid (Dl w w6 (i + 1) (m - 1) (L.eraseIdx kk) (O ++ [v]) g6 c6 q2 co2) := by
                  refine ⟨by omega, OwnC.mono (k := 1) hO7 hB3.out.size, OwnC.below (k := 1) hQ3.out hB6 (Nat.le_refl _), hperm.out, fun x e e2 => ?_, hB3.out.trans (hB6.mono hB3.out.size)⟩
                  cases q2 with
                  | none => cases e
                  | some y =>
                    have h1 := hq2s.out y rfl
                    simp at e
                    omega
                have hlen6 : kk + (m - (kk + 1)) = m - 1 := by omega
                clear hO7 hB6 hO6 hg6 hO5 hB5 hg6B hg6l
                try rw [hlen6]
                go_wp2_with fail
                have hgk := hgk.out
                go_roundg (n - (i + 1))
                case measure => omega
                case rel => exact ⟨i + 1, m - 1, c6, co2, g6, L.eraseIdx kk, O ++ [v], q2, by omega, rfl, by go_num, rfl, rfl, hD2.out⟩
          · have hkm : 0 < m := hm0
            have c0 := hLf.cellN hkm
            have hperm : Hid (((O ++ [st L 0]) ++ L.eraseIdx 0).Perm (List.range 52)) := by
              have h1 := cons_erase L 0 (by omega)
              have h2 : L[0]'(by omega) = st L 0 := by unfold st; rw [List.getElem?_eq_getElem (by omega)]; rfl
              rw [h2] at h1
              rw [List.append_assoc]
              exact (List.Perm.append_left O h1).trans hall.out
            generalize st L 0 = v at *
            have i1 : (0 : Int) ≤ (0 : Int) := by omega
            have i2 : (0 : Int) < (m : Int) := by omega
            have i3 : (0 : Int) ≤ (cl : Int) := by omega
            have i4 : (1 : Int) ≤ (m : Int) := by omega
            have i5 : (0 : Int) ≤ (1 : Int) := by omega
            have i6 : IntKind.i64.wrap ((1 : Int)) = (1 : Int) := IntWalk.i64_in _ (by omega)
            replace hll := Lib.hid hll; replace hLf := Lib.hid hLf
            have hck : ¬ cl = 1 := by omega
            have i7 : (1 : Int) ≤ (cl : Int) := by omega
            go_wp2_with (at_builtin; refine wp_append1 intG W2 rfl _ _ rfl w.heap.size q i co _ rfl hQ.out (v : Int) rfl (by omega) hBs.out ?_; intro q2 co2 W3 hQ2 hg2 hor2 hz2; replace hQ2 := Lib.hid hQ2; replace hg2 := Lib.hid hg2; replace hor2 := Lib.hid hor2)
            have hL3 : Own 3 w.heap.size W3 (some ⟨g, 0, none⟩) m cl (asI L) := hLf.out.grown hg2.out fun a ha e => by
              cases ha; exact hne.out g e.symm rfl
            have hQ3 : Hid (Own 3 w.heap.size W3 q2 (i + 1) co2 (asI (O ++ [v]))) := by rw [asI_app]; exact hQ2.out
            have hB3 := Lib.hid (hlow.out.grown hg2.out hBs.out hqb.out)
            have hq2s := Lib.hid (fun x hx => (OwnC.block (k := 1) hQ3.out x hx).2)
            have hgs3 : g < W3.heap.size := (OwnC.block (k := 1) hL3 _ rfl).2
            have HI : Hid (∀ X, X.heap = W3.heap → Calls Try.prog 24 #[.slice (some ⟨g, 0, none⟩) 0 cl] X fun e w' => ∃ p' c', e = .returned (.slice p' 0 c') ∧ Own 3 W3.heap.size w' p' 0 c' (asI (L.take 0)) ∧ Below W3.heap.size X w') := fun X hX => by
              have hin : IntsIn X (some ⟨g, 0, none⟩) 0 (asI (L.take 0)) := by
                have h1 := (hL3.in.keep (w' := X) (by rw [hX]; exact Nat.le_refl _) fun _ _ _ => by rw [hX]).part 0 0 (by omega) (by omega) (some ⟨g, 0, none⟩) (fun _ => rfl)
                have e : ((asI L).take 0).drop 0 = asI (L.take 0) := by unfold asI; rw [List.drop_zero, List.map_take]
                rw [e, Nat.sub_zero] at h1
                exact h1
              have hs : X.heap.size = W3.heap.size := by rw [hX]
              refine (ints_some g 0 0 cl _ X (by omega) hin).mono fun e w' ⟨p', c', h1, h2, h3⟩ => ⟨p', c', h1, by rw [← hs]; exact h2, by rw [← hs]; exact h3⟩
            have hcd : Hid (∀ X, Below W3.heap.size W3 X → ∀ j, j < (m - 1) → X.cell? (Addr.add ⟨g, 1, none⟩ j) = some (.int .i64 ((asI (L.drop 1))[j]?.getD 0))) := fun X hX j hj => by
              have h1 := (hX.cell (p := ⟨g, 1 + j, none⟩) hgs3).trans (hL3.cellN (i := 1 + j) (by omega))
              rw [asI_at]
              have e : st (L.drop 1) j = st L (1 + j) := by unfold st; rw [List.getElem?_drop]
              rw [e, Addr.add_lit]; exact h1
            have hyl : Hid ((asI (L.drop 1)).length = (m - 1)) := by show _ = _; rw [asI_len, List.length_drop, hll.out]
            clear hQ hQ2 hg2 hor2 hne hL3 hqb c0 hlow hLf
            go_region_law (first
              | (go_simp; refine (HI.out W3.drew rfl).mono ?_; rintro e w5 ⟨p5, c5, rfl, hO5, hB5⟩; replace hO5 := Lib.hid hO5; replace hB5 := Lib.hid (show Below W3.heap.size W3 w5 from (below_drewN (Below.refl W3.heap.size W3) 1).trans hB5))
              | (refine step_appendL intG _ (by rfl) _ _ (by rfl) W3.heap.size p5 0 c5 _ (by rfl) hO5.out ⟨g, 1, none⟩ (m - 1) _ _ (by rfl) hyl.out (hcd.out _ hB5.out) (by omega) hB5.out.size ?_; intro p6 c6 w6 hO6 hg6; replace hO6 := Lib.hid hO6; replace hg6 := Lib.hid hg6))
            all_goals
              have hLe : asI (L.take 0) ++ asI (L.drop 1) = asI (L.eraseIdx 0) := by rw [← asI_app, List.eraseIdx_eq_take_drop_succ]
              have hO7 := hO6.out
              rw [hLe, show 0 + (m - 1) = m - 1 by omega] at hO7
              obtain ⟨g6, rfl, hg6B, hg6l, _⟩ := OwnC.where (k := 1) hO7 (by omega)
              have hB6 : Below W3.heap.size W3 w6 := hB5.out.grown hg6.out hB5.out.size (fun x e => by
                cases p5 with
                | none => cases e
                | some y => have := (OwnC.block (k := 1) hO5.out y rfl).1; simp at e; omega)
              have hD2 : Hid (Dl w w6 (i + 1) (m - 1) (L.eraseIdx 0) (O ++ [v]) g6 c6 q2 co2) := by
                refine ⟨by omega, OwnC.mono (k := 1) hO7 hB3.out.size, OwnC.below (k := 1) hQ3.out hB6 (Nat.le_refl _), hperm.out, fun x e e2 => ?_, hB3.out.trans (hB6.mono hB3.out.size)⟩
                cases q2 with
                | none => cases e
                | some y =>
                  have h1 := hq2s.out y rfl
                  simp at e
                  omega
              have hlen6 : 0 + (m - 1) = m - 1 := by omega
              clear hO7 hB6 hO6 hg6 hO5 hB5 hg6B hg6l
              try rw [hlen6]
              go_wp2_with fail
              have hgk := hgk.out
              go_roundg (n - (i + 1))
              case measure => omega
              case rel => exact ⟨i + 1, m - 1, c6, co2, g6, L.eraseIdx 0, O ++ [v], q2, by omega, rfl, by go_num, rfl, rfl, hD2.out⟩
        · obtain rfl : i = n := by omega
          have hol : O.length = i := by have := hD1.out.len; rwa [asI_len] at this
          have hnd : (O ++ L).Nodup := (hD1.all.nodup_iff).2 List.nodup_range
          have hfin : Hid (Own 3 w.heap.size W2 q i co (asI O) ∧ O.length = i ∧ O.Nodup ∧ (∀ x ∈ O, x < 52) ∧ Below w.heap.size w W2) :=
            ⟨hD1.out, hol, (List.nodup_append.1 hnd).1, fun x hx => by have := hD1.all.mem_iff.1 (List.mem_append_left L hx); simpa using this, hD1.low⟩
          replace hD1 := Lib.hid hD1
          go_wp2_with fail
          go_ret
          exact ⟨q, co, O, rfl, hfin.out⟩
end Go.Proofs.Ytkakggagaplaiaa
