/- The eight forms that magic.Forms lays, ahead of their order; conditions: a square of 1 to 12 rows. -/
import Derived.Test.YtbfdhegglaaghaaIIs
import Derived.Test.YtbfdhegglaaghaaFPl
import Derived.Test.YtbfdhegglaaghaaFCo
import Derived.Test.YtbfdhegglaaghaaMProd
import Derived.BigQuiet
import Derived.Deep.DeepCutAuto
namespace Go.Proofs.Ytbfdhegglaaghaa
open Go.RowKit

theorem two_made (W : World) (NN : Nat) : Nums ((W.alloc (.cells (Array.replicate NN (.int .i64 0)) 3)).alloc (.cells (Array.replicate NN (.int .i64 0)) 3)).drew W.heap.size 3 (List.replicate NN 0) ∧
    Nums ((W.alloc (.cells (Array.replicate NN (.int .i64 0)) 3)).alloc (.cells (Array.replicate NN (.int .i64 0)) 3)).drew (W.heap.size + 1) 3 (List.replicate NN 0) ∧
    Below W.heap.size W ((W.alloc (.cells (Array.replicate NN (.int .i64 0)) 3)).alloc (.cells (Array.replicate NN (.int .i64 0)) 3)).drew := by
  obtain ⟨h1, h2⟩ := heap2 W (.cells (Array.replicate NN (.int .i64 0)) 3) (.cells (Array.replicate NN (.int .i64 0)) 3)
  have e : Array.replicate NN (Value.int .i64 0) = ((List.replicate NN (0 : Int)).map (Value.int .i64)).toArray := by simp
  have hB := below_drewN (below2 W (.cells (Array.replicate NN (.int .i64 0)) 3) (.cells (Array.replicate NN (.int .i64 0)) 3)) 1
  rw [e] at h1 h2 hB ⊢
  exact ⟨h1, h2, hB⟩
theorem OwnRows.far {E B : Nat} {W : World} {q : Option Addr} {n c : Nat} {ls : List (List Int)} (h : OwnRows E B W q n c ls) {b : Nat} (hb : W.heap.size ≤ b) : q.map (·.block) ≠ some b := by
  obtain ⟨vs, hO, _⟩ := h
  intro e
  cases q with
  | none => cases e
  | some a =>
    have := (hO.block a rfl).2
    simp at e; omega
theorem OwnRows.own {E B : Nat} {W : World} {q : Option Addr} {n c : Nat} {ls : List (List Int)} (h : OwnRows E B W q n c ls) : ∀ x, q.map (·.block) = some x → B ≤ x := by
  obtain ⟨vs, hO, _⟩ := h
  intro x e
  cases q with
  | none => cases e
  | some a =>
    have := (hO.block a rfl).1
    simp at e; omega
/-- the numbers of a place: as the program reckons them. -/
theorem dest0 (n j X : Nat) (hX : j % n * n = X) : dest 0 n j = X + (n - 1 - j / n) := by unfold dest; rw [if_pos rfl, hX]
theorem dest1 (n j Y : Nat) (hY : j / n * n = Y) : dest 1 n j = Y + (n - 1 - j % n) := by unfold dest; rw [if_neg (by omega), hY]
set_option maxRecDepth 100000 in
set_option maxHeartbeats 8000000 in
theorem forms_any (n NN c : Nat) (p : Option Addr) (l : List Int) (w : World) (hn1 : 1 ≤ n) (hn : n ≤ 12) (hN : Hid (NN = n * n)) (hx : IntsIn w p NN l) :
    Calls Try.prog 10 #[.slice p NN c] w fun e w' => ∃ g k c', e = .returned (.tuple #[.slice (some ⟨g, 0, none⟩) k c', .int .i64 0]) ∧ 1 ≤ k ∧ k ≤ 8 ∧ (∀ i, i < k → ∃ p c F, w'.cell? ⟨g, i, none⟩ = some (.slice p NN c) ∧ IntsIn w' p NN F ∧ Gd n l F) ∧ Below w.heap.size w w' := by
  have hNN144 : NN ≤ 12 * 12 := by rw [hN.out]; exact Nat.mul_le_mul hn hn
  have hNp : 1 ≤ NN := by rw [hN.out]; exact Nat.mul_pos hn1 hn1
  have hll := Lib.hid hx.len
  have HS := Lib.hid (fun W => side_any n NN c p W hn1 hn hN)
  have HC := Lib.hid (clone_any p NN c l w (by omega) hx)
  have hnI : ((n : Int) == 0) = false := by simp; omega
  have hNI : Hid ((n : Int) * n = (NN : Int)) := by show _ = _; rw [hN.out]; simp
  have hGl : Hid (Gd n l l) := Gd.refl (by rw [hll.out, hN.out])
  obtain ⟨B, hBe⟩ : ∃ B, B = w.heap.size := ⟨_, rfl⟩
  rw [← hBe] at HC ⊢
  replace hBe := Lib.hid hBe
  clear hx
  go_enter Try.func10, Try.ntmps10
  go_wp2_with fail
  refine (HS.out _).mono ?_
  rintro e w' ⟨rfl, rfl⟩
  go_wp2_with fail
  refine HC.out.mono ?_
  rintro e w1 ⟨p1, c1, rfl, hO1, hB1⟩
  obtain ⟨g1, rfl, hg1B, hg1, _⟩ := hO1.where (by omega)
  have hx1 := Lib.hid hO1.in
  clear hO1 HC
  go_wp2_with fail
  go_loopg [5, 6, 19] 4 (fun gk ov nv iv W' => ∃ (r m c2 gn cn : Nat) (q : Option Addr) (ls : List (List Int)) (now : List Int), r ≤ 4 ∧ gk = 4 - r ∧ iv = .int .i64 r ∧ ov = .slice q m c2 ∧ Hid (m = 2 * r) ∧ nv = .slice (some ⟨gn, 0, none⟩) NN cn ∧
    OwnRows 23 B W' q m c2 ls ∧ (∀ F ∈ ls, Gd n l F) ∧ IntsIn W' (some ⟨gn, 0, none⟩) NN now ∧ Gd n l now ∧ B ≤ gn ∧ gn < W'.heap.size ∧ q.map (·.block) ≠ some gn ∧ Below B w W')
  case atStart => exact ⟨0, 0, 0, g1, c1, none, [], l, by omega, by omega, rfl, rfl, Lib.hid rfl, rfl, OwnRows.nil _ _ _, fun F h => by simp at h, hx1.out, hGl.out, hg1B, hg1, by simp, hB1⟩
  case round =>
    obtain ⟨r, m, c2, gn, cn, q, ls, now, hr, hgk, rfl, rfl, hm, rfl, hO, hls, hxn, hGn, hgnB, hgn, hqn, hB⟩ := hrel
    obtain ⟨W1, rfl⟩ : ∃ W1 : World, W1 = wr := ⟨_, rfl⟩
    replace hgk := Lib.hid hgk
    replace hO := Lib.hid hO; replace hls := Lib.hid hls; replace hxn := Lib.hid hxn; replace hGn := Lib.hid hGn; replace hB := Lib.hid hB; replace hqn := Lib.hid hqn; replace hgnB := Lib.hid hgnB
    clear hx1 hg1B hg1 hB1
    by_cases hlt : r < 4
    · go_upto_region 8 with fail
      have hmk := fun W : World => run_mk int23 .i64 .i64 (NN : Int) (NN : Int) NN rfl rfl (by omega) W
      go_cut [7, 8] (fun v7 v8 wx => ∃ gt gm : Nat, v7 = .slice (some ⟨gt, 0, none⟩) NN NN ∧ v8 = .slice (some ⟨gm, 0, none⟩) NN NN ∧ gt ≠ gm ∧ W1.heap.size ≤ gt ∧ W1.heap.size ≤ gm ∧ Nums wx gt 3 (List.replicate NN 0) ∧ Nums wx gm 3 (List.replicate NN 0) ∧ Below W1.heap.size W1 wx)
      case first =>
        have hmul := hNI.out
        go_region
        all_goals (go_wp2_with fail; go_meet)
        · obtain ⟨a1, a2, a3⟩ := two_made W1 NN
          exact ⟨_, _, rfl, rfl, by omega, Nat.le_refl _, Nat.le_succ _, a1, a2, a3⟩
        · obtain ⟨a1, a2, a3⟩ := two_made W1 NN
          exact ⟨_, _, rfl, rfl, by omega, Nat.le_succ _, Nat.le_refl _, a2, a1, a3⟩
      case rest =>
        obtain ⟨gt, gm, rfl, rfl, hne, hgt, hgm, hT0, hM0, hB0⟩ := hcut
        clear hmk
        replace hT0 := Lib.hid hT0; replace hM0 := Lib.hid hM0; replace hB0 := Lib.hid hB0; replace hgt := Lib.hid hgt; replace hgm := Lib.hid hgm
        have hP0 : Hid (PutS 0 n now 0 (List.replicate NN 0)) := by rw [hN.out]; exact PutS.zero 0 n now
        have hP1 : Hid (PutS 1 n now 0 (List.replicate NN 0)) := by rw [hN.out]; exact PutS.zero 1 n now
        go_wp2_with fail
        go_loopg [31] NN (fun gk2 iv W2 => ∃ (j : Nat) (T M : List Int), j ≤ NN ∧ gk2 = NN - j ∧ iv = .int .i64 j ∧ Nums W2 gt 3 T ∧ Nums W2 gm 3 M ∧ PutS 0 n now j T ∧ PutS 1 n now j M ∧ Below W1.heap.size W1 W2)
        case atStart => exact ⟨0, _, _, by omega, by omega, rfl, hT0.out, hM0.out, hP0.out, hP1.out, hB0.out⟩
        case round =>
          obtain ⟨j, T, M, hj, hgk2, rfl, hT, hM, hPT, hPM, hB2⟩ := hrel
          obtain ⟨W2, rfl⟩ : ∃ W2 : World, W2 = wr := ⟨_, rfl⟩
          replace hgk2 := Lib.hid hgk2
          clear hT0 hM0 hB0 hP0 hP1
          by_cases hlt2 : j < NN
          · obtain ⟨bb, oo, hbb, _, hcc⟩ := (hxn.out.below hB2).at (by omega)
            cases hbb
            have k0 : W2.cell? ⟨gn, j, none⟩ = some (.int .i64 (ist now j)) := by have := hcc j hlt2; rwa [Nat.zero_add] at this
            clear hcc
            have hjN : j < n * n := by rw [← hN.out]; exact hlt2
            obtain ⟨dT, _⟩ := dest_at (t := 0) hn hjN (by omega)
            obtain ⟨dM, _⟩ := dest_at (t := 1) hn hjN (by omega)
            have sT := Lib.hid (hPT.step hn (by omega) hjN)
            have sM := Lib.hid (hPM.step hn (by omega) hjN)
            have lT : T.length = NN := by rw [hN.out]; exact hPT.1
            have lM : M.length = NN := by rw [hN.out]; exact hPM.1
            rw [← hN.out] at dT dM
            obtain ⟨X, hX⟩ : ∃ X, j % n * n = X := ⟨_, rfl⟩
            obtain ⟨Y, hY⟩ : ∃ Y, j / n * n = Y := ⟨_, rfl⟩
            have e0 := dest0 n j X hX
            have e1 := dest1 n j Y hY
            have hxl : j % n < n := Nat.mod_lt _ (by omega)
            have hyl : j / n < n := Nat.div_lt_of_lt_mul hjN
            obtain ⟨x, hxe⟩ : ∃ x, j % n = x := ⟨_, rfl⟩
            obtain ⟨y, hye⟩ : ∃ y, j / n = y := ⟨_, rfl⟩
            have t1 : (j : Int).tmod n = (x : Int) := by rw [Int.tmod_eq_emod_of_nonneg (by omega), ← hxe]; push_cast; rfl
            have t2 : (j : Int) % n = (x : Int) := by rw [← hxe]; push_cast; rfl
            have t3 : (j : Int).tdiv n = (y : Int) := by rw [Int.tdiv_eq_ediv_of_nonneg (by omega), ← hye]; push_cast; rfl
            have t4 : (j : Int) / n = (y : Int) := by rw [← hye]; push_cast; rfl
            rw [hxe] at hX e1 hxl
            rw [hye] at hY e0 hyl
            have q1 : (x : Int) * n = (X : Int) := by rw [← hX]; push_cast; rfl
            have q2 : (y : Int) * n = (Y : Int) := by rw [← hY]; push_cast; rfl
            obtain ⟨D0, hD0⟩ : ∃ D, dest 0 n j = D := ⟨_, rfl⟩
            obtain ⟨D1, hD1⟩ : ∃ D, dest 1 n j = D := ⟨_, rfl⟩
            rw [hD0] at dT sT e0
            rw [hD1] at dM sM e1
            have i0 : (X : Int) + n - 1 - y = (D0 : Int) := by omega
            have i1 : (Y : Int) + n - 1 - x = (D1 : Int) := by omega
            have hX144 : X < 145 := by omega
            have hY144 : Y < 145 := by omega
            obtain ⟨v, hv⟩ : ∃ v, ist now j = v := ⟨_, rfl⟩
            rw [hv] at k0 sT sM
            have zn : n ≠ 0 := by omega
            replace hxe := Lib.hid hxe; replace hye := Lib.hid hye; replace hX := Lib.hid hX; replace hY := Lib.hid hY; replace hD0 := Lib.hid hD0; replace hD1 := Lib.hid hD1; replace hv := Lib.hid hv; replace e0 := Lib.hid e0; replace e1 := Lib.hid e1
            replace hT := Lib.hid hT; replace hM := Lib.hid hM; replace hB2 := Lib.hid hB2; replace hPT := Lib.hid hPT; replace hPM := Lib.hid hPM; replace lT := Lib.hid lT; replace lM := Lib.hid lM
            go_wp2_with fail
            go_quiet (fail)
            have hT2 : Nums (W2.drewN nq) gt 3 T := hT.out
            have hM2 : Nums (W2.drewN nq) gm 3 M := hM.out
            have hB3 : Below W1.heap.size W1 (W2.drewN nq) := below_drewN hB2.out nq
            generalize W2.drewN nq = W3 at *
            clear k0 hT hM hB2
            have c1 : W3.cell? ⟨gt, D0, none⟩ = some (.int .i64 (T[D0]?.getD 0)) := hT2.cell (by rw [lT.out]; exact dT)
            have f1 : W3.frozen? ⟨gt, D0, none⟩ = false := hT2.free D0
            have hM3 := hM2.far (p := ⟨gt, D0, none⟩) (fun e => hne e.symm) (.int .i64 v)
            have c2 : (W3.setCell ⟨gt, D0, none⟩ (.int .i64 v)).cell? ⟨gm, D1, none⟩ = some (.int .i64 (M[D1]?.getD 0)) := hM3.cell (by rw [lM.out]; exact dM)
            have f2 : (W3.setCell ⟨gt, D0, none⟩ (.int .i64 v)).frozen? ⟨gm, D1, none⟩ = false := hM3.free D1
            have hT4 := Lib.hid ((hT2.set D0 v).far (p := ⟨gm, D1, none⟩) hne (.int .i64 v))
            have hM4 := Lib.hid (hM3.set D1 v)
            have hB4 := Lib.hid ((hB3.setCell (p := ⟨gt, D0, none⟩) hgt.out (.int .i64 v)).setCell (p := ⟨gm, D1, none⟩) hgm.out (.int .i64 v))
            replace hM3 := Lib.hid hM3; replace hT2 := Lib.hid hT2; replace hM2 := Lib.hid hM2; replace hB3 := Lib.hid hB3; replace hne := Lib.hid hne
            go_wp2_with fail
            have hgk2 := hgk2.out
            go_roundg (NN - (j + 1))
            case measure => omega
            case rel => exact ⟨j + 1, _, _, by omega, rfl, by go_num, hT4.out, hM4.out, sT.out, sM.out, hB4.out⟩
          · obtain rfl : NN = j := by omega
            have lT : T.length = NN := by rw [hN.out]; exact hPT.1
            have lM : M.length = NN := by rw [hN.out]; exact hPM.1
            have hGT : Gd n l T := hGn.out.put (t := 0) hn1 hn (by omega) (by rw [← hN.out]; exact hPT)
            have hGM : Gd n l M := hGn.out.put (t := 1) hn1 hn (by omega) (by rw [← hN.out]; exact hPM)
            have xT := hT.in lT
            have xM := hM.in lM
            have xn := hxn.out.below hB2
            have hO2 := hO.out.keep hB2
            have hT' := hT.lt
            have hM' := hM.lt
            have hs2 : W1.heap.size ≤ W2.heap.size := hB2.size
            have hB1s : B ≤ W1.heap.size := by have := hgnB.out; omega
            have hm8 : m < 1000000 := by have := hm.out; omega
            have nN : ∀ a : Addr, some (⟨gn, 0, none⟩ : Addr) = some a → q.map (·.block) ≠ some a.block ∧ B ≤ a.block ∧ a.block < W2.heap.size := by
              intro a ha; cases ha; exact ⟨hqn.out, hgnB.out, by show gn < _; omega⟩
            have nM : ∀ a : Addr, some (⟨gm, 0, none⟩ : Addr) = some a → q.map (·.block) ≠ some a.block ∧ B ≤ a.block ∧ a.block < W2.heap.size := by
              intro a ha; cases ha; exact ⟨hO.out.far hgm.out, Nat.le_trans hB1s hgm.out, hM'⟩
            have hqt := hO.out.far hgt.out
            have hqo := hO2.own
            have hBw := Lib.hid (hB.out.trans (hB2.mono hB1s))
            have hls2 : Hid (∀ F ∈ ls ++ [now, M], Gd n l F) := fun F hF => by
              rcases List.mem_append.1 hF with h | h
              · exact hls.out F h
              · rcases List.mem_cons.1 h with rfl | h
                · exact hGn.out
                · rw [List.mem_singleton.1 h]; exact hGM
            replace hO2 := Lib.hid hO2; replace xT := Lib.hid xT; replace xM := Lib.hid xM; replace xn := Lib.hid xn; replace nN := Lib.hid nN; replace nM := Lib.hid nM; replace hqt := Lib.hid hqt; replace hqo := Lib.hid hqo
            replace hGT := Lib.hid hGT; replace hGM := Lib.hid hGM
            clear hT hM hPT hPM hB2 lT lM hO hxn hB
            go_wp2_with (at_builtin; refine wp_append2Row el33 W2 rfl _ _ rfl B q m c2 ls rfl hO2.out (some ⟨gn, 0, none⟩) NN cn now xn.out nN.out (some ⟨gm, 0, none⟩) NN NN M xM.out nM.out W2.heap.size rfl rfl hm8 (by omega) ?_; intro q2 c3 w3 hO3 hg3 hor3 hz3; replace hO3 := Lib.hid hO3; replace hg3 := Lib.hid hg3; replace hor3 := Lib.hid hor3)
            have hgk := hgk.out
            go_roundg (4 - (r + 1))
            case measure => omega
            case rel =>
              refine ⟨r + 1, m + 2, c3, gt, NN, q2, ls ++ [now, M], T, by omega, rfl, by go_num, rfl, ?_, rfl, hO3.out, hls2.out, ?_, hGT.out, ?_, ?_, ?_, ?_⟩
              · show _ = _; have := hm.out; omega
              · exact xT.out.keep hz3 fun b o e => by cases e; exact hg3.out.block gt hT' (fun e2 => hqt.out e2.symm)
              · have := hgt.out; omega
              · omega
              · rcases hor3.out with h | h
                · rw [h]; exact hqt.out
                · cases q2 with
                  | none => simp
                  | some x => have := h x rfl; simp; omega
              · exact hBw.out.grown hg3.out (by omega) (fun x hx => hqo.out x hx)
    · obtain rfl : r = 4 := by omega
      obtain rfl : m = 8 := hm.out
      obtain ⟨vs, hOC, hll, hr⟩ := hO.out
      obtain ⟨g, rfl, hgB, hg, _⟩ := hOC.where (by omega)
      have hvl := hOC.len
      have hBs : B ≤ W1.heap.size := by omega
      have hV1 : Vs B W1 g 8 c2 NN (Gd n l) W1 := by
        refine ⟨vs, hOC, fun i hi => ?_, Below.refl _ _, Oth.refl _ _⟩
        have hil : i < ls.length := by omega
        obtain ⟨p, m', c', hv, hx, hp⟩ := hr i ls[i] (by simp [hil])
        have hG := hls.out ls[i] (List.getElem_mem hil)
        have hm' : m' = NN := by rw [← hx.len, hG.1, hN.out]
        subst hm'
        refine ⟨p, c', ls[i], by unfold vt; rw [hv]; rfl, hx, fun a ha => ⟨fun e => ?_, (hp a ha).2.2⟩, hG⟩
        exact (hp a ha).1 (by rw [← e]; rfl)
      have HS1 := Lib.hid (sortF_any B g 8 c2 NN (Gd n l) W1 W1 (by omega) (by omega) (by omega) hgB hV1)
      have HC1 : Hid (∀ W, Vs B W1 g 8 c2 NN (Gd n l) W → Calls Try.prog 27 #[.slice (some ⟨g, 0, none⟩) 8 c2, .func (.func 28) #[] #[]] W fun e W' => ∃ k, e = .returned (.slice (some ⟨g, 0, none⟩) k c2) ∧ 1 ≤ k ∧ k ≤ 8 ∧ Lft B W1 g k NN (Gd n l) W') :=
        fun W h => compactF_any B g 8 c2 NN (Gd n l) W1 W (by omega) (by omega) (by omega) hgB h
      clear hV1 hr hvl hOC hO hls hxn hGn hgnB hqn
      go_wp2_with fail
      refine HS1.out.mono ?_
      rintro e w' ⟨rfl, hV⟩
      replace hV := Lib.hid hV
      go_wp2_with fail
      refine (HC1.out _ hV.out).mono ?_
      rintro e w2 ⟨k, rfl, hk1, hk8, hL⟩
      have hfin : Hid ((∀ i, i < k → ∃ p c F, w2.cell? ⟨g, i, none⟩ = some (.slice p NN c) ∧ IntsIn w2 p NN F ∧ Gd n l F) ∧ Below B w w2) := by
        obtain ⟨a1, a2, a3⟩ := hL
        refine ⟨fun i hi => ?_, hB.out.trans a1⟩
        obtain ⟨v, hv, p, c, F, rfl, hx, hp, hG⟩ := a3 i hi
        exact ⟨p, c, F, hv, hx.oth a2 hp, hG⟩
      clear hL HC1 HS1 hV
      go_wp2_with fail
      go_ret2
      exact ⟨g, k, c2, rfl, hk1, hk8, hfin.out⟩
end Go.Proofs.Ytbfdhegglaaghaa
