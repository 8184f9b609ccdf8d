/- What gameroomkeep.MagicForms computes; conditions: the slice reads as a list, the numbers fit their kind. -/
import Derived.Test.YtbfdhegglaaghaaFLp
import Derived.Test.YtbfdhegglaaghaaCCnt
import Derived.Test.YtbfdhegglaaghaaPick
namespace Go.Proofs.Ytbfdhegglaaghaa
open Go.RowKit

theorem is_none (N c : Nat) (p : Option Addr) (w : World) (h : sideS N = 0) :
    Calls Try.prog 8 #[.slice p N c] w fun e w' => e = .returned (.tuple #[.int .i64 0, .int .i64 0, .int .i64 2]) ∧ w = w' := by
  have HS := Lib.hid (side_is N c p w)
  rw [h] at HS
  clear h
  go_enter Try.func8, Try.ntmps8
  go_wp2_with fail
  refine HS.out.mono ?_
  rintro e w' ⟨rfl, rfl⟩
  go_wp2_with fail
  go_ret3
  exact ⟨rfl, rfl⟩
theorem forms_none (N c : Nat) (p : Option Addr) (w : World) (h : sideS N = 0) :
    Calls Try.prog 10 #[.slice p N c] w fun e w' => e = .returned (.tuple #[.slice none 0 0, .int .i64 2]) ∧ w = w' := by
  have HS := Lib.hid (side_is N c p w)
  rw [h] at HS
  clear h
  go_enter Try.func10, Try.ntmps10
  go_wp2_with fail
  refine HS.out.mono ?_
  rintro e w' ⟨rfl, rfl⟩
  go_wp2_with fail
  go_ret2
  exact ⟨rfl, rfl⟩
theorem lit_is : isI [8, 1, 6, 3, 5, 7, 4, 9, 2] = (2, 15, 0) := by decide +kernel
theorem lit_is_any (W : World) (g c : Nat) (h : W.heap[g]? = some (.cells #[.int .i64 8, .int .i64 1, .int .i64 6, .int .i64 3, .int .i64 5, .int .i64 7, .int .i64 4, .int .i64 9, .int .i64 2] 3 (0, 0))) :
    Calls Try.prog 8 #[.slice (some ⟨g, 0, none⟩) 9 c] W fun e w' => e = .returned (.tuple #[.int .i64 2, .int .i64 15, .int .i64 0]) ∧ Below W.heap.size W w' := by
  have h2 : Nums W g 3 [8, 1, 6, 3, 5, 7, 4, 9, 2] := h
  refine (iis_any 9 c _ [8, 1, 6, 3, 5, 7, 4, 9, 2] W (by omega) (h2.in rfl)).mono fun e w' ⟨he, hb⟩ => ⟨?_, hb⟩
  rw [he, lit_is]; rfl
theorem gd_is {n : Nat} {l F : List Int} (h1 : 1 ≤ n) (hn : n ≤ 12) (hs : sideS (n * n) = n) (ho : l.any offI = false) (hG : Gd n l F) : isI F = ((kindI l n).1, (kindI l n).2, 0) := by
  unfold isI
  rw [hG.1, hs, if_neg (by omega), if_neg, hG.2.1]
  intro hh
  obtain ⟨x, hx, hx2⟩ := List.any_eq_true.1 hh
  rw [Bool.eq_false_iff] at ho
  exact ho (List.any_eq_true.2 ⟨x, hG.2.2 x hx, hx2⟩)
theorem kind_bd {n : Nat} {l : List Int} (hn : n ≤ 12) (ho : l.any offI = false) : -12000000 ≤ (kindI l n).2 ∧ (kindI l n).2 ≤ 12000000 := by
  have hb := sumI_bd l n 0 0 (offs ho) n
  have : (kindI l n).2 = 0 ∨ (kindI l n).2 = sumI l n 0 0 n := by
    unfold kindI
    simp only
    split
    · exact .inl rfl
    · split
      · split <;> exact .inr rfl
      · exact .inr rfl
  omega
theorem twice_is {n : Nat} {l : List Int} (hl : l.length = n * n) (h1 : 1 ≤ n) (hs : sideS (n * n) = n) (ho : ∀ x ∈ l, -500000 ≤ x ∧ x ≤ 500000) : isI (l.map fun x => 2 * x) = ((kindI l n).1, 2 * (kindI l n).2, 0) := by
  unfold isI
  rw [List.length_map, hl, hs, if_neg (by omega), if_neg, kind_twice (by omega)]
  intro hh
  obtain ⟨x, hx, hx2⟩ := List.any_eq_true.1 hh
  obtain ⟨y, hy, rfl⟩ := List.mem_map.1 hx
  have := ho y hy
  simp [offI] at hx2
  omega
set_option maxRecDepth 100000 in
set_option maxHeartbeats 8000000 in
theorem mforms_any (N c : Nat) (p : Option Addr) (l : List Int) (wh : Int) (w : World) (hm : N ≤ 9223372036854775807) (hx : IntsIn w p N l) (h1 : -9223372036854775808 ≤ wh) (h2 : wh ≤ 9223372036854775807) :
    Calls Try.prog 4 #[.slice p N c, .int .i64 wh] w fun e w' => e = .returned (.bool true) ∧ Below w.heap.size w w' := by
  have hmk := fun W : World => run_mk int23 .i64 .i64 9 9 9 rfl rfl (by omega) W
  have HP := Lib.hid (fun (of : Nat) W (h3 : 1 ≤ of) h4 => picked_any wh of W h1 h2 h3 h4 of rfl)
  have hB0 := (Below.refl w.heap.size w).alloc (Nat.le_refl _) (.cells #[.int .i64 0, .int .i64 0, .int .i64 0, .int .i64 0, .int .i64 0, .int .i64 0, .int .i64 0, .int .i64 0, .int .i64 0] 3)
  have hM : Nums (w.alloc (.cells #[.int .i64 0, .int .i64 0, .int .i64 0, .int .i64 0, .int .i64 0, .int .i64 0, .int .i64 0, .int .i64 0, .int .i64 0] 3)) w.heap.size 3 [0, 0, 0, 0, 0, 0, 0, 0, 0] := Nums.new _ _ _ _ rfl
  have HC := Lib.hid (count_any w.heap.size _ hM.lt fun i hi => by
    rw [hM.cell hi]
    have : ∀ i, i < 9 → ([0, 0, 0, 0, 0, 0, 0, 0, 0] : List Int)[i]?.getD 0 = 0 := by decide
    rw [this i hi])
  have hsz : w.heap.size ≤ (w.alloc (.cells #[.int .i64 0, .int .i64 0, .int .i64 0, .int .i64 0, .int .i64 0, .int .i64 0, .int .i64 0, .int .i64 0, .int .i64 0] 3)).heap.size := by simp
  replace hB0 := Lib.hid hB0; replace hsz := Lib.hid hsz
  replace hx := Lib.hid hx
  clear hM
  go_enter Try.func4, Try.ntmps4
  go_wp2_with fail
  refine HC.out.mono ?_
  rintro e w1 ⟨rfl, hB1⟩
  have hB1 := Lib.hid (hB0.out.trans (hB1.mono hsz.out))
  clear HC hmk hsz hB0
  have hB2 := Lib.hid (hB1.out.alloc hB1.out.size (.cells #[.int .i64 8, .int .i64 1, .int .i64 6, .int .i64 3, .int .i64 5, .int .i64 7, .int .i64 4, .int .i64 9, .int .i64 2] 3))
  have HI := Lib.hid (lit_is_any (w1.alloc (.cells #[.int .i64 8, .int .i64 1, .int .i64 6, .int .i64 3, .int .i64 5, .int .i64 7, .int .i64 4, .int .i64 9, .int .i64 2] 3)) w1.heap.size 9 (heap_alloc_new w1 _))
  have hsz := Lib.hid (Nat.le_trans hB1.out.size (show w1.heap.size ≤ (w1.alloc (.cells #[.int .i64 8, .int .i64 1, .int .i64 6, .int .i64 3, .int .i64 5, .int .i64 7, .int .i64 4, .int .i64 9, .int .i64 2] 3)).heap.size by simp))
  go_wp2_with fail
  refine HI.out.mono ?_
  rintro e w2 ⟨rfl, hB3⟩
  have hBa := Lib.hid (hB2.out.trans (hB3.mono hsz.out))
  clear HI hB1 hB2 hsz hB3
  go_wp2_with fail
  rcases sideS_spec N with ⟨s1, s2, s3⟩ | ⟨s0, _⟩
  · obtain ⟨n, hn⟩ : ∃ n, n = sideS N := ⟨_, rfl⟩
    rw [← hn] at s1 s2 s3
    have hss : Hid (sideS (n * n) = n) := by show _ = _; rw [← s3]; exact hn.symm
    have hN144 : N ≤ 144 := by rw [s3]; exact Nat.mul_le_mul s2 s2
    replace hn := Lib.hid hn; replace s3 := Lib.hid s3
    have hll := Lib.hid hx.out.len
    have hx2 := Lib.hid (hx.out.below hBa.out)
    clear hx
    refine (forms_any n N c p l w2 s1 s2 s3 hx2.out).mono ?_
    rintro e w3 ⟨g, k, c2, rfl, hk1, hk8, hF, hB3⟩
    have hx3 := Lib.hid (hx2.out.below hB3)
    have hBb := Lib.hid (hBa.out.trans (hB3.mono hBa.out.size))
    replace hF := Lib.hid hF
    clear hBa hB3 hx2
    have HI := Lib.hid (iis_any N c p l w3 (by omega) hx3.out)
    go_wp2_with fail
    rcases ho : l.any offI with _ | _
    · have he : isI l = ((kindI l n).1, (kindI l n).2, 0) := gd_is s1 s2 hss.out ho (Gd.refl (by rw [hll.out]; exact s3.out))
      rw [he] at HI
      have hS := kind_bd s2 ho
      have hGi : Hid (∀ F, Gd n l F → isI F = ((kindI l n).1, (kindI l n).2, 0)) := fun F hG => gd_is s1 s2 hss.out ho hG
      have hTw : Hid ((∀ x ∈ l, -500000 ≤ x ∧ x ≤ 500000) → isI (l.map fun x => 2 * x) = ((kindI l n).1, 2 * (kindI l n).2, 0)) := fun h => twice_is (by rw [hll.out]; exact s3.out) s1 hss.out h
      replace ho := Lib.hid ho
      clear he
      generalize (kindI l n).1 = K at *
      generalize (kindI l n).2 = S at *
      have HI : Hid (Calls Try.prog 8 #[.slice p N c] w3 fun e w' => e = .returned (.tuple #[.int .i64 (K : Nat), .int .i64 S, .int .i64 0]) ∧ Below w3.heap.size w3 w') := HI
      refine HI.out.mono ?_
      rintro e w4 ⟨rfl, hB4⟩
      have hx4 := Lib.hid (hx3.out.below hB4)
      have hF4 : Hid (∀ i, i < k → ∃ p c F, w4.cell? ⟨g, i, none⟩ = some (.slice p N c) ∧ IntsIn w4 p N F ∧ Gd n l F) := fun i hi => by
        obtain ⟨p, c, F, a1, a2, a3⟩ := hF.out i hi
        refine ⟨p, c, F, (hB4.cell (p := ⟨g, i, none⟩) ?_).trans a1, a2.below hB4, a3⟩
        exact World.block_lt_of_cell? _ _ a1
      have hBc := Lib.hid (hBb.out.trans (hB4.mono hBb.out.size))
      clear HI hBb hB4 hx3 hF
      have z1 : decide ((k : Int) < 1) = false := decide_eq_false (by omega)
      have z2 : decide ((8 : Int) < (k : Int)) = false := decide_eq_false (by omega)
      have HP2 := Lib.hid (HP.out k w4 hk1 (by omega))
      have hpl := pick_lt wh k hk1
      obtain ⟨p5, c5, F, d5, x5, g5⟩ := hF4.out (pick wh k) hpl
      have hFi := hGi.out F g5
      have HI5 := Lib.hid (iis_any N c5 p5 F w4 (by omega) x5)
      rw [hFi] at HI5
      replace HI5 : Hid (Calls Try.prog 8 #[.slice p5 N c5] w4 fun e w' => e = .returned (.tuple #[.int .i64 (K : Nat), .int .i64 S, .int .i64 0]) ∧ Below w4.heap.size w4 w') := HI5
      clear hFi x5 g5 hF4 hGi HP
      generalize pick wh k = ip at *
      go_wp2_with fail
      refine HP2.out.mono ?_
      rintro e w' ⟨rfl, rfl⟩
      go_wp2_with fail
      refine HI5.out.mono ?_
      rintro e w5 ⟨rfl, hB5⟩
      have hx5 := Lib.hid (hx4.out.below hB5)
      have hBd := Lib.hid (hBc.out.trans (hB5.mono hBc.out.size))
      clear HI5 HP2 hBc hB5 hx4 d5
      have hwl := Lib.hid (hBd.out.size)
      have wS : IntKind.i64.wrap (2 * S) = 2 * S := IntWalk.i64_in _ (by omega)
      have hS2 : -24000000 ≤ 2 * S ∧ 2 * S ≤ 24000000 := by omega
      rcases Nat.eq_zero_or_pos K with hK | hK
      all_goals
        first
        | (subst hK)
        | (have z3 : decide ((0 : Int) < (K : Int)) = true := decide_eq_true (by omega))
        go_wp2_with fail
        go_loopg [15, 16] N (fun gk tv jv W' => ∃ (j m c' : Nat) (q : Option Addr), j ≤ N ∧ gk = N - j ∧ jv = .int .i64 j ∧ tv = .slice q m c' ∧ Hid (m = j) ∧ Own 3 w5.heap.size W' q m c' ((l.take j).map fun x => 2 * x) ∧ (∀ i, i < j → -500000 ≤ ist l i ∧ ist l i ≤ 500000) ∧ Below w5.heap.size w5 W')
        case atStart => exact ⟨0, 0, 0, none, by omega, by omega, rfl, rfl, Lib.hid rfl, by simpa using Own.nil _ _ _, fun i h => absurd h (Nat.not_lt_zero i), Below.refl _ _⟩
        case round =>
          obtain ⟨j, m, c', q, hj, hgk, rfl, rfl, hm, hO, hbd, hB6⟩ := hrel
          obtain ⟨W6, rfl⟩ : ∃ W6 : World, W6 = wr := ⟨_, rfl⟩
          replace hgk := Lib.hid hgk; replace hO := Lib.hid hO; replace hbd := Lib.hid hbd; replace hB6 := Lib.hid hB6
          by_cases hlt : j < N
          · obtain ⟨bb, oo, rfl, _, hcc⟩ := (hx5.out.below hB6.out).at (by omega)
            have k0 : W6.cell? ⟨bb, oo + j, none⟩ = some (.int .i64 (ist l j)) := hcc j hlt
            clear hcc
            obtain ⟨v, hv⟩ : ∃ v, ist l j = v := ⟨_, rfl⟩
            have hstep : Hid (((l.take (j + 1)).map fun x => 2 * x) = ((l.take j).map fun x => 2 * x) ++ [2 * v]) := by
              show _ = _
              rw [List.take_add_one, List.map_append, List.getElem?_eq_getElem (by rw [hll.out]; exact hlt)]
              unfold ist at hv
              rw [List.getElem?_eq_getElem (by rw [hll.out]; exact hlt)] at hv
              simp at hv
              simp [hv]
            rw [hv] at k0
            have hBe := Lib.hid (hBd.out.trans (hB6.out.mono hBd.out.size))
            by_cases hv1 : 500000 < v
            · have z5 : decide (500000 < v) = true := decide_eq_true hv1
              replace hv := Lib.hid hv
              clear hv1
              go_wp2_with fail
              go_ret
              exact ⟨rfl, hBe.out⟩
            · by_cases hv2 : v < -500000
              · have z5 : decide (500000 < v) = false := decide_eq_false hv1
                have z6 : decide (v < -500000) = true := decide_eq_true hv2
                replace hv := Lib.hid hv
                clear hv1 hv2
                go_wp2_with fail
                go_ret
                exact ⟨rfl, hBe.out⟩
              · have z5 : decide (500000 < v) = false := decide_eq_false hv1
                have z6 : decide (v < -500000) = false := decide_eq_false hv2
                have wv : IntKind.i64.wrap (2 * v) = 2 * v := IntWalk.i64_in _ (by omega)
                have hbd2 : Hid (∀ i, i < j + 1 → -500000 ≤ ist l i ∧ ist l i ≤ 500000) := fun i hi => by
                  by_cases e : i = j
                  · rw [e, hv]; omega
                  · exact hbd.out i (by omega)
                have hm2 : m < 1000 := by have := hm.out; omega
                have hvb : -500000 ≤ v ∧ v ≤ 500000 := by omega
                replace hv := Lib.hid hv
                have hwm : Hid (w5.heap.size ≤ W6.heap.size) := hB6.out.size
                have hqb : Hid (∀ x, q.map (·.block) = some x → w5.heap.size ≤ x) := fun x e => by
                  cases q with
                  | none => cases e
                  | some a => have := (hO.out.block a rfl).1; simp at e; omega
                clear hv1 hv2
                go_wp2_with (at_builtin; refine wp_append1 int23 W6 rfl _ _ rfl w5.heap.size q m c' _ rfl hO.out (2 * v) rfl (by omega) hwm.out ?_; intro q2 c3 w7 hO7 hg7 _ hz7; replace hO7 := Lib.hid hO7; replace hg7 := Lib.hid hg7)
                have hO8 : Hid (Own 3 w5.heap.size w7 q2 (m + 1) c3 ((l.take (j + 1)).map fun x => 2 * x)) := by rw [hstep.out]; exact hO7.out
                have hB8 := Lib.hid (hB6.out.grown hg7.out hwm.out hqb.out)
                clear hO hO7 hg7 hB6 hstep k0 hqb
                have hgk := hgk.out
                go_roundg (N - (j + 1))
                case measure => omega
                case rel => exact ⟨j + 1, m + 1, c3, q2, by omega, rfl, by go_num, rfl, by show _ = _; have := hm.out; omega, hO8.out, hbd2.out, hB8.out⟩
          · obtain rfl : N = j := by omega
            obtain rfl : m = N := hm.out
            have htk : l.take m = l := List.take_of_length_le (by rw [hll.out]; exact Nat.le_refl _)
            have hTe := hTw.out (fun x hxm => by
              obtain ⟨i, hi, rfl⟩ := List.mem_iff_getElem.1 hxm
              have := hbd.out i (by rw [← hll.out]; exact hi)
              unfold ist at this
              rw [List.getElem?_eq_getElem hi] at this
              simpa using this)
            have hxT := hO.out.in
            rw [htk] at hxT
            have HT := Lib.hid (iis_any m c' q _ W6 (by omega) hxT)
            rw [hTe] at HT
            clear hxT hTe htk
            have hBe := Lib.hid (hBd.out.trans (hB6.out.mono hBd.out.size))
            have hws : Hid (w.heap.size ≤ W6.heap.size) := Nat.le_trans hwl.out hB6.out.size
            clear hO hbd hB6 hBd
            go_wp2_with fail
            refine HT.out.mono ?_
            rintro e w8 ⟨rfl, hB8⟩
            have hBf := Lib.hid (hBe.out.trans (hB8.mono hws.out))
            clear HT hBe hB8 hws
            go_wp2_with fail
            go_ret
            exact ⟨rfl, hBf.out⟩
    · have he : isI l = (0, 0, 3) := by
        unfold isI; rw [hll.out, s3.out, hss.out, if_neg (by omega), if_pos ho]
      rw [he] at HI
      clear ho he
      refine HI.out.mono ?_
      rintro e w4 ⟨rfl, hB4⟩
      have hBc := Lib.hid (hBb.out.trans (hB4.mono hBb.out.size))
      clear HI hBb hB4
      go_wp2_with fail
      go_ret
      exact ⟨rfl, hBc.out⟩
  · have HI := Lib.hid (is_none N c p w2 s0)
    refine (forms_none N c p w2 s0).mono ?_
    rintro e w' ⟨rfl, rfl⟩
    go_wp2_with fail
    refine HI.out.mono ?_
    rintro e w' ⟨rfl, rfl⟩
    go_wp2_with fail
    go_ret
    exact ⟨rfl, hBa.out⟩
end Go.Proofs.Ytbfdhegglaaghaa
