/- What gameroomkeep.NonoBack computes; conditions: the arguments fit their kinds. -/
import Derived.Test.YtkklcfaghnfleaaNSur
import Derived.Test.YtkklcfaghnfleaaPick
namespace Go.Proofs.Ytkklcfaghnfleaa
open Go.RowKit Go.Maps

theorem own_lit (w : World) (ys : List Int) (n : Nat) (hl : ys.length = n) (hn : n ≤ 1099511627776) : Own 3 w.heap.size (w.alloc (.cells (ys.map (Value.int .i64)).toArray 3)) (some ⟨w.heap.size, 0, none⟩) n n ys :=
  ⟨by simp [hl], .inr ⟨w.heap.size, n, (ys.map (Value.int .i64)).toArray, rfl, Nat.le_refl _, heap_alloc_new w _, Nat.le_refl _, by unfold maxLen; omega, by simp [hl], by simpa using List.take_of_length_le (by simp; omega)⟩⟩
theorem own_none {B : Nat} {w : World} {n c : Nat} {xs : List Int} (h : Own 3 B w none n c xs) : c = 0 := by
  rcases h.2 with ⟨hv, h0⟩ | ⟨g, cap, cur, hv, _⟩
  · injection hv
  · cases hv
theorem own_cap {B : Nat} {w : World} {q : Option Addr} {n c : Nat} {xs : List Int} (h : Own 3 B w q n c xs) : n ≤ c := OwnC.cap (k := 1) h

set_option maxHeartbeats 400000 in
theorem ints_any (p : Option Addr) (n c : Nat) (xs : List Int) (w : World) (hn : n ≤ 1000000) (hc0 : p = none → c = 0) (hx : IntsIn w p n xs) :
    Calls Try.prog 8 #[.slice p n c] w fun e w' => ∃ p' c', e = .returned (.slice p' n c') ∧ Own 3 w.heap.size w' p' n c' xs ∧ Below w.heap.size w w' := by
  cases p with
  | none =>
    have h0 : n = 0 := by
      rcases Nat.eq_zero_or_pos n with h | h
      · exact h
      · obtain ⟨b, o, e, _⟩ := hx.at h; cases e
    subst h0
    obtain rfl := hc0 rfl
    have hxs : Hid (xs = []) := List.eq_nil_of_length_eq_zero hx.len
    clear hx
    go_enter Try.func8, Try.ntmps8
    go_wp2
    go_ret
    exact ⟨none, 0, rfl, by rw [hxs.out]; exact Own.nil _ _ _, Below.refl _ _⟩
  | some ad =>
    replace hx := Lib.hid hx
    go_enter Try.func8, Try.ntmps8
    go_wp2_with (at_builtin; refine wp_appendL intG _ rfl _ _ rfl w.heap.size none 0 0 [] rfl (Own.nil _ _ _) ad n c xs rfl hx.out (by omega) (Nat.le_refl _) ?_; intro p' c' w2 hO hg _ hz)
    have hB : Below w.heap.size w w2 := (Below.refl _ w).grown hg (Nat.le_refl _) (fun x hx => by cases hx)
    replace hO := Lib.hid hO; replace hB := Lib.hid hB
    clear hg hz
    go_wp2
    go_ret
    exact ⟨p', c', by simp, by simpa using hO.out, hB.out⟩

theorem part_hide {p : List Int} {s : List Nat} (h : Part p s) (j : Nat) : Part (p.set j (-1)) s := by
  refine ⟨by rw [List.length_set]; exact h.1, fun i hi => ?_⟩
  by_cases e : j = i
  · subst e
    left
    rw [List.getElem?_set_self (by rw [h.1]; exact hi)]
  · rw [List.getElem?_set_ne e]; exact h.2 i hi
theorem part_self (s : List Nat) : Part (asI s) s := ⟨by rw [asI_len], fun i hi => .inr rfl⟩
theorem part_open {p : List Int} {s : List Nat} (hl : p.length = s.length) (h : ∀ i, i < s.length → p[i]? = some (-1)) : Part p s := ⟨hl, fun i hi => .inl (h i hi)⟩
theorem part_rng {p : List Int} {s : List Nat} (h : Part p s) (hs : ∀ x ∈ s, x ≤ 1) {j : Nat} (hj : j < s.length) : (p[j]?.getD 0 = -1 ∨ 0 ≤ p[j]?.getD 0) ∧ -1 ≤ p[j]?.getD 0 ∧ p[j]?.getD 0 ≤ 1 := by
  rcases h.2 j hj with e | e
  · rw [e]; simp
  · rw [e]
    have h1 := bits_rng hs j
    have h2 : 0 ≤ (bI s)[j]?.getD 0 := by rw [← asI_bI, asI_at]; omega
    rw [asI_bI] at h1
    exact ⟨.inr h2, h1⟩
theorem open_ref {o p : List Int} {s : List Nat} (ho : ∀ i, i < s.length → o[i]? = some (-1)) (hl : o.length = s.length) (h : Part p s) (hs : ∀ x ∈ s, x ≤ 1) : Ref o p := by
  refine ⟨by rw [hl, h.1], fun i hi => ?_⟩
  have hi' : i < s.length := by rw [← hl]; exact hi
  rcases h.2 i hi' with e | e
  · left; rw [ho i hi', e]
  · right
    refine ⟨ho i hi', ?_⟩
    rw [e]
    unfold bI
    rw [List.getElem?_map, List.getElem?_eq_getElem hi']
    have := hs _ (List.getElem_mem hi')
    rcases (show s[i] = 0 ∨ s[i] = 1 by omega) with e | e <;> rw [e] <;> simp

set_option maxRecDepth 100000 in
set_option maxHeartbeats 16000000 in
theorem back_any (q1 q2 : Option Addr) (n1 c1 n2 c2 : Nat) (xs ys : List Int) (w : World) (hn1 : n1 ≤ 9223372036854775807) (hn2 : n2 ≤ 9223372036854775807)
    (hz1 : ∀ j : Nat, j < n1 → -9223372036854775808 ≤ xs[j]?.getD 0 ∧ xs[j]?.getD 0 ≤ 9223372036854775807) (hz2 : ∀ j : Nat, j < n2 → -9223372036854775808 ≤ ys[j]?.getD 0 ∧ ys[j]?.getD 0 ≤ 9223372036854775807) (hx : IntsIn w q1 n1 xs) (hy : IntsIn w q2 n2 ys) :
    Calls Try.prog 3 #[.slice q1 n1 c1, .slice q2 n2 c2] w fun e w' => e = .returned (.bool true) ∧ Below w.heap.size w w' := by
  replace hx := Lib.hid hx; replace hz1 := Lib.hid hz1; replace hy := Lib.hid hy; replace hz2 := Lib.hid hz2
  go_enter Try.func3, Try.ntmps3
  go_wp2_with fail
  go_loopg [5, 6] 14 (fun gk v5 v6 W' => ∃ (i : Nat) (s : List Nat) (p : Option Addr) (c : Nat), i ≤ 14 ∧ i ≤ n1 ∧ gk = 14 - i ∧ v6 = .int .i64 i ∧ v5 = .slice p i c ∧ Own 3 w.heap.size W' p i c (asI s) ∧ (∀ x ∈ s, x ≤ 1) ∧ Below w.heap.size w W')
  case atStart => exact ⟨0, [], none, 0, by omega, by omega, by omega, rfl, rfl, Own.nil _ _ _, by simp, Below.refl _ _⟩
  case round =>
    obtain ⟨n, s, p, c, hn, hin, hgk, rfl, rfl, hO, hs, hBr⟩ := hrel
    obtain ⟨W1, rfl⟩ : ∃ W1 : World, W1 = wr := ⟨_, rfl⟩
    replace hgk := Lib.hid hgk
    by_cases hlt : n < n1 ∧ n < 14
    · obtain ⟨h1, h2⟩ := hlt
      obtain ⟨gb, go, rfl, hgb, hcx⟩ := hx.out.at (by omega)
      clear hcx
      obtain ⟨_, _, e, _, hcx⟩ := (hx.out.below hBr).2 n h1
      cases e
      have hzi := hz1.out n h1
      generalize xs[n]?.getD 0 = x at *
      have HP := Lib.hid (fun W => picked_any x 2 W hzi.1 hzi.2 (by omega) (by omega) 2 (Lib.hid rfl))
      have hk := pick_lt x 2 (by omega)
      generalize pick x 2 = k at *
      have hsz := hBr.size
      replace hO := Lib.hid hO; replace hBr := Lib.hid hBr; replace hs := Lib.hid hs
      go_wp2_with fail
      refine (HP.out _).mono ?_
      rintro r w' ⟨rfl, rfl⟩
      go_wp2_with (at_builtin; refine wp_append1 intG W1 rfl (.tmp 29) (.tmp 35) rfl w.heap.size p n c _ rfl hO.out (k : Int) rfl ?_ hsz ?_; (omega); intro p6 c6 w6 hO7 hg6 hr6 hz6)
      have hB7 := Lib.hid (hBr.out.grown hg6 hsz (fun x hx => by
        cases p with
        | none => cases hx
        | some y => simp at hx; subst hx; exact (hO.out.block y rfl).1))
      rw [show asI s ++ [(k : Int)] = asI (s ++ [k]) by simp [asI]] at hO7
      replace hO7 := Lib.hid hO7
      clear hg6 hr6 hz6
      go_wp2_with fail
      have hgk := hgk.out
      go_roundg (14 - (n + 1))
      case measure => omega
      case rel => exact ⟨n + 1, s ++ [k], p6, c6, by omega, by omega, rfl, by go_num, rfl, hO7.out, fun x hx => by
        rcases List.mem_append.1 hx with hx | hx
        · exact hs.out x hx
        · simp at hx; omega, hB7.out⟩
    · have hdisj : n1 ≤ n ∨ (n < n1 ∧ 14 ≤ n) := by omega
      have hsl : s.length = n := by have := hO.len; rw [asI_len] at this; exact this
      have hcap := own_cap hO
      have hc0 : Hid (p = none → c = 0) := fun e => by subst e; exact own_none hO
      have hX3 := Lib.hid (Ways_any 5 5 1 1 (some ⟨W1.heap.size, 0, none⟩) (some ⟨W1.heap.size + 1, 0, none⟩) [-1, -1, -1, -1, -1] [3] ((W1.alloc (.cells #[.int .i64 (-1), .int .i64 (-1), .int .i64 (-1), .int .i64 (-1), .int .i64 (-1)] 3)).alloc (.cells #[.int .i64 3] 3)) (by omega) (by omega) (by omega)
        (fun j hj => by rcases (show j = 0 ∨ j = 1 ∨ j = 2 ∨ j = 3 ∨ j = 4 by omega) with rfl | rfl | rfl | rfl | rfl <;> simp) (by intro k hk; simp at hk; omega)
        ((IntsIn.new W1 _ _ _ _ _ rfl (by simp) rfl).alloc _) (IntsIn.new _ _ _ _ _ _ (by simp) (by simp [asI]) rfl))
      rw [three_ways] at hX3
      have hB1 := Lib.hid ((hBr.alloc hBr.size (.cells #[.int .i64 (-1), .int .i64 (-1), .int .i64 (-1), .int .i64 (-1), .int .i64 (-1)] 3)).alloc (by have := hBr.size; simp; omega) (.cells #[.int .i64 3] 3))
      have hO1 := Lib.hid ((hO.alloc (.cells #[.int .i64 (-1), .int .i64 (-1), .int .i64 (-1), .int .i64 (-1), .int .i64 (-1)] 3)).alloc (.cells #[.int .i64 3] 3))
      replace hs := Lib.hid hs; replace hsl := Lib.hid hsl
      clear hlt
      rcases hdisj with h1 | ⟨h1, h2⟩
      all_goals
        clear hO hBr
        go_wp2_with fail
        generalize ((W1.alloc (.cells #[.int .i64 (-1), .int .i64 (-1), .int .i64 (-1), .int .i64 (-1), .int .i64 (-1)] 3)).alloc (.cells #[.int .i64 3] 3)) = W2 at *
        refine hX3.out.mono ?_
        rintro r w3 ⟨rfl, hB⟩
        have hB3 := Lib.hid (hB1.out.trans (hB.mono hB1.out.size))
        have hO3 := Lib.hid (hO1.out.below hB (Nat.le_refl _))
        clear hB hB1 hO1 hX3
        have HC := Lib.hid (Clue_any n c p s w3 (by omega) hs.out hO3.out.in)
        go_wp2_with fail
        refine HC.out.mono ?_
        rintro r w4 ⟨cq, m, cc, rfl, hm, hci, hB⟩
        have hB4 := Lib.hid (hB3.out.trans (hB.mono hB3.out.size))
        have hO4 := Lib.hid (hO3.out.below hB (Nat.le_refl _))
        have hm20 : m ≤ 20 := by rw [hm]; have := (runs_sum s).2; have := hsl.out; omega
        have hrk : Hid (∀ k ∈ runs s, 1 ≤ k ∧ k ≤ 20) := fun k hk => by have := runs_le s k hk; have := hsl.out; omega
        have HW := Lib.hid (Ways_any n c m cc p cq (asI s) (runs s) w4 (by omega) hm20 hcap (fun j _ => bits_rng hs.out j) hrk.out hO4.out.in hci)
        rw [asI_bI, runs_ways s.length s (Nat.le_refl _) hs.out] at HW
        replace hm := Lib.hid hm; replace hci := Lib.hid hci
        clear hB hB3 hO3 HC
        go_wp2_with fail
        refine HW.out.mono ?_
        rintro r w5 ⟨rfl, hB⟩
        have hB5 := Lib.hid (hB4.out.trans (hB.mono hB4.out.size))
        have hO5 := Lib.hid (hO4.out.below hB (Nat.le_refl _))
        have hci5 := Lib.hid (hci.out.below hB)
        clear hB hB4 hO4 hci HW
        have hmk := run_mk intG .i64 .i64 (n : Int) (n : Int) n rfl rfl (by omega) w5
        go_wp2_with fail
        have hOA : Own 3 w5.heap.size (w5.alloc (.cells (Array.replicate n (.int .i64 0)) 3)) (some ⟨w5.heap.size, 0, none⟩) n n (List.replicate n 0) := by
          have := own_lit w5 (List.replicate n 0) n (by simp) (by omega)
          simpa using this
        have hI := Lib.hid (ints_any p n c (asI s) (w5.alloc (.cells (Array.replicate n (.int .i64 0)) 3)) (by omega) hc0.out (hO5.out.in.alloc _))
        have hB6 := Lib.hid ((Below.refl w5.heap.size w5).alloc (Nat.le_refl _) (.cells (Array.replicate n (.int .i64 0)) 3))
        have hsz5 : (w5.alloc (.cells (Array.replicate n (.int .i64 0)) 3)).heap.size = w5.heap.size + 1 := by simp
        generalize (w5.alloc (.cells (Array.replicate n (.int .i64 0)) 3)) = w6 at *
        refine hI.out.mono ?_
        rintro r w7 ⟨p7, c7, rfl, hO7, hB⟩
        have hB7 := Lib.hid (hB6.out.trans (hB.mono hB6.out.size))
        have hOA7 := Lib.hid (hOA.below hB (Nat.le_refl _))
        rw [hsz5] at hO7
        have hcap7 := own_cap hO7
        replace hO7 := Lib.hid hO7
        clear hB hB6 hOA hI hsz5 hmk
        go_wp2_with fail
        go_loopg [15] n (fun gk jv W' => ∃ (j : Nat) (os ps : List Int), j ≤ n ∧ gk = n - j ∧ jv = .int .i64 j ∧ Own 3 w5.heap.size W' (some ⟨w5.heap.size, 0, none⟩) n n os ∧ Own 3 (w5.heap.size + 1) W' p7 n c7 ps ∧ (∀ t, t < j → os[t]? = some (-1)) ∧ Part ps s ∧ Below w5.heap.size w5 W')
        case atStart => exact ⟨0, List.replicate n 0, asI s, by omega, by omega, rfl, hOA7.out, hO7.out, fun t ht => absurd ht (by omega), part_self s, hB7.out⟩
        case round =>
          obtain ⟨j, os, ps, hj, hgk, rfl, hOa, hOp, hos, hps, hBr⟩ := hrel
          obtain ⟨V1, rfl⟩ : ∃ V1 : World, V1 = wr := ⟨_, rfl⟩
          replace hgk := Lib.hid hgk
          by_cases hlt : j < n
          · obtain ⟨g7, rfl, hg71, hg72, _⟩ := hOp.where (by omega)
            have hne : w5.heap.size ≠ g7 := by omega
            have k13 := hOa.cell hlt
            have f13 := hOa.free j
            have hOa1 := hOa.set j (-1)
            have hOp1 : Own 3 (w5.heap.size + 1) (V1.setCell ⟨w5.heap.size, j, none⟩ (.int .i64 (-1))) (some ⟨g7, 0, none⟩) n c7 ps := hOp.keep fun a ha => by cases ha; exact wset_ne _ _ (Ne.symm hne)
            have hB8 := hBr.setCell (p := ⟨w5.heap.size, j, none⟩) (Nat.le_refl _) (.int .i64 (-1))
            have hos1 : Hid (∀ t, t < j + 1 → (os.set j (-1))[t]? = some (-1)) := fun t ht => by
              have hl := hOa.len
              by_cases e : j = t
              · subst e; rw [List.getElem?_set_self (by omega)]
              · rw [List.getElem?_set_ne e]; exact hos t (by omega)
            generalize os[j]?.getD 0 = zz at *
            replace hOa := Lib.hid hOa; replace hOp := Lib.hid hOp; replace hBr := Lib.hid hBr; replace hos := Lib.hid hos; replace hps := Lib.hid hps
            go_upto_region 17 with fail
            generalize V1.setCell ⟨w5.heap.size, j, none⟩ (.int .i64 (-1)) = V2 at *
            clear hOa hOp hBr k13 f13 hos
            replace hOa1 := Lib.hid hOa1
            by_cases hh : j < n2
            · have hyy := (hy.out.below (hB5.out.trans (hB8.mono hB5.out.size)))
              obtain ⟨hb, ho, rfl, hhb, hhc⟩ := hyy.at (by omega)
              have kh := hhc j hh
              have hzj := hz2.out j hh
              clear hhc hyy
              generalize ys[j]?.getD 0 = y at *
              have HP := Lib.hid (fun W => picked_any y 2 W hzj.1 hzj.2 (by omega) (by omega) 2 (Lib.hid rfl))
              have hk2 := pick_lt y 2 (by omega)
              generalize pick y 2 = k at *
              by_cases hk0 : k = 0
              · have hk0i : ((k : Int) == 0) = true := by simp; omega
                have k14 := hOp1.cell hlt
                have f14 := hOp1.free j
                have hOp2 := hOp1.set j (-1)
                have hOa2 : Own 3 w5.heap.size (V2.setCell ⟨g7, j, none⟩ (.int .i64 (-1))) (some ⟨w5.heap.size, 0, none⟩) n n (os.set j (-1)) := hOa1.out.keep fun a ha => by cases ha; exact wset_ne _ _ hne
                have hB9 := Lib.hid (hB8.setCell (p := ⟨g7, j, none⟩) (by show w5.heap.size ≤ g7; omega) (.int .i64 (-1)))
                generalize ps[j]?.getD 0 = zp at *
                replace hOp2 := Lib.hid hOp2; replace hOa2 := Lib.hid hOa2; replace hOp1 := Lib.hid hOp1; replace hB8 := Lib.hid hB8
                clear hk0
                go_wp2_with fail
                refine (HP.out _).mono ?_
                rintro r w' ⟨rfl, rfl⟩
                go_wp2_with fail
                have hgk := hgk.out
                go_roundg (n - (j + 1))
                case measure => omega
                case rel => exact ⟨j + 1, os.set j (-1), ps.set j (-1), by omega, rfl, by go_num, hOa2.out, hOp2.out, hos1.out, part_hide hps.out j, hB9.out⟩
              · have hk0i : ((k : Int) == 0) = false := by simp; omega
                replace hOp1 := Lib.hid hOp1; replace hB8 := Lib.hid hB8
                clear hk0
                go_wp2_with fail
                refine (HP.out _).mono ?_
                rintro r w' ⟨rfl, rfl⟩
                go_wp2_with fail
                have hgk := hgk.out
                go_roundg (n - (j + 1))
                case measure => omega
                case rel => exact ⟨j + 1, os.set j (-1), ps, by omega, rfl, by go_num, hOa1.out, hOp1.out, hos1.out, hps.out, hB8.out⟩
            · replace hOp1 := Lib.hid hOp1; replace hB8 := Lib.hid hB8
              go_wp2_with fail
              have hgk := hgk.out
              go_roundg (n - (j + 1))
              case measure => omega
              case rel => exact ⟨j + 1, os.set j (-1), ps, by omega, rfl, by go_num, hOa1.out, hOp1.out, hos1.out, hps.out, hB8.out⟩
          · obtain rfl : n = j := by omega
            have hosl : os.length = s.length := by rw [hsl.out]; exact hOa.len
            have hos' : ∀ i, i < s.length → os[i]? = some (-1) := fun i hi => hos i (by rw [← hsl.out]; exact hi)
            have hop := part_open hosl hos'
            have href := Lib.hid (open_ref hos' hosl hps hs.out)
            have hciB := hci5.out.below hBr
            have hS1 := Lib.hid (Sure_any n n m cc _ cq os (runs s) V1 (by omega) hm20 (Nat.le_refl _) (fun j hj => (part_rng hop hs.out (by rw [hsl.out]; exact hj)).1) (fun j hj => (part_rng hop hs.out (by rw [hsl.out]; exact hj)).2) hrk.out (part_pos hop hs.out) hOa.in hciB)
            have hS2 : Hid (∀ W : World, Below V1.heap.size V1 W → Calls Try.prog 9 #[.slice p7 n c7, .slice cq m cc] W fun r w' => ∃ q c, r = .returned (.tuple #[.slice q n c, .int .i64 0]) ∧ IntsIn w' q n (sureN ps (runs s) n) ∧ Below W.heap.size W w') := fun W hW =>
              Sure_any n c7 m cc p7 cq ps (runs s) W (by omega) hm20 hcap7 (fun j hj => (part_rng hps hs.out (by rw [hsl.out]; exact hj)).1) (fun j hj => (part_rng hps hs.out (by rw [hsl.out]; exact hj)).2) hrk.out (part_pos hps hs.out) (hOp.in.below hW) (hciB.below hW)
            have hlB := Lib.hid (hO5.out.in.below hBr)
            replace hBr := Lib.hid hBr; replace hps := Lib.hid hps; replace hop := Lib.hid hop; replace hosl := Lib.hid hosl
            clear hOa hOp hciB hos hos'
            go_wp2_with fail
            refine hS1.out.mono ?_
            rintro r w8 ⟨qa, ca, rfl, hia, hB8⟩
            have hS2' := Lib.hid (hS2.out w8 hB8)
            have hl8 := Lib.hid (hlB.out.below hB8)
            have hB9 := Lib.hid (hBr.out.trans (hB8.mono hBr.out.size))
            replace hia := Lib.hid hia
            clear hS1 hS2 hB8 hlB hBr
            go_wp2_with fail
            refine hS2'.out.mono ?_
            rintro r w9 ⟨qb, cb, rfl, hib, hB10⟩
            have hl9 := Lib.hid (hl8.out.below hB10)
            have hia9 := Lib.hid (hia.out.below hB10)
            have hB11 := Lib.hid (hB9.out.trans (hB10.mono hB9.out.size))
            replace hib := Lib.hid hib
            clear hS2' hB10 hl8 hia hB9
            go_wp2_with fail
            go_loopg [18] n (fun gk jv W' => ∃ j : Nat, j ≤ n ∧ gk = n - j ∧ jv = .int .i64 j ∧ Below w9.heap.size w9 W')
            case atStart => exact ⟨0, by omega, by omega, rfl, Below.refl _ _⟩
            case round =>
              obtain ⟨j, hj, hgk2, rfl, hBq⟩ := hrel
              obtain ⟨X1, rfl⟩ : ∃ X1 : World, X1 = wr := ⟨_, rfl⟩
              replace hgk2 := Lib.hid hgk2
              by_cases hlt2 : j < n
              · have hjs : j < s.length := by rw [hsl.out]; exact hlt2
                have hia1 := hia9.out.below hBq
                have hib1 := hib.out.below hBq
                have hl1 := hl9.out.below hBq
                obtain ⟨ab, ao, rfl, _, hac⟩ := hia1.at (by omega)
                obtain ⟨bb, bo, rfl, _, hbc⟩ := hib1.at (by omega)
                obtain ⟨lb, lo, rfl, _, hlc⟩ := hl1.at (by omega)
                have ka := hac j hlt2
                have kb := hbc j hlt2
                have kl := hlc j hlt2
                rw [sureN_at _ _ _ _ (by rw [hosl.out]; exact hjs), if_pos hlt2] at ka
                rw [sureN_at _ _ _ _ (by rw [hps.out.1]; exact hjs), if_pos hlt2] at kb
                have hsj : (asI s)[j]?.getD 0 = (s[j] : Int) := by rw [asI_at, st, List.getElem?_eq_getElem hjs]; rfl
                rw [hsj] at kl
                have h1 := fun h => sure_right hop.out hs.out hjs h
                have h2 := fun h => sure_right hps.out hs.out hjs h
                have h3 := fun h => sure_more hps.out hop.out href.out hs.out hjs h
                generalize sureAt os (runs s) j = av at *
                generalize sureAt ps (runs s) j = bv at *
                generalize (s[j] : Int) = sj at *
                replace hBq := Lib.hid hBq
                clear hac hbc hlc hia1 hib1 hl1 hsj
                by_cases ha : 0 ≤ av
                · have e1 := h1 ha
                  have e2 := h3 ha
                  subst e2
                  subst e1
                  clear h1 h2 h3
                  go_wp2_with fail
                  go_quiet (fail)
                  go_wp2_with fail
                  have hgk2 := hgk2.out
                  go_roundg (n - (j + 1))
                  case measure => omega
                  case rel => exact ⟨j + 1, by omega, rfl, by go_num, ⟨hBq.out.os, hBq.out.tape, hBq.out.output, hBq.out.size, hBq.out.block⟩⟩
                · have hab : decide (0 ≤ av) = false := decide_eq_false ha
                  have hav : av < 0 := by omega
                  by_cases hb : 0 ≤ bv
                  · have e1 := h2 hb
                    subst e1
                    clear h1 h2 h3
                    go_wp2_with fail
                    go_quiet (fail)
                    go_wp2_with fail
                    have hgk2 := hgk2.out
                    go_roundg (n - (j + 1))
                    case measure => omega
                    case rel => exact ⟨j + 1, by omega, rfl, by go_num, ⟨hBq.out.os, hBq.out.tape, hBq.out.output, hBq.out.size, hBq.out.block⟩⟩
                  · have hbb : decide (0 ≤ bv) = false := decide_eq_false hb
                    have hbv : bv < 0 := by omega
                    clear h1 h2 h3
                    go_wp2_with fail
                    go_quiet (fail)
                    go_wp2_with fail
                    have hgk2 := hgk2.out
                    go_roundg (n - (j + 1))
                    case measure => omega
                    case rel => exact ⟨j + 1, by omega, rfl, by go_num, ⟨hBq.out.os, hBq.out.tape, hBq.out.output, hBq.out.size, hBq.out.block⟩⟩
              · obtain rfl : n = j := by omega
                have hBE := Lib.hid ((hB5.out.trans (hB11.out.mono hB5.out.size)).trans (hBq.mono (hB5.out.trans (hB11.out.mono hB5.out.size)).size))
                clear hBq
                go_wp2_with fail
                go_ret
                exact ⟨rfl, hBE.out⟩
end Go.Proofs.Ytkklcfaghnfleaa
