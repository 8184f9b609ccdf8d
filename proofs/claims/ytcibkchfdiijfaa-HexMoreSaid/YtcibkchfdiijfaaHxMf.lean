import Derived.Test.YtcibkchfdiijfaaHxMe
import Derived.Test.YtcibkchfdiijfaaHxE
import Derived.Test.YtcibkchfdiijfaaCln
import Derived.Deep.Cut
import Derived.Deep.DeepCutAuto
/- hex.Solve walks; conditions stand in each. -/
namespace Go.Proofs.Ytcibkchfdiijfaa
open Go.RowKit Go.Maps

/-- the solver is made. -/
def MadeS (W : World) (n N : Nat) (s : List Nat) (v : Value) (X : World) : Prop :=
  ∃ Sb g c mb : Nat, v = .pointer (some ⟨Sb, 0, none⟩) ∧ Sm n N c Sb g mb W.heap.size (Uk N s) X s ∧ Below W.heap.size W X
theorem madeA {W w6 : World} {n N c6 : Nat} {s : List Nat} {p6 : Option Addr} (hN : 1 ≤ N) (hO : Own 3 W.heap.size w6 p6 N c6 (asI s)) (hB : Below W.heap.size W w6) :
    MadeS W n N s (.pointer (some ⟨w6.heap.size + 1, 0, none⟩)) ((w6.alloc (.map #[] 0)).alloc (.cells #[.int .i64 (n : Int), .int .i64 (n : Int), .slice p6 N c6, .map (some w6.heap.size)] 40)) := by
  obtain ⟨g, rfl, h1, h2, _⟩ := hO.where (by omega)
  have e2 := heap_alloc_new (w6.alloc (.map #[] 0)) (.cells #[.int .i64 (n : Int), .int .i64 (n : Int), .slice (some ⟨g, 0, none⟩) N c6, .map (some w6.heap.size)] 40)
  rw [World.size_alloc] at e2
  exact ⟨w6.heap.size + 1, g, c6, w6.heap.size, rfl, ⟨e2, (hO.alloc _).alloc _, (mapOk_made w6).alloc _, by omega, by have := hB.size; omega, hB.size⟩, (hB.alloc hB.size _).alloc (by have := hB.size; simp; omega) _⟩
theorem madeB {W w6 : World} {n N c6 : Nat} {s : List Nat} {p6 : Option Addr} (hN : 1 ≤ N) (hO : Own 3 (W.heap.size + 1) w6 p6 N c6 (asI s)) (hB0 : Below (W.heap.size + 1) (W.alloc (.map #[] 0)).drew w6) :
    MadeS W n N s (.pointer (some ⟨w6.heap.size, 0, none⟩)) (w6.alloc (.cells #[.int .i64 (n : Int), .int .i64 (n : Int), .slice p6 N c6, .map (some W.heap.size)] 40)) := by
  have hB : Below (W.heap.size + 1) (W.alloc (.map #[] 0)) w6 := ⟨hB0.os, hB0.tape, hB0.output, hB0.size, hB0.block⟩
  obtain ⟨g, rfl, h1, h2, _⟩ := hO.where (by omega)
  have hA : Below W.heap.size W (W.alloc (.map #[] 0)) := (Below.refl _ W).alloc (Nat.le_refl _) _
  have hW6 : Below W.heap.size W w6 := hA.trans (hB.mono (by omega))
  have hs := hB.size
  simp only [World.size_alloc] at hs
  exact ⟨w6.heap.size, g, c6, W.heap.size, rfl, ⟨heap_alloc_new _ _, (hO.mono (by omega)).alloc _, ((mapOk_made W).below (by rw [World.size_alloc]; exact hB)).alloc _, by omega, by omega, Nat.le_refl _⟩, hW6.alloc hW6.size _⟩

theorem Solve_no (q : Option Addr) (n c who : Nat) (W H : Int) (xs : List Int) (w : World) (hn : n ≤ 9223372036854775807) (hW1 : -9223372036854775808 ≤ W) (hW2 : W ≤ 9223372036854775807) (hH1 : -9223372036854775808 ≤ H) (hH2 : H ≤ 9223372036854775807) (hx : IntsIn w q n xs) (hwho : who = 1 ∨ who = 2) (hno : okH W H xs = false) :
    Calls Try.prog 6 #[.agg #[.int .i64 W, .int .i64 H, .slice q n c], .int .i64 (who : Int)] w fun e w' => e = .returned (.tuple #[.int .i64 0, .slice none 0 0, .int .i64 12]) ∧ Below w.heap.size w w' := by
  have hB0 : Below w.heap.size w (w.alloc (.cells #[.int .i64 W, .int .i64 H, .slice q n c] 24)) := (Below.refl _ w).alloc (Nat.le_refl _) _
  have HM := Lib.hid (player_any q n c who W H xs (w.alloc (.cells #[.int .i64 W, .int .i64 H, .slice q n c] 24)) hn hW1 hW2 hH1 hH2 (hx.below hB0) hwho)
  obtain ⟨w1, hw1⟩ : ∃ w1 : World, w1 = w.alloc (.cells #[.int .i64 W, .int .i64 H, .slice q n c] 24) := ⟨_, rfl⟩
  rw [← hw1] at HM hB0
  rw [hno, if_neg (by simp)] at HM
  have hs1 : w.heap.size ≤ w1.heap.size := hB0.size
  replace hB0 := Lib.hid hB0
  go_enter Try.func6, Try.ntmps6
  go_wp2_with (go_at_call 12; rw [← hw1]; (with_reducible refine HM.out.mono ?_); rintro e w2 ⟨rfl, hB⟩; replace hB := Lib.hid hB)
  go_ret3
  exact ⟨rfl, hB0.out.trans (hB.out.mono hs1)⟩

theorem join_one {n j : Nat} {s : List Nat} (h : JoinI n s j) (h0 : JoinI n s 0) : j = 0 := by
  have hn := not_join h0
  rcases h with ⟨rfl, h⟩ | ⟨rfl, _, h⟩ | ⟨rfl, _⟩
  · exact absurd h (hn 1 (.inl rfl))
  · exact absurd h (hn 2 (.inr rfl))
  · rfl
theorem Tw.bel {g mb H : Nat} {w A C : World} (h : Below H w A) (k : Tw g mb A C) (hg : H ≤ g) (hm : H ≤ mb) (hH : H ≤ w.heap.size) : Below H w C :=
  ⟨k.os.trans h.os, k.tape.trans h.tape, k.output.trans h.output, Nat.le_trans h.size k.size, fun i hi => (k.block i (by have := h.size; omega) (by omega) (by omega)).trans (h.block i hi)⟩
theorem cnt_step {s : List Nat} {k : Nat} (h : k < s.length) : (s.take (k + 1)).countP (· == 0) = (s.take k).countP (· == 0) + if st s k = 0 then 1 else 0 := by
  rw [List.take_add_one, List.getElem?_eq_getElem h, List.countP_append]
  have e : st s k = s[k] := by unfold st; simp [h]
  rw [e]
  simp [List.countP_cons]
/-- Solve's loop: the list of winning first places so far. -/
structure So (n N c Sb g mb B0 B3 : Nat) (s : List Nat) (who : Nat) (W3 W : World) (k : Nat) (p : Option Addr) (l cc : Nat) : Prop where
  sm : Sm n N c Sb g mb B0 (Uk N s) W s
  own : ∃ xs, Own 3 B3 W p l cc xs
  tw : Tw g mb W3 W
  no : l = 0 → ∀ i, i < k → st s i = 0 → ∃ v, Vl n (s.set i who) (3 - who) v ∧ v ≠ who
  yes : 0 < l → Vl n s who who
  le : l ≤ k
section
variable {n N c Sb g mb B0 B3 who k l cc : Nat} {s : List Nat} {W3 W W7 w7 : World} {p p7 : Option Addr} {c7 : Nat}
theorem So.call (h : So n N c Sb g mb B0 B3 s who W3 W k p l cc) (hS : Sm n N c Sb g mb B0 (Uk N s) W7 s) (hT : Tw g mb W W7) (hg : g < B3) (hm : mb < B3) : So n N c Sb g mb B0 B3 s who W3 W7 k p l cc := by
  obtain ⟨xs, hO⟩ := h.own
  exact ⟨hS, ⟨xs, hO.keep fun a ha => hT.block _ (hO.block a ha).2 (by have := (hO.block a ha).1; omega) (by have := (hO.block a ha).1; omega)⟩, h.tw.trans hT, h.no, h.yes, h.le⟩
theorem So.skip (h : So n N c Sb g mb B0 B3 s who W3 W k p l cc) (hno : st s k = 0 → ∃ v, Vl n (s.set k who) (3 - who) v ∧ v ≠ who) : So n N c Sb g mb B0 B3 s who W3 W (k + 1) p l cc :=
  ⟨h.sm, h.own, h.tw, fun hl i hi h0 => by
    rcases (show i < k ∨ i = k by omega) with hh | hh
    · exact h.no hl i hh h0
    · rw [hh] at h0 ⊢; exact hno h0, h.yes, by have := h.le; omega⟩
theorem So.app {xs ys : List Int} (h : So n N c Sb g mb B0 B3 s who W3 W k p l cc) (hO : Own 3 B3 W p l cc xs) (hg : g < B3) (hm : mb < B3) (hs : Sb < B3) (hW : B3 = W3.heap.size) (hv : Vl n s who who) (hO7 : Own 3 B3 w7 p7 (l + 1) c7 ys) (hgr : W.grownBy w7 (p.map (·.block))) : So n N c Sb g mb B0 B3 s who W3 w7 (k + 1) p7 (l + 1) c7 := by
  have hS := h.sm
  have hpx : ∀ x : Nat, x < B3 → some x ≠ p.map (·.block) := fun x hx => hO.apart x hx
  refine ⟨⟨(hgr.block _ (lt_of_heap hS.sb) (hpx _ hs)).trans hS.sb, hS.row.keep fun a ha => hgr.block _ (hS.row.block a ha).2 (by cases ha; exact hpx _ hg), hS.map.grown hgr (hpx _ hm), hS.sg, hS.bs, hS.bm⟩, ⟨_, hO7⟩, ?_, fun hl => absurd hl (by omega), fun _ => hv, by have := h.le; omega⟩
  exact ⟨hgr.os.trans h.tw.os, hgr.tape.trans h.tw.tape, hgr.output.trans h.tw.output, Nat.le_trans h.tw.size hgr.size, fun i hi h1 h2 => (hgr.block i (Nat.lt_of_lt_of_le hi h.tw.size) (hpx i (by omega))).trans (h.tw.block i hi h1 h2)⟩
end
set_option maxRecDepth 20000 in
set_option maxHeartbeats 4000000 in
theorem Solve_yes (n N c who : Nat) (q : Option Addr) (s : List Nat) (w : World) (hN : N = n * n) (hn1 : 1 ≤ n) (hn : n ≤ 10) (hs : s.length = N) (hx : IntsIn w q N (asI s)) (hs2 : ∀ j, st s j ≤ 2) (hwho : who = 1 ∨ who = 2) :
    Calls Try.prog 6 #[.agg #[.int .i64 (n : Int), .int .i64 (n : Int), .slice q N c], .int .i64 (who : Int)] w fun e w' =>
      ((9 < s.countP (· == 0) ∧ e = .returned (.tuple #[.int .i64 0, .slice none 0 0, .int .i64 2])) ∨
       (s.countP (· == 0) ≤ 9 ∧ ∃ (v : Nat) (p : Option Addr) (l cc : Nat), e = .returned (.tuple #[.int .i64 (v : Int), .slice p l cc, .int .i64 0]) ∧ Vl n s who v ∧ (JoinI n s 0 → v = who → 0 < l) ∧ l ≤ 100)) ∧ Below w.heap.size w w' := by
  have hN100 : N ≤ 100 := by rw [hN]; exact Nat.mul_le_mul hn hn
  have hN1 : 1 ≤ N := by rw [hN]; exact Nat.mul_le_mul hn1 hn1
  have hB0 : Below w.heap.size w (w.alloc (.cells #[.int .i64 (n : Int), .int .i64 (n : Int), .slice q N c] 24)) := (Below.refl _ w).alloc (Nat.le_refl _) _
  have HM := Lib.hid (player_any q N c who (n : Int) (n : Int) (asI s) (w.alloc (.cells #[.int .i64 (n : Int), .int .i64 (n : Int), .slice q N c] 24)) (by omega) (by omega) (by omega) (by omega) (by omega) (hx.below hB0) hwho)
  have ha := heap_alloc_new w (.cells #[.int .i64 (n : Int), .int .i64 (n : Int), .slice q N c] 24)
  obtain ⟨w1, hw1⟩ : ∃ w1 : World, w1 = w.alloc (.cells #[.int .i64 (n : Int), .int .i64 (n : Int), .slice q N c] 24) := ⟨_, rfl⟩
  rw [← hw1] at HM hB0 ha
  rw [okH_of hn1 hn (by rw [hs, hN]) hs2, if_pos rfl] at HM
  have hbd : Hid (Bd n s) := ⟨hn1, by rw [hs, hN], hs2⟩
  obtain ⟨b, o, hq, hbl, hcc⟩ := hx.at hN1
  subst hq
  have hcs : ∀ j, j < N → w.cell? ⟨b, o + j, none⟩ = some (.int .i64 (st s j : Nat)) := fun j hj => by have := hcc j hj; rwa [asI_at] at this
  clear hcc
  replace hB0 := Lib.hid hB0; replace hN := Lib.hid hN; replace hs := Lib.hid hs; replace hcs := Lib.hid hcs; replace hx := Lib.hid hx; replace hw1 := Lib.hid hw1; replace hs2 := Lib.hid hs2
  go_enter Try.func6, Try.ntmps6
  go_upto_region 4 with (go_at_call 12; rw [← hw1.out]; (with_reducible refine HM.out.mono ?_); rintro e w2 ⟨rfl, hB⟩; replace hB := Lib.hid hB)
  have hb2 := (hB.out.block _ (lt_of_heap ha)).trans ha
  have hBw2 := hB0.out.trans (hB.out.mono hB0.out.size)
  have d0 := wcell (cs := [_, _, _]) hb2 0
  have d1 := wcell (cs := [_, _, _]) hb2 1
  have d2 := wcell (cs := [_, _, _]) hb2 2
  simp only [List.getElem?_cons_zero, List.getElem?_cons_succ] at d0 d1 d2
  have hcs2 : Hid (∀ j, j < N → w2.cell? ⟨b, o + j, none⟩ = some (.int .i64 (st s j : Nat))) := fun j hj => (hBw2.cell (p := ⟨b, o + j, none⟩) hbl).trans (hcs.out j hj)
  replace hb2 := Lib.hid hb2; replace hBw2 := Lib.hid hBw2
  clear HM ha
  go_wp2_with fail
  go_loopg [26, 8] N (fun gk iv ov W => ∃ k : Nat, k ≤ N ∧ gk = N - k ∧ iv = .int .i64 (k : Int) ∧ ov = .int .i64 ((s.take k).countP (· == 0) : Nat) ∧ w2 = W)
  case atStart => exact ⟨0, Nat.zero_le _, rfl, rfl, by simp, rfl⟩
  case round =>
    obtain ⟨k, hk, hgk, rfl, rfl, rfl⟩ := hrel
    replace hgk := Lib.hid hgk
    by_cases hlt : k < N
    · have ck := hcs2.out k hlt
      have hst := Lib.hid (cnt_step (s := s) (k := k) (by rw [hs.out]; exact hlt))
      have hcl : (s.take k).countP (· == 0) ≤ k := Nat.le_trans List.countP_le_length (by simp; omega)
      obtain ⟨x, hxk⟩ : ∃ x, x = st s k := ⟨_, rfl⟩
      rw [← hxk] at ck hst
      generalize (s.take k).countP (· == 0) = cn at *
      replace hxk := Lib.hid hxk
      by_cases hx0 : x = 0
      · have e0 : ((x : Int) == 0) = true := by simp; omega
        rw [if_pos hx0] at hst
        replace hx0 := Lib.hid hx0
        go_wp2_with fail
        have hgk := hgk.out
        go_roundg (N - (k + 1))
        case measure => omega
        case rel => exact ⟨k + 1, by omega, rfl, by go_num, by rw [hst.out]; go_num, rfl⟩
      · have e0 : ((x : Int) == 0) = false := by simp; omega
        rw [if_neg hx0, Nat.add_zero] at hst
        replace hx0 := Lib.hid hx0
        go_wp2_with fail
        have hgk := hgk.out
        go_roundg (N - (k + 1))
        case measure => omega
        case rel => exact ⟨k + 1, by omega, rfl, by go_num, by rw [hst.out]; simp, rfl⟩
    · obtain rfl : N = k := by omega
      have hall : s.take N = s := List.take_of_length_le (by rw [hs.out]; exact Nat.le_refl _)
      rw [hall]
      have hcl : s.countP (· == 0) ≤ 100 := Nat.le_trans List.countP_le_length (by rw [hs.out]; exact hN100)
      obtain ⟨cn, hcn⟩ : ∃ cn, cn = s.countP (· == 0) := ⟨_, rfl⟩
      rw [← hcn] at hcl ⊢
      replace hall := Lib.hid hall
      by_cases h9 : 9 < cn
      · have e9 : decide ((9 : Int) < (cn : Int)) = true := decide_eq_true (by omega)
        replace hcn := Lib.hid hcn
        go_wp2_with fail
        go_ret3
        exact ⟨.inl ⟨by rw [← hcn.out]; exact h9, rfl⟩, hBw2.out⟩
      · have e9 : decide ((9 : Int) < (cn : Int)) = false := decide_eq_false (by omega)
        have hz9 : Hid (s.countP (· == 0) ≤ 9) := by show _ ≤ _; omega
        replace hcn := Lib.hid hcn
        go_upto_region 13 with fail
        have K1 : Hid (∀ W : World, Below w2.heap.size w2 W → Calls Try.prog 13 #[.slice (some ⟨b, o, none⟩) N c] W fun e w' => ∃ p' c', e = .returned (.slice p' N c') ∧ Own 3 W.heap.size w' p' N c' (asI s) ∧ Below W.heap.size W w' ∧ Below w2.heap.size w2 w') := fun W hW =>
          (clone_any (some ⟨b, o, none⟩) N c (asI s) W (by omega) (hx.out.below (hBw2.out.trans (hW.mono hBw2.out.size)))).mono fun e w' ⟨p', c', h1, h2, h3⟩ => ⟨p', c', h1, h2, h3, hW.trans (h3.mono hW.size)⟩
        have hmm := @run_makeMap Try.prog
        have r0 : Below w2.heap.size w2 w2.drew := (Below.refl _ w2).drew
        have r1 : Below w2.heap.size w2 (w2.alloc (.map #[] 0)).drew := ((Below.refl _ w2).alloc (Nat.le_refl _) _).drew
        have hsz1 : Hid ((w2.alloc (.map #[] 0)).drew.heap.size = w2.heap.size + 1) := by show _ = _; simp [World.drew]
        have k0 : (w2.alloc (.map #[] 0)).cell? ⟨w.heap.size, 0, none⟩ = some (.int .i64 (n : Int)) := (World.cell?_of_block (r1.block _ (lt_of_heap hb2.out))).trans d0
        have k1 : (w2.alloc (.map #[] 0)).cell? ⟨w.heap.size, 1, none⟩ = some (.int .i64 (n : Int)) := (World.cell?_of_block (r1.block _ (lt_of_heap hb2.out))).trans d1
        have k2 : (w2.alloc (.map #[] 0)).cell? ⟨w.heap.size, 2, none⟩ = some (.slice (some ⟨b, o, none⟩) N c) := (World.cell?_of_block (r1.block _ (lt_of_heap hb2.out))).trans d2
        have C1 := Lib.hid (K1.out _ r0)
        have C2 := Lib.hid (K1.out _ r1)
        rw [hsz1.out] at C2
        have kp : Hid (∀ w6 : World, Below w2.heap.size w2 w6 → w6.cell? ⟨w.heap.size, 0, none⟩ = some (.int .i64 (n : Int)) ∧ w6.cell? ⟨w.heap.size, 1, none⟩ = some (.int .i64 (n : Int))) := fun w6 h => ⟨(h.cell (p := ⟨w.heap.size, 0, none⟩) (lt_of_heap hb2.out)).trans d0, (h.cell (p := ⟨w.heap.size, 1, none⟩) (lt_of_heap hb2.out)).trans d1⟩
        clear K1
        replace r0 := Lib.hid r0; replace r1 := Lib.hid r1
        go_cut [11] (fun v X => MadeS w2 n N s v X)
        case first =>
          go_region_law (go_simp; go_at_call 13; first
            | ((with_reducible refine C1.out.mono ?_); rintro e w6 ⟨p6, c6, rfl, hO6, hb6, hbb⟩; obtain ⟨m0, m1⟩ := kp.out w6 hbb; obtain ⟨m2, m3⟩ := kp.out (w6.alloc (.map #[] 0)) (hbb.alloc hbb.size _); have hbox : Hid (MadeS w2 n N s (.pointer (some ⟨w6.heap.size + 1, 0, none⟩)) ((w6.alloc (.map #[] 0)).alloc (.cells #[.int .i64 (n : Int), .int .i64 (n : Int), .slice p6 N c6, .map (some w6.heap.size)] 40))) := madeA hN1 hO6 hbb; clear hO6 hb6 hbb)
            | ((with_reducible refine C2.out.mono ?_); rintro e w6 ⟨p6, c6, rfl, hO6, hb6, hbb⟩; obtain ⟨m0, m1⟩ := kp.out w6 hbb; have hbox : Hid (MadeS w2 n N s (.pointer (some ⟨w6.heap.size, 0, none⟩)) (w6.alloc (.cells #[.int .i64 (n : Int), .int .i64 (n : Int), .slice p6 N c6, .map (some w2.heap.size)] 40))) := madeB hN1 hO6 hb6; clear hO6 hb6 hbb))
          all_goals
            go_simp
            go_wp2_with fail
            go_meet
            exact hbox.out
        case rest =>
          clear C1 C2 kp r0 r1 hsz1 hmm
          obtain ⟨Sb, g, c1, mb, rfl, hS, hBX⟩ := hcut
          obtain ⟨W6, rfl⟩ : ∃ W6 : World, W6 = wc := ⟨_, rfl⟩
          have HJ := Lib.hid (joined_any n (some ⟨b, o, none⟩) c s W6 hn1 hn hbd.out.len (by rw [← hN.out]; exact hx.out.below (hBw2.out.trans (hBX.mono hBw2.out.size))) hbd.out.le)
          rw [← hN.out] at HJ
          have q0 : W6.cell? ⟨w.heap.size, 0, none⟩ = some (.int .i64 (n : Int)) := (hBX.cell (p := ⟨w.heap.size, 0, none⟩) (lt_of_heap hb2.out)).trans d0
          have q1 : W6.cell? ⟨w.heap.size, 1, none⟩ = some (.int .i64 (n : Int)) := (hBX.cell (p := ⟨w.heap.size, 1, none⟩) (lt_of_heap hb2.out)).trans d1
          have q2 : W6.cell? ⟨w.heap.size, 2, none⟩ = some (.slice (some ⟨b, o, none⟩) N c) := (hBX.cell (p := ⟨w.heap.size, 2, none⟩) (lt_of_heap hb2.out)).trans d2
          have hz6 : Hid (w.heap.size < W6.heap.size) := Nat.lt_of_lt_of_le (lt_of_heap hb2.out) hBX.size
          clear d0 d1 d2
          replace hS := Lib.hid hS; replace hBX := Lib.hid hBX
          go_upto_region 15 with (go_at_call 14; (with_reducible refine HJ.out.mono ?_); rintro e' w3 ⟨j, q', l', cc', rfl, hJ, _, _, hB3⟩; replace hJ := Lib.hid hJ; replace hB3 := Lib.hid hB3)
          have hBw3 := Lib.hid (hBw2.out.trans ((hBX.out.trans (hB3.out.mono hBX.out.size)).mono hBw2.out.size))
          have hS3 := hS.out.below hB3.out
          have q5 : w3.cell? ⟨w.heap.size, 2, none⟩ = some (.slice (some ⟨b, o, none⟩) N c) := (hB3.out.cell (p := ⟨w.heap.size, 2, none⟩) hz6.out).trans q2
          clear q0 q1 q2 HJ
          by_cases hj0 : j = 0
          · subst hj0
            have hgB : Hid (g < w3.heap.size) := (hS3.row.block _ rfl).2
            have hmB : Hid (mb < w3.heap.size) := hS3.map.lt
            have hsB : Hid (Sb < w3.heap.size) := lt_of_heap hS3.sb
            have hfb : Hid (∀ W, Tw g mb w3 W → Below w.heap.size w W) := fun W hT => Tw.bel hBw3.out hT (Nat.le_trans hBw2.out.size (hS3.row.block _ rfl).1) (Nat.le_trans hBw2.out.size hS3.bm) (Nat.le_refl _)
            have hso0 : Hid (So n N c1 Sb g mb w2.heap.size w3.heap.size s who w3 w3 0 none 0 0) := ⟨hS3, ⟨[], Own.nil _ _ _⟩, Tw.refl _ _ _, fun _ i hi => absurd hi (Nat.not_lt_zero i), fun h => absurd h (Nat.lt_irrefl 0), Nat.le_refl _⟩
            obtain ⟨B3, hB3e⟩ : ∃ B3, B3 = w3.heap.size := ⟨_, rfl⟩
            rw [← hB3e] at hgB hmB hsB hso0
            replace hB3e := Lib.hid hB3e
            replace hS3 := Lib.hid hS3
            go_wp2_with fail
            go_loopg [59, 14] N (fun gk iv ov W => ∃ (k l cc : Nat) (p : Option Addr), k ≤ N ∧ gk = N - k ∧ iv = .int .i64 (k : Int) ∧ ov = .slice p l cc ∧ Hid (So n N c1 Sb g mb w2.heap.size B3 s who w3 W k p l cc))
            case atStart => exact ⟨0, 0, 0, none, Nat.zero_le _, rfl, rfl, rfl, hso0⟩
            case round =>
              clear q5
              obtain ⟨k, l, cc, p, hk, hgk, rfl, rfl, hso⟩ := hrel
              obtain ⟨W7, rfl⟩ : ∃ W7 : World, W7 = wr := ⟨_, rfl⟩
              replace hgk := Lib.hid hgk
              have hlk := hso.out.le
              by_cases hlt : k < N
              · have ck := ((hfb.out _ hso.out.tw).cell (p := ⟨b, o + k, none⟩) hbl).trans (hcs.out k hlt)
                have hxk := hbd.out.le k
                have hkn : k < n * n := by rw [← hN.out]; exact hlt
                obtain ⟨x, hx'⟩ : ∃ x, x = st s k := ⟨_, rfl⟩
                rw [← hx'] at ck hxk
                by_cases hx0 : x = 0
                · have e0 : ((x : Int) == 0) = true := by simp; omega
                  have h0 : st s k = 0 := hx'.symm.trans hx0
                  have hop := opn_set (v := who) hbd.out.len hkn h0 (by omega)
                  have HC := Lib.hid (after_of hN.out (win_all hN.out hn hz9.out (opn n (s.set k who))) s k who W7 hbd.out (fl_self s) hkn h0 hop hwho hso.out.sm)
                  replace hx' := Lib.hid hx'; replace hx0 := Lib.hid hx0; replace hop := Lib.hid hop
                  go_upto_region 21 with fail
                  go_wp2_with fail
                  refine HC.out.mono ?_
                  rintro e' W8 ⟨v, rfl, hv, hS8, hT8⟩
                  have hso8 := hso.out.call hS8 hT8 hgB.out hmB.out
                  have hz8 : B3 ≤ W8.heap.size := by rw [hB3e.out]; exact hso8.tw.size
                  clear HC
                  by_cases hvp : v = who
                  · have evp : ((v : Int) == (who : Int)) = true := by rw [hvp]; simp
                    have hvl : Hid (Vl n s who who) := vl_win hbd.out hwho hJ.out hkn h0 hv hvp
                    obtain ⟨xs, hO8⟩ := hso8.own
                    have AP : Hid (∀ p7 c7 (w7 : World), Own 3 B3 w7 p7 (l + 1) c7 (xs ++ [(k : Int)]) → W8.grownBy w7 (p.map (·.block)) → So n N c1 Sb g mb w2.heap.size B3 s who w3 w7 (k + 1) p7 (l + 1) c7) := fun p7 c7 w7 h1 h2 => hso8.app hO8 hgB.out hmB.out hsB.out hB3e.out hvl.out h1 h2
                    replace h0 := Lib.hid h0; replace hvp := Lib.hid hvp; replace hv := Lib.hid hv; replace hS8 := Lib.hid hS8; replace hT8 := Lib.hid hT8; replace hso8 := Lib.hid hso8; replace hO8 := Lib.hid hO8; replace hso := Lib.hid hso
                    go_wp2_with (at_builtin; refine wp_append1 intG W8 rfl _ _ rfl B3 p l cc _ rfl hO8.out (k : Int) rfl (by omega) hz8 ?_; intro p7 c7 w7 hl7 hg7 hr7 hz7; have hso9 := AP.out p7 c7 w7 hl7 hg7; replace hl7 := Lib.hid hl7; replace hg7 := Lib.hid hg7; replace hso9 := Lib.hid hso9)
                    have hgk := hgk.out
                    go_roundg (N - (k + 1))
                    case measure => omega
                    case rel => exact ⟨k + 1, l + 1, c7, p7, by omega, rfl, by go_num, by go_num, hso9⟩
                  · have evp : ((v : Int) == (who : Int)) = false := by simp; omega
                    have hso9 := Lib.hid (hso8.skip fun _ => ⟨v, hv, hvp⟩)
                    replace h0 := Lib.hid h0; replace hvp := Lib.hid hvp; replace hv := Lib.hid hv; replace hS8 := Lib.hid hS8; replace hT8 := Lib.hid hT8; replace hso8 := Lib.hid hso8
                    go_wp2_with fail
                    have hgk := hgk.out
                    go_roundg (N - (k + 1))
                    case measure => omega
                    case rel => exact ⟨k + 1, l, cc, p, by omega, rfl, by go_num, rfl, hso9⟩
                · have e0 : ((x : Int) == 0) = false := by simp; omega
                  have hso9 := Lib.hid (hso.out.skip fun h0 => absurd (hx'.trans h0) hx0)
                  replace hx' := Lib.hid hx'; replace hx0 := Lib.hid hx0
                  go_wp2_with fail
                  have hgk := hgk.out
                  go_roundg (N - (k + 1))
                  case measure => omega
                  case rel => exact ⟨k + 1, l, cc, p, by omega, rfl, by go_num, rfl, hso9⟩
              · obtain rfl : N = k := by omega
                by_cases hl0 : 0 < l
                · have el : decide ((0 : Int) < (l : Int)) = true := decide_eq_true (by omega)
                  have hfin : Hid (Vl n s who who ∧ Below w.heap.size w W7) := ⟨hso.out.yes hl0, hfb.out _ hso.out.tw⟩
                  go_wp2_with fail
                  go_ret3
                  exact ⟨.inr ⟨hz9.out, who, p, l, cc, rfl, hfin.out.1, fun _ _ => hl0, by omega⟩, hfin.out.2⟩
                · obtain rfl : l = 0 := by omega
                  have e3 : ((3 - who : Nat) : Int) = 3 - (who : Int) := by omega
                  have hw3 : IntKind.i64.wrap (3 - (who : Int)) = 3 - (who : Int) := IntWalk.i64_in _ (by omega)
                  have hfin : Hid (Vl n s who (3 - who) ∧ Below w.heap.size w W7) := ⟨vl_lose hbd.out hwho hJ.out fun i hi h0 => hso.out.no rfl i (by rw [hN.out]; exact hi) h0, hfb.out _ hso.out.tw⟩
                  go_wp2_with fail
                  go_ret3
                  exact ⟨.inr ⟨hz9.out, 3 - who, none, 0, 0, by rw [e3]; rfl, hfin.out.1, fun _ h => absurd h (by omega), by omega⟩, hfin.out.2⟩
          · have hjp : decide ((0 : Int) < (j : Int)) = true := decide_eq_true (by omega)
            have hfin : Hid (Vl n s who j ∧ Below w.heap.size w w3) := ⟨vl_join hJ.out hj0, hBw3.out⟩
            go_wp2_with fail
            go_ret3
            exact ⟨.inr ⟨hz9.out, j, none, 0, 0, rfl, hfin.out.1, fun h0 => absurd (join_one hJ.out h0) hj0, by omega⟩, hfin.out.2⟩
end Go.Proofs.Ytcibkchfdiijfaa
