/- What stones.put computes: a stone put on a copy, what it takes, and what is wrong; conditions: a board of 1 to 10 by 1 to 10 places. -/
import Derived.Test.YtefjliblaeadfaaPPl
import Derived.Lib.LazyBuf
namespace Go.Proofs.Ytefjliblaeadfaa
open Go.RowKit

set_option maxHeartbeats 400000 in
theorem clone_any (p : Option Addr) (n c : Nat) (xs : List Int) (w : World) (hn : n < 1099511627776) (hx : IntsIn w p n xs) :
    Calls Try.prog 16 #[.slice p n c] w fun e w' => ∃ p' c', e = .returned (.slice p' n c') ∧ Own 3 w.heap.size w' p' n c' xs ∧ Below w.heap.size w w' := by
  have hl := hx.len
  have he := fun W : World => run_eql_slice_nil (P := Try.prog) W 22 3 p n c Try.underlying22
  cases p with
  | none =>
    have h0 : n = 0 := by
      rcases Nat.eq_zero_or_pos n with h | h
      · exact h
      · obtain ⟨b, o, e, _⟩ := hx.at h; cases e
    subst h0
    have hxs : Hid (xs = []) := List.eq_nil_of_length_eq_zero hl
    clear hx hl
    go_enter Try.func16, Try.ntmps16
    go_wp2
    go_ret
    exact ⟨none, 0, rfl, by rw [hxs.out]; exact Own.nil _ _ _, Below.refl _ _⟩
  | some ad =>
    have hin := Lib.hid (hx.alloc (.cells #[] 3))
    clear hx
    replace hl := Lib.hid hl
    go_enter Try.func16, Try.ntmps16
    go_wp2_with (at_builtin; refine wp_appendL intG _ rfl _ _ rfl w.heap.size _ 0 0 [] rfl (Own.empty 3 w) ad n c xs rfl hin.out (by omega) (by simp) ?_; intro p' c' w2 hO hg _ hz)
    have hB : Below w.heap.size w w2 := ((Below.refl _ w).alloc (Nat.le_refl _) _).grown hg (by simp) (fun x hx => by cases hx; exact Nat.le_refl _)
    replace hO := Lib.hid hO; replace hB := Lib.hid hB
    clear hg hz
    go_wp2
    go_ret
    exact ⟨p', c', by simp, by simpa using hO.out, hB.out⟩

set_option maxHeartbeats 1000000 in
theorem put_out (a b n c : Nat) (q : Option Addr) (who at_ : Int) (w : World) (hat : at_ < 0 ∨ (n : Int) ≤ at_) :
    Calls Try.prog 18 #[.agg #[.int .i64 (a : Int), .int .i64 (b : Int), .slice q n c], .int .i64 who, .int .i64 at_] w fun e w' => e = .returned (.tuple #[.agg #[.int .i64 0, .int .i64 0, .slice none 0 0], .int .i64 0, .int .i64 3]) ∧ Below w.heap.size w w' := by
  have hB := below2 w (.cells #[.int .i64 (a : Int), .int .i64 (b : Int), .slice q n c] 24) (.cells #[.int .i64 0, .int .i64 0, .slice none 0 0] 24)
  obtain ⟨e0, e1⟩ := heap2 w (.cells #[.int .i64 (a : Int), .int .i64 (b : Int), .slice q n c] 24) (.cells #[.int .i64 0, .int .i64 0, .slice none 0 0] 24)
  replace hB := Lib.hid hB; replace e0 := Lib.hid e0; replace e1 := Lib.hid e1
  by_cases h0 : at_ < 0
  · go_enter Try.func18, Try.ntmps18
    go_wp2_with fail
    exact bodyPost_ret (v := .tuple #[.agg #[.int .i64 0, .int .i64 0, .slice none 0 0], .int .i64 0, .int .i64 3]) (by simp [results, Try.results18, go_sem]) rfl ⟨rfl, hB.out⟩
  · have h1 : (n : Int) ≤ at_ := by omega
    go_enter Try.func18, Try.ntmps18
    go_wp2_with fail
    exact bodyPost_ret (v := .tuple #[.agg #[.int .i64 0, .int .i64 0, .slice none 0 0], .int .i64 0, .int .i64 3]) (by simp [results, Try.results18, go_sem]) rfl ⟨rfl, hB.out⟩

set_option maxHeartbeats 1000000 in
theorem put_twice (a b n c p : Nat) (q : Option Addr) (s : List Nat) (who : Int) (w : World) (hn : n ≤ 100) (hp : p < n) (hx : IntsIn w q n (asI s)) (h0 : st s p ≠ 0) :
    Calls Try.prog 18 #[.agg #[.int .i64 (a : Int), .int .i64 (b : Int), .slice q n c], .int .i64 who, .int .i64 (p : Int)] w fun e w' => e = .returned (.tuple #[.agg #[.int .i64 0, .int .i64 0, .slice none 0 0], .int .i64 0, .int .i64 6]) ∧ Below w.heap.size w w' := by
  have hB := below2 w (.cells #[.int .i64 (a : Int), .int .i64 (b : Int), .slice q n c] 24) (.cells #[.int .i64 0, .int .i64 0, .slice none 0 0] 24)
  obtain ⟨bq, oq, rfl, hbq, hcq⟩ := hx.at (by omega)
  have dp := hcq p hp
  rw [asI_at] at dp
  replace hB := Lib.hid hB; replace hx := Lib.hid hx
  clear hcq
  have h1 : (((st s p : Nat) : Int) != 0) = true := by simp; exact h0
  go_enter Try.func18, Try.ntmps18
  go_wp2_with fail
  exact bodyPost_ret (v := .tuple #[.agg #[.int .i64 0, .int .i64 0, .slice none 0 0], .int .i64 0, .int .i64 6]) (by simp [results, Try.results18, go_sem]) rfl ⟨rfl, hB.out⟩
/-- where put stands in memory. -/
structure PM (w W : World) (B g2 c2 a b n : Nat) (s : List Nat) : Prop where
  bx : W.heap[B]? = some (.cells #[.int .i64 (a : Int), .int .i64 (b : Int), .slice (some ⟨g2, 0, none⟩) n c2] 24 (0, 0))
  rs : W.heap[B + 1]? = some (.cells #[.int .i64 0, .int .i64 0, .slice none 0 0] 24 (0, 0))
  row : Own 3 (B + 2) W (some ⟨g2, 0, none⟩) n c2 (asI s)
  bl : Below B w W
section
variable {w W W' : World} {B g2 c2 a b n : Nat} {s : List Nat}
theorem PM.below (h : PM w W B g2 c2 a b n s) (hb : Below W.heap.size W W') (hB : B ≤ W.heap.size) : PM w W' B g2 c2 a b n s :=
  ⟨(hb.block _ (lt_of_heap h.bx)).trans h.bx, (hb.block _ (lt_of_heap h.rs)).trans h.rs, h.row.below hb (Nat.le_refl _), h.bl.trans (hb.mono hB)⟩
theorem PM.set (h : PM w W B g2 c2 a b n s) (t v : Nat) : PM w (W.setCell ⟨g2, t, none⟩ (.int .i64 (v : Int))) B g2 c2 a b n (s.set t v) := by
  have hg := (h.row.block _ rfl).1
  simp only at hg
  refine ⟨(Below.heap_setCell W _ _ _ (by simp; omega)).trans h.bx, (Below.heap_setCell W _ _ _ (by simp; omega)).trans h.rs, ?_, h.bl.setCell (p := ⟨g2, t, none⟩) (by simp; omega) _⟩
  rw [asI_set]; exact Own.set h.row t v
end

set_option maxHeartbeats 8000000 in
set_option maxRecDepth 100000 in
theorem put_main (a b n c p : Nat) (q : Option Addr) (s : List Nat) (who : Nat) (w : World) (ha1 : 1 ≤ a) (ha : a ≤ 10) (hnab : Hid (n = a * b)) (hn : n ≤ 100) (hp : p < n) (hx : IntsIn w q n (asI s)) (hs : ∀ j, st s j ≤ 2) (h0 : st s p = 0) (hw : who = 1 ∨ who = 2) :
    Calls Try.prog 18 #[.agg #[.int .i64 (a : Int), .int .i64 (b : Int), .slice q n c], .int .i64 (who : Int), .int .i64 (p : Int)] w fun e w' =>
      ((putS s a who p).2.2 = 8 ∧ e = .returned (.tuple #[.agg #[.int .i64 0, .int .i64 0, .slice none 0 0], .int .i64 0, .int .i64 8]) ∨
        (putS s a who p).2.2 = 0 ∧ ∃ g' c', e = .returned (.tuple #[.agg #[.int .i64 (a : Int), .int .i64 (b : Int), .slice (some ⟨g', 0, none⟩) n c'], .int .i64 ((putS s a who p).2.1 : Nat), .int .i64 0]) ∧ Own 3 w.heap.size w' (some ⟨g', 0, none⟩) n c' (asI (putS s a who p).1)) ∧ Below w.heap.size w w' := by
  have hsl : s.length = n := by have := hx.len; rwa [asI_len] at this
  obtain ⟨o, ho⟩ : ∃ o, o = 3 - who := ⟨_, rfl⟩
  have ho0 : o ≠ 0 := by omega
  have hoI : (3 : Int) - (who : Int) = (o : Int) := by omega
  have hs1l : (s.set p who).length = a * b := by rw [List.length_set, hsl, hnab.out]
  have hs1 : ∀ j, st (s.set p who) j ≤ 2 := fun j => by rw [st_set _ _ _ _ (by rw [hsl]; exact hp)]; split; omega; exact hs j
  have hPI : Hid (∀ k, k ≤ n → PutI a b o (s.set p who) k (putN a o (s.set p who) k) ∧ ∀ j, st (putN a o (s.set p who) k).1 j ≤ 2) := fun k hk => ⟨putN_I ho0 hs1l k (by rw [← hnab.out]; exact hk), putN_le ho0 hs1l hs1 k (by rw [← hnab.out]; exact hk)⟩
  have hpS : Hid (putS s a who p = if (grpS (putN a o (s.set p who) n).1 a p).2 = [] then ([], 0, 8) else ((putN a o (s.set p who) n).1, (putN a o (s.set p who) n).2, 0)) := by
    show _ = _
    unfold putS
    rw [if_neg (by simpa using h0), ← ho, hsl]
  have hpSu : Hid (∀ k, putN a o (s.set p who) (k + 1) = stepP a o (putN a o (s.set p who) k) k) := putN_succ a o _
  obtain ⟨s1, hs1e⟩ : ∃ s1, s1 = s.set p who := ⟨_, rfl⟩
  have hN0 : Hid (putN a o s1 0 = (s1, 0)) := rfl
  rw [← hs1e] at hPI hpS hpSu
  obtain ⟨F, hF⟩ : ∃ F, F = putN a o s1 := ⟨_, rfl⟩
  rw [← hF] at hPI hpS hpSu hN0
  generalize putS s a who p = R at *
  obtain ⟨bq, oq, rfl, hbq, hcq⟩ := hx.at (by omega)
  have dp := hcq p hp
  rw [asI_at, h0] at dp
  have hB2 := below2 w (.cells #[.int .i64 (a : Int), .int .i64 (b : Int), .slice (some ⟨bq, oq, none⟩) n c] 24) (.cells #[.int .i64 0, .int .i64 0, .slice none 0 0] 24)
  obtain ⟨e0, e1⟩ := heap2 w (.cells #[.int .i64 (a : Int), .int .i64 (b : Int), .slice (some ⟨bq, oq, none⟩) n c] 24) (.cells #[.int .i64 0, .int .i64 0, .slice none 0 0] 24)
  have hz2 : ((w.alloc (.cells #[.int .i64 (a : Int), .int .i64 (b : Int), .slice (some ⟨bq, oq, none⟩) n c] 24)).alloc (.cells #[.int .i64 0, .int .i64 0, .slice none 0 0] 24)).heap.size = w.heap.size + 2 := by simp
  have HC := Lib.hid (clone_any (some ⟨bq, oq, none⟩) n c (asI s) ((w.alloc (.cells #[.int .i64 (a : Int), .int .i64 (b : Int), .slice (some ⟨bq, oq, none⟩) n c] 24)).alloc (.cells #[.int .i64 0, .int .i64 0, .slice none 0 0] 24)) (by omega) (hx.below hB2))
  replace hB2 := Lib.hid hB2; replace hx := Lib.hid hx; replace e0 := Lib.hid e0; replace e1 := Lib.hid e1; replace hz2 := Lib.hid hz2; replace hs := Lib.hid hs; replace hs1 := Lib.hid hs1; replace hs1e := Lib.hid hs1e; replace hsl := Lib.hid hsl; replace hs1l := Lib.hid hs1l; replace h0 := Lib.hid h0; replace ho := Lib.hid ho; replace hF := Lib.hid hF
  clear hcq
  go_enter Try.func18, Try.ntmps18
  go_wp2_with fail
  refine HC.out.mono ?_
  rintro e w3 ⟨q3, c3, rfl, hO3, hB3⟩
  obtain ⟨g2, rfl, hg2, hg2l, _⟩ := hO3.where (by omega)
  have e03 := (hB3.block w.heap.size (by rw [hz2.out]; omega)).trans e0.out
  have e13 := (hB3.block (w.heap.size + 1) (by rw [hz2.out]; omega)).trans e1.out
  have hbl3 : Below w.heap.size w w3 := hB2.out.trans (hB3.mono hB2.out.size)
  rw [hz2.out] at hg2 hO3
  clear HC hB3 dp
  have k0 := wset e03 2 (.slice (some ⟨g2, 0, none⟩) n c3)
  have f0 := wfree e03 2
  have f1 := Own.free hO3 p
  have hM : Hid (PM w ((w3.setCell ⟨w.heap.size, 2, none⟩ (.slice (some ⟨g2, 0, none⟩) n c3)).setCell ⟨g2, p, none⟩ (.int .i64 (who : Int))) w.heap.size g2 c3 a b n s1) := by
    show PM _ _ _ _ _ _ _ _ _
    rw [hs1e.out]
    exact PM.set ⟨k0, (Below.heap_setCell w3 _ _ _ (by simp)).trans e13, hO3.keep fun x hx => Below.heap_setCell w3 _ _ _ (by cases hx; simp; omega), hbl3.setCell (p := ⟨w.heap.size, 2, none⟩) (Nat.le_refl _) _⟩ p who
  have d2 : w3.cell? ⟨w.heap.size, 2, none⟩ = some (.slice (some ⟨bq, oq, none⟩) n c) := wcell (cs := [_, _, _]) e03 2
  have dgp := Own.cell hO3 (i := p) hp
  have e03' := Lib.hid e03
  replace e13 := Lib.hid e13; replace hO3 := Lib.hid hO3; replace hbl3 := Lib.hid hbl3; replace k0 := Lib.hid k0
  clear e03
  go_wp2_with fail
  clear d2 f0 f1 dgp
  go_loopg [9, 49] n (fun gk v9 iv W' => ∃ k : Nat, k ≤ n ∧ gk = n - k ∧ iv = .int .i64 k ∧ v9 = .int .i64 ((F k).2 : Nat) ∧ PM w W' w.heap.size g2 c3 a b n (F k).1)
  case atStart => exact ⟨0, Nat.zero_le _, rfl, rfl, by rw [hN0.out]; rfl, by rw [hN0.out]; exact hM.out⟩
  case round =>
    obtain ⟨k, hk, hgk, rfl, rfl, hMk⟩ := hrel
    obtain ⟨W1, rfl⟩ : ∃ W1 : World, W1 = wr := ⟨_, rfl⟩
    replace hgk := Lib.hid hgk
    clear hM
    obtain ⟨hIk, hlek⟩ := hPI.out k hk
    have htk : (F k).2 ≤ n := by
      have h1 := hIk.cnt
      have h2 : s1.countP (· != 0) ≤ s1.length := List.countP_le_length
      have h3 : s1.length = n := by rw [hs1e.out, List.length_set]; exact hsl.out
      omega
    have hIl := hIk.len
    by_cases hlt : k < n
    · have dk := Own.cell hMk.row (i := k) hlt
      rw [asI_at] at dk
      have hsu := hpSu.out k
      rw [stepP] at hsu
      have hBW := hMk.bl.size
      have dx0 : W1.cell? ⟨w.heap.size, 0, none⟩ = some (.int .i64 (a : Int)) := wcell (cs := [_, _, _]) hMk.bx 0
      have dx1 : W1.cell? ⟨w.heap.size, 1, none⟩ = some (.int .i64 (b : Int)) := wcell (cs := [_, _, _]) hMk.bx 1
      have dx2 : W1.cell? ⟨w.heap.size, 2, none⟩ = some (.slice (some ⟨g2, 0, none⟩) n c3) := wcell (cs := [_, _, _]) hMk.bx 2
      by_cases h1 : st (F k).1 k = o
      · rw [if_pos h1] at hsu
        have HG := Lib.hid (group_any a b n c3 k (some ⟨g2, 0, none⟩) (F k).1 W1 ha1 ha hnab hn hlt hMk.row.in hlek)
        have hglt := Lib.hid (grp_lt (a := a) (b := b) hIl (by rw [hIl, ← hnab.out]; exact hlt))
        rw [h1] at dk
        have z1 : ((o : Int) != (o : Int)) = false := by simp
        have z2 : ((o : Int) == 0) = false := by simp; exact ho0
        have z3 : ¬ (o : Int) = 0 := by omega
        have hl1n : Hid ((grpS (F k).1 a k).1.length ≤ n) := by
          show _ ≤ _
          have hsp := spread_ok (so := fun v => v == st (F k).1 k) hIl (show k < (F k).1.length by rw [hIl, ← hnab.out]; exact hlt)
          have := hsp.len
          rw [hIl, ← hnab.out] at this
          have e : (grpS (F k).1 a k).1 = (spread (fun v => v == st (F k).1 k) (F k).1 a k).inn := rfl
          rw [e]; omega
        generalize hG : grpS (F k).1 a k = G at *
        replace hG := Lib.hid hG; replace h1 := Lib.hid h1; replace hMk := Lib.hid hMk; replace hIk := Lib.hid hIk; replace hlek := Lib.hid hlek; replace hIl := Lib.hid hIl; replace hsu := Lib.hid hsu
        go_wp2_with fail
        refine HG.out.mono ?_
        rintro e w5 ⟨l1, l2, q1, c1, q2, c2, rfl, hp1, hp2, hi1, hi2, hB5, hq1⟩
        have hM5 := hMk.out.below hB5 hBW
        have hl1 : l1.length ≤ n := by rw [hp1.length_eq]; exact hl1n.out
        have hq1g : Hid (∀ y, q1 = some y → y.block ≠ g2) := fun y hy => by have := hq1 y hy; have := (hMk.out.row.block _ rfl).2; simp at this; omega
        have hl1m : Hid (∀ j, j < l1.length → st l1 j < n) := fun j hj => by
          have h1 : st l1 j ∈ l1 := by unfold st; rw [List.getElem?_eq_getElem hj]; exact List.getElem_mem hj
          rw [hnab.out, ← hIl.out]
          exact hglt.out _ (hp1.mem_iff.1 h1)
        replace hM5 := Lib.hid hM5; replace hp1 := Lib.hid hp1; replace hp2 := Lib.hid hp2; replace hi1 := Lib.hid hi1; replace hi2 := Lib.hid hi2
        clear HG hB5 hq1 dk dx0 dx1 dx2
        by_cases h2 : l2 = []
        · have hG2 : G.2 = [] := by have := hp2.out.length_eq; rw [h2] at this; exact List.eq_nil_of_length_eq_zero this.symm
          have hs2 := hsu.out
          rw [if_pos hG2] at hs2
          replace hs2 := Lib.hid hs2; replace hG2 := Lib.hid hG2
          subst h2
          go_wp2_with fail
          go_loopg [81] l1.length (fun gk jv W' => ∃ j : Nat, j ≤ l1.length ∧ gk = l1.length - j ∧ jv = .int .i64 j ∧ PM w W' w.heap.size g2 c3 a b n (clearL (F k).1 (l1.take j)) ∧ IntsIn W' q1 l1.length (asI l1))
          case atStart => exact ⟨0, Nat.zero_le _, rfl, rfl, hM5.out, hi1.out⟩
          case round =>
            obtain ⟨j, hj, hgk2, rfl, hM6, hi6⟩ := hrel
            obtain ⟨W6, rfl⟩ : ∃ W6 : World, W6 = wr := ⟨_, rfl⟩
            replace hgk2 := Lib.hid hgk2
            clear hM5 hi1
            by_cases hjl : j < l1.length
            · obtain ⟨b1, o1, rfl, _, hc1⟩ := hi6.at (by omega)
              have d1 := hc1 j hjl
              rw [asI_at] at d1
              have htn := hl1m.out j hjl
              have htk2 : Hid (l1.take (j + 1) = l1.take j ++ [st l1 j]) := by
                show _ = _
                rw [List.take_succ_eq_append_getElem hjl]; unfold st; rw [List.getElem?_eq_getElem hjl]; rfl
              generalize st l1 j = t at *
              have dx2 : W6.cell? ⟨w.heap.size, 2, none⟩ = some (.slice (some ⟨g2, 0, none⟩) n c3) := wcell (cs := [_, _, _]) hM6.bx 2
              have dt := Own.cell hM6.row (i := t) htn
              have ft := Own.free hM6.row t
              have hM7 := Lib.hid (PM.set hM6 t 0)
              have hi7 : Hid (IntsIn (W6.setCell ⟨g2, t, none⟩ (.int .i64 0)) (some ⟨b1, o1, none⟩) l1.length (asI l1)) := hi6.keep (by simp [World.setCell]) fun b' o' e => Below.heap_setCell W6 _ _ _ (hq1g.out _ e)
              clear hc1 hM6 hi6
              go_wp2_with fail
              have hgk2 := hgk2.out
              go_roundg (l1.length - (j + 1))
              case measure => omega
              case rel => exact ⟨j + 1, hjl, rfl, by go_num, by rw [htk2.out, clearL_snoc]; exact hM7.out, hi7.out⟩
            · have hje : j = l1.length := by omega
              subst hje
              rw [List.take_length] at hM6
              have hc : Hid (F (k + 1) = (clearL (F k).1 l1, (F k).2 + l1.length)) := by
                show _ = _
                rw [hs2.out, clearL_perm hp1.out (fun t ht => hglt.out t (hp1.out.mem_iff.1 ht)), hp1.out.length_eq]
              have hM7 := Lib.hid hM6
              clear hM6 hi6
              go_wp2_with fail
              have hgk := hgk.out
              go_roundg (n - (k + 1))
              case measure => omega
              case rel => exact ⟨k + 1, hlt, rfl, by go_num, by rw [hc.out]; go_num, by rw [hc.out]; exact hM7.out⟩
        · have hG2 : ¬ G.2 = [] := by intro e; apply h2; have := hp2.out.length_eq; rw [e] at this; exact List.eq_nil_of_length_eq_zero this
          have hs2 := hsu.out
          rw [if_neg hG2] at hs2
          have hl2 : ¬ (l2.length : Int) = 0 := by intro e; apply h2; exact List.eq_nil_of_length_eq_zero (by omega)
          have hl2b : ((l2.length : Int) == 0) = false := by simpa using hl2
          have hs3 : Hid (F (k + 1) = F k) := hs2
          replace h2 := Lib.hid h2; replace hG2 := Lib.hid hG2
          clear hs2
          go_wp2_with fail
          have hgk := hgk.out
          go_roundg (n - (k + 1))
          case measure => omega
          case rel => exact ⟨k + 1, hlt, rfl, by go_num, by rw [hs3.out], by rw [hs3.out]; exact hM5.out⟩
      · rw [if_neg h1] at hsu
        have z1 : (((st (F k).1 k : Nat) : Int) != (o : Int)) = true := by simp; omega
        have hs3 : Hid (F (k + 1) = F k) := hsu
        replace h1 := Lib.hid h1; replace hMk := Lib.hid hMk; replace hIk := Lib.hid hIk; replace hlek := Lib.hid hlek; replace hIl := Lib.hid hIl
        clear hsu
        go_wp2_with fail
        have hgk := hgk.out
        go_roundg (n - (k + 1))
        case measure => omega
        case rel => exact ⟨k + 1, hlt, rfl, by go_num, by rw [hs3.out], by rw [hs3.out]; exact hMk.out⟩
    · have hke : k = n := by omega
      subst hke
      have HG := Lib.hid (group_any a b k c3 p (some ⟨g2, 0, none⟩) (F k).1 W1 ha1 ha hnab hn hp hMk.row.in hlek)
      have hBW := hMk.bl.size
      have dx0 : W1.cell? ⟨w.heap.size, 0, none⟩ = some (.int .i64 (a : Int)) := wcell (cs := [_, _, _]) hMk.bx 0
      have dx1 : W1.cell? ⟨w.heap.size, 1, none⟩ = some (.int .i64 (b : Int)) := wcell (cs := [_, _, _]) hMk.bx 1
      have dx2 : W1.cell? ⟨w.heap.size, 2, none⟩ = some (.slice (some ⟨g2, 0, none⟩) k c3) := wcell (cs := [_, _, _]) hMk.bx 2
      have hkk : ¬ (k : Int) < (k : Int) := by omega
      replace hMk := Lib.hid hMk; replace hIk := Lib.hid hIk; replace hlek := Lib.hid hlek; replace hIl := Lib.hid hIl
      go_wp2_with fail
      refine HG.out.mono ?_
      rintro e w5 ⟨l1, l2, q1, c1, q2, c2, rfl, hp1, hp2, hi1, hi2, hB5, hq1⟩
      have hM5 := hMk.out.below hB5 hBW
      have r0 : w5.cell? ⟨w.heap.size + 1, 0, none⟩ = some (.int .i64 0) := wcell (cs := [_, _, _]) hM5.rs 0
      have r1 : w5.cell? ⟨w.heap.size + 1, 1, none⟩ = some (.int .i64 0) := wcell (cs := [_, _, _]) hM5.rs 1
      have r2 : w5.cell? ⟨w.heap.size + 1, 2, none⟩ = some (.slice none 0 0) := wcell (cs := [_, _, _]) hM5.rs 2
      have rf0 := wfree hM5.rs 0
      have rf1 := wfree hM5.rs 1
      have rf2 := wfree hM5.rs 2
      have y0 : w5.cell? ⟨w.heap.size, 0, none⟩ = some (.int .i64 (a : Int)) := wcell (cs := [_, _, _]) hM5.bx 0
      have y1 : w5.cell? ⟨w.heap.size, 1, none⟩ = some (.int .i64 (b : Int)) := wcell (cs := [_, _, _]) hM5.bx 1
      have y2 : w5.cell? ⟨w.heap.size, 2, none⟩ = some (.slice (some ⟨g2, 0, none⟩) k c3) := wcell (cs := [_, _, _]) hM5.bx 2
      clear HG hB5 hq1 hi1 hi2 dx0 dx1 dx2 hp1
      by_cases h2 : l2 = []
      · have hG2 : (grpS (F k).1 a p).2 = [] := by have := hp2.length_eq; rw [h2] at this; exact List.eq_nil_of_length_eq_zero this.symm
        have hR := hpS.out
        rw [if_pos hG2] at hR
        subst h2
        have hbl := Lib.hid hM5.bl
        have t0 := wset (wset (wset hM5.rs 0 (.int .i64 0)) 1 (.int .i64 0)) 2 (.slice none 0 0)
        replace t0 := Lib.hid t0
        replace hM5 := Lib.hid hM5; replace hG2 := Lib.hid hG2; replace hR := Lib.hid hR; replace hp2 := Lib.hid hp2
        go_wp2_with fail
        have u0 := Lib.hid (wcell (cs := [.int .i64 0, .int .i64 0, .slice none 0 0]) t0.out 0)
        have u1 := Lib.hid (wcell (cs := [.int .i64 0, .int .i64 0, .slice none 0 0]) t0.out 1)
        have u2 := Lib.hid (wcell (cs := [.int .i64 0, .int .i64 0, .slice none 0 0]) t0.out 2)
        refine bodyPost_ret (v := .tuple #[.agg #[.int .i64 0, .int .i64 0, .slice none 0 0], .int .i64 0, .int .i64 8]) (by simp [results, Try.results18, go_sem, u0.out, u1.out, u2.out]) rfl ⟨.inl ⟨by rw [hR.out], rfl⟩, ?_⟩
        exact ((hbl.out.setCell (p := ⟨w.heap.size + 1, 0, none⟩) (by simp) _).setCell (p := ⟨w.heap.size + 1, 1, none⟩) (by simp) _).setCell (p := ⟨w.heap.size + 1, 2, none⟩) (by simp) _
      · have hG2 : ¬ (grpS (F k).1 a p).2 = [] := by intro e; apply h2; have := hp2.length_eq; rw [e] at this; exact List.eq_nil_of_length_eq_zero this
        have hR := hpS.out
        rw [if_neg hG2] at hR
        have hl2 : ¬ (l2.length : Int) = 0 := by intro e; apply h2; exact List.eq_nil_of_length_eq_zero (by omega)
        have hl2b : ((l2.length : Int) == 0) = false := by simpa using hl2
        have hbl := Lib.hid hM5.bl
        have t0 := wset (wset (wset hM5.rs 0 (.int .i64 (a : Int))) 1 (.int .i64 (b : Int))) 2 (.slice (some ⟨g2, 0, none⟩) k c3)
        replace t0 := Lib.hid t0
        have hrow := Lib.hid hM5.row
        replace hM5 := Lib.hid hM5; replace hG2 := Lib.hid hG2; replace hR := Lib.hid hR; replace hp2 := Lib.hid hp2; replace h2 := Lib.hid h2
        go_wp2_with fail
        have u0 := Lib.hid (wcell (cs := [.int .i64 (a : Int), .int .i64 (b : Int), .slice (some ⟨g2, 0, none⟩) k c3]) t0.out 0)
        have u1 := Lib.hid (wcell (cs := [.int .i64 (a : Int), .int .i64 (b : Int), .slice (some ⟨g2, 0, none⟩) k c3]) t0.out 1)
        have u2 := Lib.hid (wcell (cs := [.int .i64 (a : Int), .int .i64 (b : Int), .slice (some ⟨g2, 0, none⟩) k c3]) t0.out 2)
        refine bodyPost_ret (v := .tuple #[.agg #[.int .i64 (a : Int), .int .i64 (b : Int), .slice (some ⟨g2, 0, none⟩) k c3], .int .i64 ((F k).2 : Nat), .int .i64 0]) (by simp [results, Try.results18, go_sem, u0.out, u1.out, u2.out]) rfl ⟨.inr ⟨by rw [hR.out], g2, c3, by rw [hR.out], ?_⟩, ?_⟩
        · rw [hR.out]
          refine Own.mono (B' := w.heap.size) (hrow.out.keep fun x hx => ?_) (by omega)
          have hg2' := (hrow.out.block x hx).1
          exact (Below.heap_setCell _ _ _ _ (by simp; omega)).trans ((Below.heap_setCell _ _ _ _ (by simp; omega)).trans (Below.heap_setCell _ _ _ _ (by simp; omega)))
        · exact ((hbl.out.setCell (p := ⟨w.heap.size + 1, 0, none⟩) (by simp) _).setCell (p := ⟨w.heap.size + 1, 1, none⟩) (by simp) _).setCell (p := ⟨w.heap.size + 1, 2, none⟩) (by simp) _
end Go.Proofs.Ytefjliblaeadfaa
