/- What pegs.Solve computes, where the board may be and the last place is one of its own; no other conditions. -/
import Derived.Test.YtapoimadiiheaaaRn20
import Derived.Test.YtapoimadiiheaaaDn20
import Derived.Test.YtapoimadiiheaaaFew
namespace Go.Proofs.Ytapoimadiiheaaa
open Go.RowKit Go.Maps

theorem sol_run {P : Pm} {X : World} {s : List Nat} {b7 b3 b6 b8 : Nat} {last : Int} (ok : PmOk P fun k => k = b7 ∨ k = b3 ∨ k = b6 ∨ k = b8) (hbx : b8 ≠ b7 ∧ b8 ≠ b3 ∧ b8 ≠ b6) (hrs : RS0 P X s []) (henv : EnvA P b7 b3 b6 b8 (cnt1 s) last X []) (hbd : Bd P.n s) (hc7 : cnt1 s ≤ 7) (hl1 : -1 ≤ last) (hl2 : last < P.n) :
    Calls Try.prog 17 #[.pointer (some ⟨P.sb, 0, none⟩), .slice none 0 0, .func (.func 20) #[] #[.pointer (some ⟨b7, 0, none⟩), .pointer (some ⟨b3, 0, none⟩), .pointer (some ⟨b6, 0, none⟩), .pointer (some ⟨b8, 0, none⟩)]] X fun e X' =>
      e = .returned (.bool (runS (lastD (cnt1 s) last) P.J (cnt1 s + 1) s [] ([], [])).2) ∧ ((runS (lastD (cnt1 s) last) P.J (cnt1 s + 1) s [] ([], [])).2 = true → EnvB P b8 X' (runS (lastD (cnt1 s) last) P.J (cnt1 s + 1) s [] ([], [])).1.2) ∧ Kept (FrS P (fun k => k = b7 ∨ k = b3 ∨ k = b6 ∨ k = b8) none) X X' := by
  have hb8 : b8 < P.R := ok.ebR b8 (.inr (.inr (.inr rfl)))
  have h := run20 P (fun k => k = b7 ∨ k = b3 ∨ k = b6 ∨ k = b8) (EnvA P b7 b3 b6 b8 (cnt1 s) last) (EnvB P b8) (lastD (cnt1 s) last) s b7 b3 b6 b8 (cnt1 s) ok
    (fun W W' a h1 _ h3 => ⟨h1.nil, (h3 b7 (.inl rfl)).trans h1.h7, (h3 b3 (.inr (.inl rfl))).trans h1.h3, (h3 b6 (.inr (.inr (.inl rfl)))).trans h1.h6, (h3 b8 (.inr (.inr (.inr rfl)))).trans h1.h8⟩)
    (fun W W' a ⟨p, n, c, h1, h2⟩ hb => ⟨p, n, c, (Below.block hb _ (lt_of_heap h1)).trans h1, OwnC.below h2 hb (Nat.le_refl _)⟩)
    (fun W W' a ⟨p, n, c, h1, h2⟩ hR hg => ⟨p, n, c, (hg.block _ (lt_of_heap h1) (by
      intro e; injection e with e
      have := (ok.ebn b8 (.inr (.inr (.inr rfl)))).2.1
      exact this e)).trans h1, OwnC.keep h2 fun x hx => by
        have hb := OwnC.block h2 x hx
        exact hg.block _ hb.2 (by intro e; injection e with e; have := ok.gR; omega)⟩)
    (fun W t ks acc row p nr cr h1 h2 h3 _ _ h6 => done20 P b7 b3 b6 b8 (cnt1 s) last ok hbx (by omega) hl1 hl2 W t ks acc row p nr cr h1 h2 h3 (by have := h3.len; omega)) (by omega)
    (cnt1 s + 1) s [] [] [] none 0 0 X (by omega) hbd hrs henv (OwnC.nil _ _ _ _) .refl (by simp) (by have := Bc_7 hc7; simp; omega)
  exact h.mono fun e X' ⟨k1, k2⟩ => ⟨k1, k2.yes, k2.kept⟩
theorem NewP.ptr {w X : World} {a b n : Nat} {s : List Nat} {v : Value} (h : NewP w X a b n s v) : ∃ sb, v = .pointer (some ⟨sb, 0, none⟩) := by
  obtain ⟨sb, _, _, _, _, _, _, _, e, _⟩ := h
  exact ⟨sb, e⟩
set_option maxHeartbeats 2000000 in
theorem sol_great (a b n c : Nat) (q : Option Addr) (s : List Nat) (last : Int) (w : World) (ha1 : 1 ≤ a) (ha : a ≤ 10) (hb1 : 1 ≤ b) (hb : b ≤ 10) (hn : n = a * b) (hx : IntsIn w q n (asI s)) (hs2 : ∀ j, st s j ≤ 2) (hl1 : -1 ≤ last) (hl2 : last < n) (hlw : 0 ≤ last → st s last.toNat ≠ 2) (hg : grtS s = true) :
    Calls Try.prog 6 #[.agg #[.int .i64 (a : Int), .int .i64 (b : Int), .slice q n c], .int .i64 last] w fun e w' => e = .returned (.tuple #[.slice none 0 0, .int .i64 2]) ∧ Below w.heap.size w w' := by
  have hn100 : n ≤ 100 := by rw [hn]; exact Nat.mul_le_mul ha hb
  have hsl : s.length = n := by have := hx.len; rwa [asI_len] at this
  have hm : mayG a b (asI s) = true := mayG_of ha1 ha hb1 hb (by rw [hsl, hn]) hs2
  have hn0 : 0 < n := by rw [hn]; exact Nat.mul_pos ha1 hb1
  obtain ⟨f0, f1⟩ := heap2 w (.cells #[.int .i64 (a : Int), .int .i64 (b : Int), .slice q n c] 24) (.cells #[.int .i64 last] 3)
  have hB0 := below2 w (.cells #[.int .i64 (a : Int), .int .i64 (b : Int), .slice q n c] 24) (.cells #[.int .i64 last] 3)
  have hs0 : ((w.alloc (.cells #[.int .i64 (a : Int), .int .i64 (b : Int), .slice q n c] 24)).alloc (.cells #[.int .i64 last] 3)).heap.size = w.heap.size + 2 := by simp
  have hw0 := Lib.hid hx
  clear hx
  replace hn := Lib.hid hn; replace hB0 := Lib.hid hB0
  go_enter Try.func6, Try.ntmps6
  go_upto_region 1 with fail
  generalize (w.alloc (.cells #[.int .i64 (a : Int), .int .i64 (b : Int), .slice q n c] 24)).alloc (.cells #[.int .i64 last] 3) = W0 at *
  have HX : Hid (∀ X : World, Bw W0 X → IntsIn X q n (asI s)) := fun X hX => hw0.out.below (hB0.out.trans (Below.mono hX (by omega)))
  have HM := may_any q n c a b (asI s) W0 (by omega) (by omega) (by omega) (by omega) (by omega) (HX.out W0 (Bw.refl W0))
  rw [hm] at HM
  have HG : Hid (∀ X : World, Bw W0 X → Calls Try.prog 15 #[.agg #[.int .i64 (a : Int), .int .i64 (b : Int), .slice q n c]] X fun e w' => e = .returned (.bool (grtS s)) ∧ Bw X w') := fun X hX => great_any a b n c q s X (by omega) (HX.out X hX)
  rw [hg] at HG
  replace HM := Lib.hid HM
  have d0 : W0.cell? ⟨w.heap.size, 0, none⟩ = some (.int .i64 (a : Int)) := wcell (cs := [_, _, _]) f0 0
  have d1 : W0.cell? ⟨w.heap.size, 1, none⟩ = some (.int .i64 (b : Int)) := wcell (cs := [_, _, _]) f0 1
  have d2 : W0.cell? ⟨w.heap.size, 2, none⟩ = some (.slice q n c) := wcell (cs := [_, _, _]) f0 2
  go_upto_region 3 with (go_at_call 11; refine HM.out.mono ?_; rintro e w1 ⟨rfl, hB1⟩)
  have hb1' : Hid (Bw W0 w1) := hB1
  have hlt : w.heap.size < W0.heap.size := by omega
  have hlt1 : w.heap.size + 1 < W0.heap.size := by omega
  have e1 := (Below.block hb1'.out _ hlt).trans f0
  have e1' := (Below.block hb1'.out _ hlt1).trans f1
  have HG1 := Lib.hid (HG.out w1 hb1'.out)
  clear d0 d1 d2
  have d0 : w1.cell? ⟨w.heap.size, 0, none⟩ = some (.int .i64 (a : Int)) := wcell (cs := [_, _, _]) e1 0
  have d1 : w1.cell? ⟨w.heap.size, 1, none⟩ = some (.int .i64 (b : Int)) := wcell (cs := [_, _, _]) e1 1
  have d2 : w1.cell? ⟨w.heap.size, 2, none⟩ = some (.slice q n c) := wcell (cs := [_, _, _]) e1 2
  have d3 : w1.cell? ⟨w.heap.size + 1, 0, none⟩ = some (.int .i64 last) := wcell (cs := [_]) e1' 0
  have hxq := HX.out w1 hb1'.out
  replace hB1 := Lib.hid hB1; replace f0 := Lib.hid f0; replace f1 := Lib.hid f1; replace e1 := Lib.hid e1; replace e1' := Lib.hid e1'; replace hs0 := Lib.hid hs0
  clear HM HG
  go_cut [14] (fun v X => v = .bool false ∧ w1 = X)
  case first =>
    obtain ⟨bq, oq, rfl, _, hcq⟩ := hxq.at hn0
    rcases (show last = -1 ∨ 0 ≤ last by omega) with rfl | hl0
    · have h1 : ¬ (n : Int) ≤ -1 := by omega
      clear hcq
      go_wp2_with fail
      go_meet
      exact ⟨rfl, rfl⟩
    · obtain ⟨lt, rfl⟩ : ∃ lt : Nat, last = lt := ⟨last.toNat, by omega⟩
      have k0 := hcq lt (by omega)
      rw [asI_at] at k0
      have hv2 : ¬ st s lt = 2 := by have := hlw (by omega); simpa using this
      have hvb : (((st s lt : Nat) : Int) == 2) = false := by simp; omega
      have h1 : ¬ (n : Int) ≤ (lt : Int) := by omega
      have h2 : ¬ (lt : Int) < -1 := by omega
      have h3 : (lt : Int) < (n : Int) := hl2
      generalize st s lt = v at *
      replace hv2 := Lib.hid hv2
      clear hcq hlw
      go_wp2_with fail
      go_meet
      exact ⟨rfl, rfl⟩
  case rest =>
    obtain ⟨rfl, rfl⟩ := hcut
    go_wp2_with (go_at_call 15; refine HG1.out.mono ?_; rintro e w2 ⟨rfl, hB2⟩; replace hB2 := Lib.hid hB2)
    refine bodyPost_ret (v := .tuple #[.slice none 0 0, .int .i64 2]) (by simp [results, Try.results6, go_sem]) rfl ⟨rfl, hB0.out.trans (Below.mono (Bw.trans hb1'.out hB2.out) (by have := hs0.out; omega))⟩
/-- what Solve hands back where it may look. -/
def SolP (w w' : World) (a b : Nat) (s : List Nat) (last : Int) (e : Ending) : Prop := ∃ J, J.Perm (allJ a b s (a * b)) ∧ (∀ j, j ∈ J ↔ inJ a b s j) ∧
  ((runS (lastD (cnt1 s) last) J (cnt1 s + 1) s [] ([], [])).2 = false ∧ e = .returned (.tuple #[.slice none 0 0, .int .i64 10]) ∨
   (runS (lastD (cnt1 s) last) J (cnt1 s + 1) s [] ([], [])).2 = true ∧ ∃ p m cm, e = .returned (.tuple #[.slice p m cm, .int .i64 0]) ∧ OwnM w.heap.size w' p m cm (runS (lastD (cnt1 s) last) J (cnt1 s + 1) s [] ([], [])).1.2)
set_option maxHeartbeats 4000000 in
theorem sol_yes (a b n c : Nat) (q : Option Addr) (s : List Nat) (last : Int) (w : World) (ha1 : 1 ≤ a) (ha : a ≤ 10) (hb1 : 1 ≤ b) (hb : b ≤ 10) (hn : n = a * b) (hx : IntsIn w q n (asI s)) (hs2 : ∀ j, st s j ≤ 2) (hl1 : -1 ≤ last) (hl2 : last < n) (hlw : 0 ≤ last → st s last.toNat ≠ 2) (hg : grtS s = false) :
    Calls Try.prog 6 #[.agg #[.int .i64 (a : Int), .int .i64 (b : Int), .slice q n c], .int .i64 last] w fun e w' => SolP w w' a b s last e ∧ Below w.heap.size w w' := by
  have hc7 : cnt1 s ≤ 7 := by
    have hg' := hg
    unfold grtS at hg'
    rw [Bool.or_eq_false_iff] at hg'
    have := of_decide_eq_false hg'.1
    unfold cnt1; omega
  have hn100 : n ≤ 100 := by rw [hn]; exact Nat.mul_le_mul ha hb
  have hsl : s.length = n := by have := hx.len; rwa [asI_len] at this
  have hm : mayG a b (asI s) = true := mayG_of ha1 ha hb1 hb (by rw [hsl, hn]) hs2
  have hn0 : 0 < n := by rw [hn]; exact Nat.mul_pos ha1 hb1
  obtain ⟨f0, f1⟩ := heap2 w (.cells #[.int .i64 (a : Int), .int .i64 (b : Int), .slice q n c] 24) (.cells #[.int .i64 last] 3)
  have hB0 := below2 w (.cells #[.int .i64 (a : Int), .int .i64 (b : Int), .slice q n c] 24) (.cells #[.int .i64 last] 3)
  have hs0 : ((w.alloc (.cells #[.int .i64 (a : Int), .int .i64 (b : Int), .slice q n c] 24)).alloc (.cells #[.int .i64 last] 3)).heap.size = w.heap.size + 2 := by simp
  have hw0 := Lib.hid hx
  clear hx
  replace hn := Lib.hid hn; replace hB0 := Lib.hid hB0
  go_enter Try.func6, Try.ntmps6
  go_upto_region 1 with fail
  generalize (w.alloc (.cells #[.int .i64 (a : Int), .int .i64 (b : Int), .slice q n c] 24)).alloc (.cells #[.int .i64 last] 3) = W0 at *
  have HX : Hid (∀ X : World, Bw W0 X → IntsIn X q n (asI s)) := fun X hX => hw0.out.below (hB0.out.trans (Below.mono hX (by omega)))
  have HM := may_any q n c a b (asI s) W0 (by omega) (by omega) (by omega) (by omega) (by omega) (HX.out W0 (Bw.refl W0))
  rw [hm] at HM
  have HG : Hid (∀ X : World, Bw W0 X → Calls Try.prog 15 #[.agg #[.int .i64 (a : Int), .int .i64 (b : Int), .slice q n c]] X fun e w' => e = .returned (.bool (grtS s)) ∧ Bw X w') := fun X hX => great_any a b n c q s X (by omega) (HX.out X hX)
  rw [hg] at HG
  replace HM := Lib.hid HM
  have d0 : W0.cell? ⟨w.heap.size, 0, none⟩ = some (.int .i64 (a : Int)) := wcell (cs := [_, _, _]) f0 0
  have d1 : W0.cell? ⟨w.heap.size, 1, none⟩ = some (.int .i64 (b : Int)) := wcell (cs := [_, _, _]) f0 1
  have d2 : W0.cell? ⟨w.heap.size, 2, none⟩ = some (.slice q n c) := wcell (cs := [_, _, _]) f0 2
  go_upto_region 3 with (go_at_call 11; refine HM.out.mono ?_; rintro e w1 ⟨rfl, hB1⟩)
  have hb1' : Hid (Bw W0 w1) := hB1
  have hlt : w.heap.size < W0.heap.size := by omega
  have hlt1 : w.heap.size + 1 < W0.heap.size := by omega
  have e1 := (Below.block hb1'.out _ hlt).trans f0
  have e1' := (Below.block hb1'.out _ hlt1).trans f1
  have HG1 := Lib.hid (HG.out w1 hb1'.out)
  clear d0 d1 d2
  have d0 : w1.cell? ⟨w.heap.size, 0, none⟩ = some (.int .i64 (a : Int)) := wcell (cs := [_, _, _]) e1 0
  have d1 : w1.cell? ⟨w.heap.size, 1, none⟩ = some (.int .i64 (b : Int)) := wcell (cs := [_, _, _]) e1 1
  have d2 : w1.cell? ⟨w.heap.size, 2, none⟩ = some (.slice q n c) := wcell (cs := [_, _, _]) e1 2
  have d3 : w1.cell? ⟨w.heap.size + 1, 0, none⟩ = some (.int .i64 last) := wcell (cs := [_]) e1' 0
  have hxq := HX.out w1 hb1'.out
  replace hB1 := Lib.hid hB1; replace f0 := Lib.hid f0; replace f1 := Lib.hid f1; replace e1 := Lib.hid e1; replace e1' := Lib.hid e1'; replace hs0 := Lib.hid hs0
  clear HM HG
  go_cut [14] (fun v X => v = .bool false ∧ w1 = X)
  case first =>
    obtain ⟨bq, oq, rfl, _, hcq⟩ := hxq.at hn0
    rcases (show last = -1 ∨ 0 ≤ last by omega) with rfl | hl0
    · have h1 : ¬ (n : Int) ≤ -1 := by omega
      clear hcq
      go_wp2_with fail
      go_meet
      exact ⟨rfl, rfl⟩
    · obtain ⟨lt, rfl⟩ : ∃ lt : Nat, last = lt := ⟨last.toNat, by omega⟩
      have k0 := hcq lt (by omega)
      rw [asI_at] at k0
      have hv2 : ¬ st s lt = 2 := by have := hlw (by omega); simpa using this
      have hvb : (((st s lt : Nat) : Int) == 2) = false := by simp; omega
      have h1 : ¬ (n : Int) ≤ (lt : Int) := by omega
      have h2 : ¬ (lt : Int) < -1 := by omega
      have h3 : (lt : Int) < (n : Int) := hl2
      generalize st s lt = v at *
      replace hv2 := Lib.hid hv2
      clear hcq hlw
      go_wp2_with fail
      go_meet
      exact ⟨rfl, rfl⟩
  case rest =>
    obtain ⟨rfl, rfl⟩ := hcut
    go_upto_region 7 with (go_at_call 15; refine HG1.out.mono ?_; rintro e w2 ⟨rfl, hB2⟩; replace hB2 := Lib.hid hB2)
    have hb2 : Hid (Bw W0 w2) := Bw.trans hb1'.out hB2.out
    have G : Hid (∀ X : World, Bw W0 X → X.heap[w.heap.size]? = some (.cells #[.int .i64 (a : Int), .int .i64 (b : Int), .slice q n c] 24 (0, 0)) ∧ X.heap[w.heap.size + 1]? = some (.cells #[.int .i64 last] 3 (0, 0))) := fun X hX => ⟨(Below.block hX _ hlt).trans f0.out, (Below.block hX _ hlt1).trans f1.out⟩
    have HN := Lib.hid (new_any a b n c q s w2 ha1 ha hb1 hb hn.out (HX.out w2 hb2.out))
    have hs02 : W0.heap.size ≤ w2.heap.size := Below.size hb2.out
    clear d0 d1 d2 d3 HG1 hb1' hB1 hB2 e1 e1' hxq
    have d0 : w2.cell? ⟨w.heap.size, 0, none⟩ = some (.int .i64 (a : Int)) := wcell (cs := [_, _, _]) (G.out w2 hb2.out).1 0
    have d1 : w2.cell? ⟨w.heap.size, 1, none⟩ = some (.int .i64 (b : Int)) := wcell (cs := [_, _, _]) (G.out w2 hb2.out).1 1
    have d2 : w2.cell? ⟨w.heap.size, 2, none⟩ = some (.slice q n c) := wcell (cs := [_, _, _]) (G.out w2 hb2.out).1 2
    go_upto_region 8 with (go_at_call 16; refine HN.out.mono ?_; rintro e w4 ⟨v, rfl, hNP, hB4⟩; obtain ⟨sb0, rfl⟩ := hNP.ptr; replace hNP := Lib.hid hNP; replace hB4 := Lib.hid hB4)
    have hs24 : w2.heap.size ≤ w4.heap.size := Below.size hB4.out
    have hb24 : Hid (Bw w2 w4) := hB4.out
    have b45 : Hid (Bw w4 (w4.alloc (.cells #[.pointer (some ⟨sb0, 0, none⟩)] 45))) := (Bw.refl w4).alloc _
    have e6 := heap_alloc_new w4 (.cells #[.pointer (some ⟨sb0, 0, none⟩)] 45)
    have hs5 : (w4.alloc (.cells #[.pointer (some ⟨sb0, 0, none⟩)] 45)).heap.size = w4.heap.size + 1 := by simp
    generalize w4.alloc (.cells #[.pointer (some ⟨sb0, 0, none⟩)] 45) = W5 at *
    have b05 : Hid (Bw W0 W5) := hb2.out.trans (hb24.out.trans b45.out)
    clear d0 d1 d2 HN
    have d0 : W5.cell? ⟨w.heap.size, 0, none⟩ = some (.int .i64 (a : Int)) := wcell (cs := [_, _, _]) (G.out W5 b05.out).1 0
    have d1 : W5.cell? ⟨w.heap.size, 1, none⟩ = some (.int .i64 (b : Int)) := wcell (cs := [_, _, _]) (G.out W5 b05.out).1 1
    have d2 : W5.cell? ⟨w.heap.size, 2, none⟩ = some (.slice q n c) := wcell (cs := [_, _, _]) (G.out W5 b05.out).1 2
    have HY : Hid (Calls Try.prog 19 #[.agg #[.int .i64 (a : Int), .int .i64 (b : Int), .slice q n c], .int .i64 1] W5 fun e w' => e = .returned (.int .i64 ((cnt1 s : Nat) : Int)) ∧ Bw W5 w') := many_any a b n c q s 1 W5 (by omega) (HX.out W5 b05.out)
    obtain ⟨ct, hct⟩ : ∃ ct, ct = cnt1 s := ⟨_, rfl⟩
    rw [← hct] at HY
    replace hct := Lib.hid hct; replace e6 := Lib.hid e6
    go_upto_region 9 with (go_at_call 19; refine HY.out.mono ?_; rintro e w6 ⟨rfl, b56⟩; replace b56 := Lib.hid b56)
    have hs56 : W5.heap.size ≤ w6.heap.size := Below.size b56.out
    have b67 : Hid (Bw w6 (w6.alloc (.cells #[.int .i64 (ct : Int)] 3))) := (Bw.refl w6).alloc _
    have e7 := heap_alloc_new w6 (.cells #[.int .i64 (ct : Int)] 3)
    have hs7 : (w6.alloc (.cells #[.int .i64 (ct : Int)] 3)).heap.size = w6.heap.size + 1 := by simp
    clear d0 d1 d2 HY
    generalize w6.alloc (.cells #[.int .i64 (ct : Int)] 3) = W7 at *
    replace e7 := Lib.hid e7
    go_upto_region 10 with fail
    have b78 : Hid (Bw W7 (W7.alloc (.cells #[.slice none 0 0] 28))) := (Bw.refl W7).alloc _
    have e8 := heap_alloc_new W7 (.cells #[.slice none 0 0] 28)
    rw [hs7] at e8
    have hs8 : (W7.alloc (.cells #[.slice none 0 0] 28)).heap.size = W7.heap.size + 1 := by simp
    generalize W7.alloc (.cells #[.slice none 0 0] 28) = W8 at *
    have b48 : Hid (Bw w4 W8) := b45.out.trans (b56.out.trans (b67.out.trans b78.out))
    have b08 : Hid (Bw W0 W8) := hb2.out.trans (hb24.out.trans b48.out)
    have hs00 := hs0.out
    obtain ⟨P, hv, hPn, hPR, hok, hrs, hgm, hperm, hJ⟩ := new_rs (eb := fun k => k = w6.heap.size ∨ k = w.heap.size + 1 ∨ k = w4.heap.size ∨ k = w6.heap.size + 1) hNP.out b48.out (fun k hk => by omega) (by omega) (by omega) hn.out hn100 hsl
    have hsb : sb0 = P.sb := by injection hv with h; injection h with h; injection h
    subst hsb
    clear hv
    have e68 : W8.heap[w4.heap.size]? = some (.cells #[.pointer (some ⟨P.sb, 0, none⟩)] 45 (0, 0)) := (Below.block (b56.out.trans (b67.out.trans b78.out)) _ (by omega)).trans e6.out
    have e78 : W8.heap[w6.heap.size]? = some (.cells #[.int .i64 (ct : Int)] 3 (0, 0)) := (Below.block b78.out _ (by omega)).trans e7.out
    have hEnv : EnvA P w6.heap.size (w.heap.size + 1) w4.heap.size (w6.heap.size + 1) (cnt1 s) last W8 [] := ⟨rfl, by rw [← hct.out]; exact e78, (G.out W8 b08.out).2, e68, e8⟩
    have HR := sol_run hok ⟨by omega, by omega, by omega⟩ hrs hEnv (by rw [hPn]; exact ⟨hsl, hs2⟩) hc7 hl1 (by rw [hPn]; exact hl2)
    have hfin : Hid (∀ (w9 : World) (e : Ending) (_ : Below w.heap.size w w9), ((runS (lastD (cnt1 s) last) P.J (cnt1 s + 1) s [] ([], [])).2 = false ∧ e = .returned (.tuple #[.slice none 0 0, .int .i64 10]) ∨
      (runS (lastD (cnt1 s) last) P.J (cnt1 s + 1) s [] ([], [])).2 = true ∧ ∃ p m cm, e = .returned (.tuple #[.slice p m cm, .int .i64 0]) ∧ OwnM w.heap.size w9 p m cm (runS (lastD (cnt1 s) last) P.J (cnt1 s + 1) s [] ([], [])).1.2) → SolP w w9 a b s last e ∧ Below w.heap.size w w9) := fun w9 e hB h => ⟨⟨P.J, by rw [← hn.out]; exact hperm, hJ, h⟩, hB⟩
    have hBf : Hid (∀ w9 : World, Kept (FrS P (fun k => k = w6.heap.size ∨ k = w.heap.size + 1 ∨ k = w4.heap.size ∨ k = w6.heap.size + 1) none) W8 w9 → Below w.heap.size w w9) := fun w9 hk => by
      have h2 := Below.size b08.out
      refine hB0.out.trans ((Below.mono b08.out (by omega)).trans (hk.below (by omega) fun k hk hS => ?_))
      have h1 := hgm
      rcases hS with e | e | e | e
      · omega
      · omega
      · cases e
      · rcases e with e | e | e | e <;> omega
    have hRw : w.heap.size ≤ P.R := by rw [hPR]; have := Below.size b08.out; omega
    generalize runS (lastD (cnt1 s) last) P.J (cnt1 s + 1) s [] ([], []) = r at *
    have d6 : W8.cell? ⟨w4.heap.size, 0, none⟩ = some (.pointer (some ⟨P.sb, 0, none⟩)) := wcell (cs := [_]) e68 0
    replace HR := Lib.hid HR; replace hEnv := Lib.hid hEnv; replace e68 := Lib.hid e68; replace e78 := Lib.hid e78; replace hok := Lib.hid hok; replace hrs := Lib.hid hrs; replace hgm := Lib.hid hgm; replace hJ := Lib.hid hJ; replace hPn := Lib.hid hPn; replace hPR := Lib.hid hPR; replace hperm := Lib.hid hperm; replace e8 := Lib.hid e8
    obtain ⟨⟨rk, ra⟩, rb⟩ := r
    go_upto_region 11 with (go_at_call 17; (with_reducible refine HR.out.mono ?_); rintro e w9 ⟨rfl, hyes, hk⟩; replace hyes := Lib.hid hyes; replace hk := Lib.hid hk)
    have hB9 := Lib.hid (hBf.out w9 hk.out)
    cases rb with
    | false =>
      go_wp2_with fail
      refine bodyPost_ret (v := .tuple #[.slice none 0 0, .int .i64 10]) (by simp [results, Try.results6, go_sem]) rfl (hfin.out w9 _ hB9.out (.inl ⟨by first | rfl | trivial, rfl⟩))
    | true =>
      obtain ⟨p9, m9, c9, h9, hO9⟩ := hyes.out (by first | rfl | trivial)
      have d9 : w9.cell? ⟨w6.heap.size + 1, 0, none⟩ = some (.slice p9 m9 c9) := wcell (cs := [_]) h9 0
      replace h9 := Lib.hid h9; replace hO9 := Lib.hid hO9
      go_wp2_with fail
      refine bodyPost_ret (v := .tuple #[.slice p9 m9 c9, .int .i64 0]) (by simp [results, Try.results6, go_sem]) rfl (hfin.out w9 _ hB9.out (.inr ⟨by first | rfl | trivial, p9, m9, c9, rfl, OwnC.mono hO9.out hRw⟩))
end Go.Proofs.Ytapoimadiiheaaa
