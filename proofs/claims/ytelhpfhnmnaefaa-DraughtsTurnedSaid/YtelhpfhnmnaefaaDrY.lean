/- What May computes; no condition. -/
import Derived.Test.YtelhpfhnmnaefaaDrD
import Derived.Test.YtelhpfhnmnaefaaDrR
namespace Go.Proofs.Ytelhpfhnmnaefaa
open Go.RowKit

/-- the box of three counts. -/
structure Cn (B : Nat) (x y : Int) (W : World) : Prop where
  c1 : W.cell? ⟨B, 1, none⟩ = some (.int .i64 x)
  c2 : W.cell? ⟨B, 2, none⟩ = some (.int .i64 y)
  f1 : W.frozen? ⟨B, 1, none⟩ = false
  f2 : W.frozen? ⟨B, 2, none⟩ = false
theorem Cn.set1 {B : Nat} {x y : Int} {W : World} (h : Cn B x y W) (v : Int) : Cn B v y (W.setCell ⟨B, 1, none⟩ (.int .i64 v)) :=
  ⟨World.cell?_setCell_same' _ _ _ (by rw [h.c1]; rfl), by rw [World.cell?_setCell_other (h := by intro e; cases e)]; exact h.c2, by rw [World.frozen?_setCell]; exact h.f1, by rw [World.frozen?_setCell]; exact h.f2⟩
theorem Cn.set2 {B : Nat} {x y : Int} {W : World} (h : Cn B x y W) (v : Int) : Cn B x v (W.setCell ⟨B, 2, none⟩ (.int .i64 v)) :=
  ⟨by rw [World.cell?_setCell_other (h := by intro e; cases e)]; exact h.c1, World.cell?_setCell_same' _ _ _ (by rw [h.c2]; rfl), by rw [World.frozen?_setCell]; exact h.f1, by rw [World.frozen?_setCell]; exact h.f2⟩

set_option maxRecDepth 20000 in
set_option maxHeartbeats 8000000 in
theorem may_any (p : Option Addr) (n c : Nat) (t : Int) (b : List Int) (W : World) (hx : IntsIn W p n b) :
    Calls Try.prog 7 #[.agg #[.slice p n c, .int .i64 t]] W fun e W' => e = .returned (.bool (mayB b t)) ∧ Below W.heap.size W W' := by
  have hno : Hid (¬ MayOk b t → mayB b t = false) := fun h => by rw [← Bool.not_eq_true, may_iff]; exact h
  have hyes : Hid (MayOk b t → mayB b t = true) := (may_iff b t).2
  have hl := hx.len
  obtain ⟨r, hr⟩ : ∃ r, mayB b t = r := ⟨_, rfl⟩
  rw [hr] at hno hyes ⊢
  clear hr
  obtain ⟨W1, hW1⟩ : ∃ W1, W1 = W.alloc (.cells #[.slice p n c, .int .i64 t] 24) := ⟨_, rfl⟩
  have hB1 : Below W.heap.size W W1 := by rw [hW1]; exact bel_refl_alloc _ _
  have hbx : W1.heap[W.heap.size]? = some (.cells #[.slice p n c, .int .i64 t] 24 (0, 0)) := by rw [hW1]; exact heap_alloc_new _ _
  have a0 := wcell (cs := [_, _]) hbx 0
  have a1 := wcell (cs := [_, _]) hbx 1
  by_cases h33 : n = 33
  · subst h33
    obtain ⟨bw, ow, rfl, hbw, hcw⟩ := hx.at (by omega)
    have hcell : ∀ W', Below W1.heap.size W1 W' → ∀ i, i < 33 → W'.cell? ⟨bw, ow + i, none⟩ = some (.int .i64 (gtD b i)) := fun W' h i hi => by
      have e1 : W'.heap[bw]? = W.heap[bw]? := (h.block _ (Nat.lt_of_lt_of_le hbw hB1.size)).trans (hB1.block _ hbw)
      rw [show gtD b i = b[i]?.getD 0 from rfl, ← hcw i hi]
      exact World.cell?_of_block (a := ⟨bw, ow + i, none⟩) e1
    have b0 := hcell W1 (Below.refl _ _) 0 (by omega)
    rw [Nat.add_zero] at b0
    rw [hW1] at a0 a1 b0
    replace hx := Lib.hid hx; replace hB1 := Lib.hid hB1; replace hbx := Lib.hid hbx; replace hl := Lib.hid hl
    clear hcw
    by_cases hz : gtD b 0 = 0
    · rw [hz] at b0
      by_cases ht : t = 1 ∨ t = 2
      · have htb : t = 1 ∨ (t == 1) = false ∧ t = 2 := by
          rcases ht with rfl | rfl
          · exact .inl rfl
          · exact .inr ⟨by decide, rfl⟩
        have hC0 : Hid (∀ X, X = W1.alloc (.cells #[.int .i64 0, .int .i64 0, .int .i64 0] 38) → Cn W1.heap.size 0 0 X ∧ Below W1.heap.size W1 X) := fun X e => by
          subst e
          have hh := heap_alloc_new W1 (.cells #[.int .i64 0, .int .i64 0, .int .i64 0] 38)
          exact ⟨⟨wcell (cs := [_, _, _]) hh 1, wcell (cs := [_, _, _]) hh 2, wfree hh 1, wfree hh 2⟩, bel_refl_alloc _ _⟩
        have hsz : Hid (W1.heap.size = W.heap.size + 1) := by show _ = _; rw [hW1, World.size_alloc]
        have hcell := Lib.hid hcell
        replace hz := Lib.hid hz
        replace ht := Lib.hid ht
        have hkeep : Hid (∀ X, Below W1.heap.size W1 X → X.cell? ⟨W.heap.size, 0, none⟩ = some (.slice (some ⟨bw, ow, none⟩) 33 c)) := fun X h => wcell (cs := [_, _]) ((h.block _ (lt_of_heap hbx.out)).trans hbx.out) 0
        have hmay : Hid ((∀ q, q < 33 → okP b q = true) → up1 b 33 ≤ 12 → dn1 b 33 ≤ 12 → r = true) := fun h1 h2 h3 => hyes.out ⟨hl.out, hz.out, ht.out, h1, h2, h3⟩
        rcases htb with rfl | ⟨htb, rfl⟩
        all_goals
          go_enter Try.func7, Try.ntmps7
          go_wp2_with fail
          rw [← hW1]
          go_loopg [30] 33 (fun gk kv W' => ∃ k : Nat, k ≤ 33 ∧ gk = 33 - k ∧ kv = .int .i64 k ∧ Cn (W.heap.size + 1) (up1 b k) (dn1 b k) W' ∧ Below W1.heap.size W1 W' ∧ ∀ q, q < k → okP b q = true)
          case atStart => exact ⟨0, by omega, by omega, rfl, by rw [← hsz.out]; exact (hC0.out _ rfl).1, (hC0.out _ rfl).2, fun q hq => absurd hq (by omega)⟩
          case round =>
            obtain ⟨k, hk, hgk, rfl, hC, hB, hq⟩ := hrel
            obtain ⟨W3, rfl⟩ : ∃ W3 : World, W3 = wr := ⟨_, rfl⟩
            replace hgk := Lib.hid hgk
            by_cases hlt : k < 33
            · have hki : (k : Int) < 33 := by omega
              have hk0 : (0 : Int) ≤ (k : Int) := by omega
              have ck := hcell.out W3 hB k hlt
              have hu := up1_succ b k
              have hd := dn1_succ b k
              have hul := up1_le b k
              have hdl := dn1_le b k
              have hbad := okP_iff_no b k
              have hgood := okP_iff b k
              obtain ⟨c1, c2, f1, f2⟩ := id hC
              have hs1 := fun v => hC.set1 v
              have hs2 := fun v => hC.set2 v
              have hsB := fun (i : Nat) v => Below.setCell hB (p := ⟨W.heap.size + 1, i, none⟩) (by rw [hsz.out]; exact Nat.le_refl _) v
              generalize up1 b k = x at *
              generalize dn1 b k = y at *
              obtain ⟨v, hv⟩ : ∃ v, gtD b k = v := ⟨_, rfl⟩
              rw [hv] at ck hu hd hbad hgood
              by_cases hok : okP b k = true
              · have hq2 : Hid (∀ q, q < k + 1 → okP b q = true) := fun q h => by
                  by_cases e : q = k
                  · subst e; exact hok
                  · exact hq q (by omega)
                have hg := hgood.1 hok
                have hv5 : v = -2 ∨ v = -1 ∨ v = 0 ∨ v = 1 ∨ v = 2 := by omega
                replace hq := Lib.hid hq; replace hok := Lib.hid hok; replace hv := Lib.hid hv
                replace hC := Lib.hid hC; replace hB := Lib.hid hB; replace hs1 := Lib.hid hs1; replace hs2 := Lib.hid hs2; replace hsB := Lib.hid hsB
                clear hbad hgood
                have w1 : IntKind.i64.wrap ((x : Int) + 1) = (x : Int) + 1 := IntWalk.i64_in _ (by omega)
                have w2 : IntKind.i64.wrap ((y : Int) + 1) = (y : Int) + 1 := IntWalk.i64_in _ (by omega)
                rcases hv5 with rfl | rfl | rfl | rfl | rfl
                · rw [show (if (0:Int) < (-2) then 1 else 0) = 0 from rfl] at hu
                  rw [show (if (-2:Int) < 0 then 1 else 0) = 1 from rfl] at hd
                  replace hu := Lib.hid hu; replace hd := Lib.hid hd; clear hg
                  go_wp2_with fail
                  have hgk := hgk.out
                  go_roundg (33 - (k + 1))
                  case measure => omega
                  case rel => exact ⟨k + 1, by omega, rfl, by go_num, by rw [hu.out, hd.out]; exact hs2.out _, hsB.out _ _, hq2.out⟩
                · have q1 : ¬ (29 : Int) ≤ (k : Int) := by omega
                  rw [show (if (0:Int) < (-1) then 1 else 0) = 0 from rfl] at hu
                  rw [show (if (-1:Int) < 0 then 1 else 0) = 1 from rfl] at hd
                  replace hu := Lib.hid hu; replace hd := Lib.hid hd; clear hg
                  go_wp2_with fail
                  have hgk := hgk.out
                  go_roundg (33 - (k + 1))
                  case measure => omega
                  case rel => exact ⟨k + 1, by omega, rfl, by go_num, by rw [hu.out, hd.out]; exact hs2.out _, hsB.out _ _, hq2.out⟩
                · rw [show (if (0:Int) < 0 then 1 else 0) = 0 from rfl] at hu
                  rw [show (if (0:Int) < 0 then 1 else 0) = 0 from rfl] at hd
                  replace hu := Lib.hid hu; replace hd := Lib.hid hd; clear hg
                  go_wp2_with fail
                  have hgk := hgk.out
                  go_roundg (33 - (k + 1))
                  case measure => omega
                  case rel => exact ⟨k + 1, by omega, rfl, by go_num, by rw [hu.out, hd.out]; exact hC.out, hB.out, hq2.out⟩
                · have q1 : ¬ (k : Int) ≤ 4 := by omega
                  rw [show (if (0:Int) < 1 then 1 else 0) = 1 from rfl] at hu
                  rw [show (if (1:Int) < 0 then 1 else 0) = 0 from rfl] at hd
                  replace hu := Lib.hid hu; replace hd := Lib.hid hd; clear hg
                  go_wp2_with fail
                  have hgk := hgk.out
                  go_roundg (33 - (k + 1))
                  case measure => omega
                  case rel => exact ⟨k + 1, by omega, rfl, by go_num, by rw [hu.out, hd.out]; exact hs1.out _, hsB.out _ _, hq2.out⟩
                · rw [show (if (0:Int) < 2 then 1 else 0) = 1 from rfl] at hu
                  rw [show (if (2:Int) < 0 then 1 else 0) = 0 from rfl] at hd
                  replace hu := Lib.hid hu; replace hd := Lib.hid hd; clear hg
                  go_wp2_with fail
                  have hgk := hgk.out
                  go_roundg (33 - (k + 1))
                  case measure => omega
                  case rel => exact ⟨k + 1, by omega, rfl, by go_num, by rw [hu.out, hd.out]; exact hs1.out _, hsB.out _ _, hq2.out⟩
              · have hres : Hid (r = false) := hno.out fun h => hok (h.pl k hlt)
                have hfr : Hid (Below W.heap.size W W3) := hB1.out.trans (hB.mono (by rw [hsz.out]; omega))
                have hbd := hbad.1 (by simpa using hok)
                replace hq := Lib.hid hq; replace hok := Lib.hid hok; replace hv := Lib.hid hv
                replace hC := Lib.hid hC; replace hB := Lib.hid hB; replace hs1 := Lib.hid hs1; replace hs2 := Lib.hid hs2; replace hsB := Lib.hid hsB
                clear hbad hgood hu hd
                rcases hbd with hc | hc | hc | hc
                · have q1 : v < -2 := hc
                  go_wp2_with fail
                  go_ret
                  exact ⟨ret_bool (by rw [hres.out]), hfr.out⟩
                · have q0 : ¬ v < -2 := by omega
                  have q1 : 2 < v := hc
                  go_wp2_with fail
                  go_ret
                  exact ⟨ret_bool (by rw [hres.out]), hfr.out⟩
                · obtain ⟨rfl, h4⟩ := hc
                  have q1 : (k : Int) ≤ 4 := by omega
                  go_wp2_with fail
                  go_ret
                  exact ⟨ret_bool (by rw [hres.out]), hfr.out⟩
                · obtain ⟨rfl, h4⟩ := hc
                  have q1 : 29 ≤ (k : Int) := by omega
                  go_wp2_with fail
                  go_ret
                  exact ⟨ret_bool (by rw [hres.out]), hfr.out⟩
            · have hk3 : k = 33 := by omega
              have hki : ¬ (k : Int) < 33 := by omega
              rw [hk3] at hC hq
              replace hk3 := Lib.hid hk3
              have hfr : Hid (Below W.heap.size W W3) := hB1.out.trans (hB.mono (by rw [hsz.out]; omega))
              obtain ⟨c1, c2, f1, f2⟩ := id hC
              by_cases hu : up1 b 33 ≤ 12
              · have hui : ((up1 b 33 : Nat) : Int) ≤ 12 := by omega
                by_cases hd : dn1 b 33 ≤ 12
                · have hdi : ((dn1 b 33 : Nat) : Int) ≤ 12 := by omega
                  have hres : Hid (r = true) := hmay.out hq hu hd
                  replace hC := Lib.hid hC; replace hB := Lib.hid hB; replace hq := Lib.hid hq
                  go_wp2_with fail
                  go_ret
                  exact ⟨ret_bool (by rw [hres.out]), hfr.out⟩
                · have hdi : ¬ ((dn1 b 33 : Nat) : Int) ≤ 12 := by omega
                  have hres : Hid (r = false) := hno.out fun h => hd h.dn
                  replace hC := Lib.hid hC; replace hB := Lib.hid hB; replace hq := Lib.hid hq
                  go_wp2_with fail
                  go_ret
                  exact ⟨ret_bool (by rw [hres.out]), hfr.out⟩
              · have hui : ¬ ((up1 b 33 : Nat) : Int) ≤ 12 := by omega
                have hres : Hid (r = false) := hno.out fun h => hu h.up
                replace hC := Lib.hid hC; replace hB := Lib.hid hB; replace hq := Lib.hid hq
                go_wp2_with fail
                go_ret
                exact ⟨ret_bool (by rw [hres.out]), hfr.out⟩
      · have t1 : (t != 1) = true := by simp; omega
        have t2 : (t != 2) = true := by simp; omega
        have hres : Hid (r = false) := hno.out fun h => ht h.turn
        replace ht := Lib.hid ht; replace hz := Lib.hid hz; replace hcell := Lib.hid hcell
        go_enter Try.func7, Try.ntmps7
        go_wp2_with fail
        rw [← hW1]
        go_ret
        exact ⟨ret_bool (by rw [hres.out]), hB1.out⟩
    · have hzb : (gtD b 0 == 0) = false := by simp [hz]
      have hres : Hid (r = false) := hno.out fun h => hz h.zero
      replace hz := Lib.hid hz; replace hcell := Lib.hid hcell
      go_enter Try.func7, Try.ntmps7
      go_wp2_with fail
      rw [← hW1]
      go_ret
      exact ⟨ret_bool (by rw [hres.out]), hB1.out⟩
  · have h3 : ((n : Int) != 33) = true := by simp; omega
    have hres : Hid (r = false) := hno.out fun h => h33 (by rw [← hl]; exact h.len)
    rw [hW1] at a0 a1
    replace h33 := Lib.hid h33
    go_enter Try.func7, Try.ntmps7
    go_wp2_with fail
    rw [← hW1]
    go_ret
    exact ⟨ret_bool (by rw [hres.out]), hB1⟩
end Go.Proofs.Ytelhpfhnmnaefaa
