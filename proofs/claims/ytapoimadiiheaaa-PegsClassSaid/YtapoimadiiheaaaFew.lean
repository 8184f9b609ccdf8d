/- What pegs.Fewest computes; conditions: the slice's length fits its kind. -/
import Derived.Test.YtapoimadiiheaaaRn18
import Derived.Test.YtapoimadiiheaaaDn18
import Derived.Test.YtapoimadiiheaaaPgJ
namespace Go.Proofs.Ytapoimadiiheaaa
open Go.RowKit Go.Maps

/-- the state of a search that was made, in a later world. -/
theorem new_rs {w w1 X : World} {a b n : Nat} {s : List Nat} {v : Value} {eb : Nat → Prop} (h : NewP w w1 a b n s v) (hX : Bw w1 X) (heb : ∀ k, eb k → (k < w.heap.size ∨ w1.heap.size ≤ k) ∧ k < X.heap.size) (ha : 0 < a) (hb : 0 < b) (hn : n = a * b) (hn100 : n ≤ 100) (hsl : s.length = n) :
    ∃ P : Pm, v = .pointer (some ⟨P.sb, 0, none⟩) ∧ P.n = n ∧ P.R = X.heap.size ∧ PmOk P eb ∧ RS0 P X s [] ∧ (w.heap.size ≤ P.g ∧ w.heap.size ≤ P.mb) ∧ P.J.Perm (allJ a b s n) ∧ ∀ j, j ∈ P.J ↔ inJ a b s j := by
  obtain ⟨sb, g, cg, qa, m, ca, J, mb, rfl, hd, hp, h1, h2, h3, hperm, hm⟩ := h
  have hsb1 := lt_of_heap hd
  have hs1 := Below.size hX
  have hgB := (hp.own.block _ rfl).1
  simp only at hgB
  have hmB := hp.mbB
  have hmem : ∀ j, j ∈ J ↔ inJ a b s j := fun j => by rw [hperm.mem_iff, hn]; exact mem_allJ ha
  have hqB : ∀ x, qa = some x → 0 < m → w.heap.size ≤ x.block := fun x hx h0 => by
    obtain ⟨g2, e1, e2, _⟩ := hp.all.block h0
    rw [e1] at hx; cases hx; exact e2
  refine ⟨⟨sb, g, cg, n, m, ca, mb, w.heap.size, X.heap.size, qa, J⟩, rfl, rfl, rfl, ?_, ?_, ⟨hgB, hmB⟩, hperm, hmem⟩
  · have hn0 : 0 < n := by rw [hn]; exact Nat.mul_pos ha hb
    have far : ∀ k, w.heap.size ≤ k → k < w1.heap.size → ¬ eb k := fun k h1 h2 h3 => by have := (heb k h3).1; omega
    refine ⟨by simp only; omega, by simp only; omega, by simp only; omega, fun x hx h0 => by have := h3 x hx h0; simp only; omega, by simp only; omega, by simp only; omega, hp.ne1, fun x hx h0 => ?_, fun k hk => (heb k hk).2, fun k hk => ?_, by simp only; omega, hn100, hn0, hm, fun j hj => ?_⟩
    · have q := hp.ne2 x hx h0
      have q2 := h3 x hx h0
      exact ⟨q.1, q.2, far _ (hqB x hx h0) (by omega)⟩
    · have hk' := (heb k hk).1
      simp only
      omega
    · have := inJ_wf (by rw [hsl, hn]) ((hmem j).1 hj)
      rw [hsl] at this; exact this
  · refine ⟨(Below.block hX _ hsb1).trans hd, hp.own.below hX (Nat.le_refl _), hp.all.below hX, hp.trd.below hX, Nat.le_refl _⟩
theorem most_le {J : List Jm} {s : List Nat} (hJ : ∀ j ∈ J, wfJ s.length j) : mostS J s ≤ cnt1 s := by
  obtain ⟨⟨t, _, h⟩, _⟩ := most_law hJ
  omega
theorem few_run {P : Pm} {X : World} {s : List Nat} {bx : Nat} (ok : PmOk P fun k => k = bx) (hrs : RS0 P X s []) (hbx : X.heap[bx]? = some (.cells #[.int .i64 0] 3 (0, 0))) (hbd : Bd P.n s) (hc7 : cnt1 s ≤ 7) :
    Calls Try.prog 17 #[.pointer (some ⟨P.sb, 0, none⟩), .slice none 0 0, .func (.func 18) #[] #[.pointer (some ⟨bx, 0, none⟩)]] X fun e X' => e = .returned (.bool false) ∧ X'.heap[bx]? = some (.cells #[.int .i64 ((mostS P.J s : Nat) : Int)] 3 (0, 0)) ∧ Kept (FrS P (fun k => k = bx) none) X X' := by
  have h := run18 P (fun k => k = bx) (fun (W : World) (acc : Nat) => W.heap[bx]? = some (.cells #[.int .i64 (acc : Int)] 3 (0, 0))) (fun _ _ => False) fewD s bx (cnt1 s) ok
    (fun W W' a h1 _ h3 => (h3 bx rfl).trans h1) (fun _ _ _ h _ => h) (fun _ _ _ h _ _ => h)
    (fun W t ks acc row p nr cr h1 h2 h3 _ _ h6 => (done18 bx acc nr cr p W h2).mono fun e W' ⟨k1, k2, k3⟩ => ⟨k1, fun _ => by
      have : row.length = nr := h3.len
      show W'.heap[bx]? = some (.cells #[.int .i64 ((max acc row.length : Nat) : Int)] 3 (0, 0))
      rw [this]; exact k2, fun h => by simp [fewD] at h, (Kept.ofGrown k3).weak fun k _ e => by injection e⟩) (by omega)
    (cnt1 s + 1) s [] 0 [] none 0 0 X (by omega) hbd hrs hbx (OwnC.nil _ _ _ _) .refl (by simp) (by have := Bc_7 hc7; simp; omega)
  refine h.mono fun e X' ⟨k1, k2⟩ => ⟨?_, ?_, k2.kept⟩
  · rw [k1, few_false]
  · exact (k2.no (few_false _ _ _ _ _)).1
set_option maxHeartbeats 1000000 in
theorem few_no (A H : Int) (n c : Nat) (q : Option Addr) (xs : List Int) (w : World) (hn : n ≤ 9223372036854775807) (hW1 : -9223372036854775808 ≤ A) (hW2 : A ≤ 9223372036854775807) (hH1 : -9223372036854775808 ≤ H) (hH2 : H ≤ 9223372036854775807) (hx : IntsIn w q n xs) (hm : mayG A H xs = false) :
    Calls Try.prog 5 #[.agg #[.int .i64 A, .int .i64 H, .slice q n c]] w fun e w' => e = .returned (.tuple #[.int .i64 0, .int .i64 12]) ∧ Below w.heap.size w w' := by
  have e0 := heap_alloc_new w (.cells #[.int .i64 A, .int .i64 H, .slice q n c] 24)
  have hB0 := Lib.hid ((Below.refl w.heap.size w).alloc (Nat.le_refl _) (.cells #[.int .i64 A, .int .i64 H, .slice q n c] 24))
  have HM := may_any q n c A H xs (w.alloc (.cells #[.int .i64 A, .int .i64 H, .slice q n c] 24)) hn hW1 hW2 hH1 hH2 (hx.alloc _)
  rw [hm] at HM
  replace HM := Lib.hid HM
  have d0 : (w.alloc (.cells #[.int .i64 A, .int .i64 H, .slice q n c] 24)).cell? ⟨w.heap.size, 0, none⟩ = some (.int .i64 A) := wcell (cs := [_, _, _]) e0 0
  have d1 : (w.alloc (.cells #[.int .i64 A, .int .i64 H, .slice q n c] 24)).cell? ⟨w.heap.size, 1, none⟩ = some (.int .i64 H) := wcell (cs := [_, _, _]) e0 1
  have d2 : (w.alloc (.cells #[.int .i64 A, .int .i64 H, .slice q n c] 24)).cell? ⟨w.heap.size, 2, none⟩ = some (.slice q n c) := wcell (cs := [_, _, _]) e0 2
  clear hx e0
  go_enter Try.func5, Try.ntmps5
  go_wp2_with (go_at_call 11; refine HM.out.mono ?_; rintro e w1 ⟨rfl, hB1⟩; replace hB1 := Lib.hid hB1)
  refine bodyPost_ret (v := .tuple #[.int .i64 0, .int .i64 12]) (by simp [results, Try.results5, go_sem]) rfl ⟨rfl, hB0.out.trans (hB1.out.mono (by simp))⟩
set_option maxHeartbeats 1000000 in
theorem few_great (a b n c : Nat) (q : Option Addr) (s : List Nat) (w : World) (ha : a ≤ 10) (hb : b ≤ 10) (hn : n ≤ 100) (hx : IntsIn w q n (asI s)) (hm : mayG a b (asI s) = true) (hg : grtS s = true) :
    Calls Try.prog 5 #[.agg #[.int .i64 (a : Int), .int .i64 (b : Int), .slice q n c]] w fun e w' => e = .returned (.tuple #[.int .i64 0, .int .i64 2]) ∧ Below w.heap.size w w' := by
  have e0 := heap_alloc_new w (.cells #[.int .i64 (a : Int), .int .i64 (b : Int), .slice q n c] 24)
  have hB0 := Lib.hid ((Below.refl w.heap.size w).alloc (Nat.le_refl _) (.cells #[.int .i64 (a : Int), .int .i64 (b : Int), .slice q n c] 24))
  have hx0 := Lib.hid (hx.alloc (.cells #[.int .i64 (a : Int), .int .i64 (b : Int), .slice q n c] 24))
  have hs0 : (w.alloc (.cells #[.int .i64 (a : Int), .int .i64 (b : Int), .slice q n c] 24)).heap.size = w.heap.size + 1 := by simp
  have hw0 := Lib.hid hx
  clear hx
  go_enter Try.func5, Try.ntmps5
  go_upto_region 1 with fail
  generalize w.alloc (.cells #[.int .i64 (a : Int), .int .i64 (b : Int), .slice q n c] 24) = W0 at *
  have HM := may_any q n c a b (asI s) W0 (by omega) (by omega) (by omega) (by omega) (by omega) hx0.out
  rw [hm] at HM
  have HG : Hid (∀ X : World, Bw W0 X → Calls Try.prog 15 #[.agg #[.int .i64 (a : Int), .int .i64 (b : Int), .slice q n c]] X fun e w' => e = .returned (.bool true) ∧ Bw X w') := fun X hX => by
    have := great_any a b n c q s X (by omega) (hx0.out.below hX)
    rw [hg] at this; exact this
  replace HM := Lib.hid HM
  have d0 : W0.cell? ⟨w.heap.size, 0, none⟩ = some (.int .i64 (a : Int)) := wcell (cs := [_, _, _]) e0 0
  have d1 : W0.cell? ⟨w.heap.size, 1, none⟩ = some (.int .i64 (b : Int)) := wcell (cs := [_, _, _]) e0 1
  have d2 : W0.cell? ⟨w.heap.size, 2, none⟩ = some (.slice q n c) := wcell (cs := [_, _, _]) e0 2
  go_upto_region 3 with (go_at_call 11; refine HM.out.mono ?_; rintro e w1 ⟨rfl, hB1⟩)
  have hb1 : Bw W0 w1 := hB1
  have hlt : w.heap.size < W0.heap.size := by omega
  have e1 := (Below.block hb1 _ hlt).trans e0
  have d0' : w1.cell? ⟨w.heap.size, 0, none⟩ = some (.int .i64 (a : Int)) := wcell (cs := [_, _, _]) e1 0
  have d1' : w1.cell? ⟨w.heap.size, 1, none⟩ = some (.int .i64 (b : Int)) := wcell (cs := [_, _, _]) e1 1
  have d2' : w1.cell? ⟨w.heap.size, 2, none⟩ = some (.slice q n c) := wcell (cs := [_, _, _]) e1 2
  have HG1 := Lib.hid (HG.out w1 hb1)
  replace hb1 := Lib.hid hb1; replace hB1 := Lib.hid hB1; replace e0 := Lib.hid e0; replace e1 := Lib.hid e1; replace hs0 := Lib.hid hs0
  go_wp2_with (go_at_call 15; refine HG1.out.mono ?_; rintro e w2 ⟨rfl, hB2⟩; replace hB2 := Lib.hid hB2)
  refine bodyPost_ret (v := .tuple #[.int .i64 0, .int .i64 2]) (by simp [results, Try.results5, go_sem]) rfl ⟨rfl, hB0.out.trans (Below.mono (Bw.trans hb1.out hB2.out) (by have := hs0.out; omega))⟩
set_option maxHeartbeats 2000000 in
theorem few_yes (a b n c : Nat) (q : Option Addr) (s : List Nat) (w : World) (ha1 : 1 ≤ a) (ha : a ≤ 10) (hb1 : 1 ≤ b) (hb : b ≤ 10) (hn : n = a * b) (hx : IntsIn w q n (asI s)) (hs2 : ∀ j, st s j ≤ 2) (hg : grtS s = false) :
    Calls Try.prog 5 #[.agg #[.int .i64 (a : Int), .int .i64 (b : Int), .slice q n c]] w fun e w' => (∃ J, (∀ j, j ∈ J ↔ inJ a b s j) ∧ e = .returned (.tuple #[.int .i64 ((cnt1 s - mostS J s : Nat) : Int), .int .i64 0])) ∧ Below w.heap.size w w' := by
  have hn100 : n ≤ 100 := by rw [hn]; exact Nat.mul_le_mul ha hb
  have hsl : s.length = n := by have := hx.len; rwa [asI_len] at this
  have hm : mayG a b (asI s) = true := mayG_of ha1 ha hb1 hb (by rw [hsl, hn]) hs2
  have hc7 : cnt1 s ≤ 7 := by
    unfold grtS at hg
    rw [Bool.or_eq_false_iff] at hg
    have := of_decide_eq_false hg.1
    unfold cnt1; omega
  have e0 := heap_alloc_new w (.cells #[.int .i64 (a : Int), .int .i64 (b : Int), .slice q n c] 24)
  have hB0 := Lib.hid ((Below.refl w.heap.size w).alloc (Nat.le_refl _) (.cells #[.int .i64 (a : Int), .int .i64 (b : Int), .slice q n c] 24))
  have hx0 := Lib.hid (hx.alloc (.cells #[.int .i64 (a : Int), .int .i64 (b : Int), .slice q n c] 24))
  have hs0 : (w.alloc (.cells #[.int .i64 (a : Int), .int .i64 (b : Int), .slice q n c] 24)).heap.size = w.heap.size + 1 := by simp
  have hw0 := Lib.hid hx
  clear hx
  replace hn := Lib.hid hn
  go_enter Try.func5, Try.ntmps5
  go_upto_region 1 with fail
  generalize w.alloc (.cells #[.int .i64 (a : Int), .int .i64 (b : Int), .slice q n c] 24) = W0 at *
  have HM := may_any q n c a b (asI s) W0 (by omega) (by omega) (by omega) (by omega) (by omega) hx0.out
  rw [hm] at HM
  have HG : Hid (∀ X : World, Bw W0 X → Calls Try.prog 15 #[.agg #[.int .i64 (a : Int), .int .i64 (b : Int), .slice q n c]] X fun e w' => e = .returned (.bool false) ∧ Bw X w') := fun X hX => by
    have := great_any a b n c q s X (by omega) (hx0.out.below hX)
    rw [hg] at this; exact this
  replace HM := Lib.hid HM
  have d0 : W0.cell? ⟨w.heap.size, 0, none⟩ = some (.int .i64 (a : Int)) := wcell (cs := [_, _, _]) e0 0
  have d1 : W0.cell? ⟨w.heap.size, 1, none⟩ = some (.int .i64 (b : Int)) := wcell (cs := [_, _, _]) e0 1
  have d2 : W0.cell? ⟨w.heap.size, 2, none⟩ = some (.slice q n c) := wcell (cs := [_, _, _]) e0 2
  go_upto_region 3 with (go_at_call 11; refine HM.out.mono ?_; rintro e w1 ⟨rfl, hB1⟩)
  have hb1' : Hid (Bw W0 w1) := hB1
  have hlt : w.heap.size < W0.heap.size := by omega
  have e1 := (Below.block hb1'.out _ hlt).trans e0
  have HG1 := Lib.hid (HG.out w1 hb1'.out)
  clear d0 d1 d2
  have d0 : w1.cell? ⟨w.heap.size, 0, none⟩ = some (.int .i64 (a : Int)) := wcell (cs := [_, _, _]) e1 0
  have d1 : w1.cell? ⟨w.heap.size, 1, none⟩ = some (.int .i64 (b : Int)) := wcell (cs := [_, _, _]) e1 1
  have d2 : w1.cell? ⟨w.heap.size, 2, none⟩ = some (.slice q n c) := wcell (cs := [_, _, _]) e1 2
  replace hB1 := Lib.hid hB1; replace e0 := Lib.hid e0; replace e1 := Lib.hid e1; replace hs0 := Lib.hid hs0
  clear HM HG
  go_upto_region 5 with (go_at_call 15; refine HG1.out.mono ?_; rintro e w2 ⟨rfl, hB2⟩; replace hB2 := Lib.hid hB2)
  have hb2 : Hid (Bw W0 w2) := Bw.trans hb1'.out hB2.out
  have hB2' : Hid (Bw W0 w2) := hb2.out
  have hb3 : Hid (Bw W0 (w2.alloc (.cells #[.int .i64 0] 3))) := hb2.out.alloc _
  have e3 := (Below.block hb3.out _ hlt).trans e0.out
  have hbx := heap_alloc_new w2 (.cells #[.int .i64 0] 3)
  clear d0 d1 d2 HG1
  have d0 : (w2.alloc (.cells #[.int .i64 0] 3)).cell? ⟨w.heap.size, 0, none⟩ = some (.int .i64 (a : Int)) := wcell (cs := [_, _, _]) e3 0
  have d1 : (w2.alloc (.cells #[.int .i64 0] 3)).cell? ⟨w.heap.size, 1, none⟩ = some (.int .i64 (b : Int)) := wcell (cs := [_, _, _]) e3 1
  have d2 : (w2.alloc (.cells #[.int .i64 0] 3)).cell? ⟨w.heap.size, 2, none⟩ = some (.slice q n c) := wcell (cs := [_, _, _]) e3 2
  have hs3 : (w2.alloc (.cells #[.int .i64 0] 3)).heap.size = w2.heap.size + 1 := by simp
  go_upto_region 6 with fail
  generalize w2.alloc (.cells #[.int .i64 0] 3) = W3 at *
  have HN := Lib.hid (new_any a b n c q s W3 ha1 ha hb1 hb hn.out (hx0.out.below hb3.out))
  have hlt3 : w.heap.size < W3.heap.size := Nat.lt_of_lt_of_le hlt (Below.size hb3.out)
  have hbd : Bd n s := ⟨hsl, hs2⟩
  have hB3 : Hid (Below w.heap.size w W3) := hB0.out.trans (Below.mono hb3.out (by have := hs0.out; omega))
  have hw2 : w.heap.size ≤ w2.heap.size := by have := Below.size hb2.out; omega
  replace hbx := Lib.hid hbx; replace e3 := Lib.hid e3; replace hbd := Lib.hid hbd; replace hs2 := Lib.hid hs2; replace hsl := Lib.hid hsl; replace hg := Lib.hid hg; replace hm := Lib.hid hm
  clear hB2 hb1' hB1 e0 e1 hb2 hx0 hB0
  go_upto_region 7 with (first
    | (go_at_call 16; refine HN.out.mono ?_; rintro e w4 ⟨v, rfl, hNP, hB4⟩
       obtain ⟨P, rfl, hPn, hPR, hok, hrs, hgm, _, hJ⟩ := new_rs (eb := fun k => k = w2.heap.size) hNP (Bw.refl w4) (fun k hk => ⟨.inl (by omega), by have := hB4.size; omega⟩) (by omega) (by omega) hn.out hn100 hsl.out
       have HR := Lib.hid (few_run hok hrs ((hB4.block _ (by omega)).trans hbx.out) (by rw [hPn]; exact hbd.out) hc7)
       replace hNP := Lib.hid hNP; replace hB4 := Lib.hid hB4; replace hok := Lib.hid hok; replace hrs := Lib.hid hrs; replace hgm := Lib.hid hgm; replace hJ := Lib.hid hJ; replace hPn := Lib.hid hPn; replace hPR := Lib.hid hPR)
    | (go_at_call 17; refine HR.out.mono ?_; rintro e w5 ⟨rfl, hmb, hk⟩; replace hmb := Lib.hid hmb; replace hk := Lib.hid hk))
  have hw4 : W3.heap.size ≤ w4.heap.size := hB4.out.size
  have hB5 : Hid (Below w.heap.size w w5) := by
    refine hB3.out.trans ((hB4.out.mono (by omega)).trans (hk.out.below (by omega) fun k hk hS => ?_))
    have h1 := hgm.out
    rcases hS with e | e | e | e
    · omega
    · omega
    · cases e
    · omega
  have e5 : Hid (w5.heap[w.heap.size]? = some (.cells #[.int .i64 (a : Int), .int .i64 (b : Int), .slice q n c] 24 (0, 0))) := by
    refine (hk.out.block _ (by omega) fun hS => ?_).trans ((hB4.out.block _ (by omega)).trans e3.out)
    have h1 := hgm.out
    have h2 := Below.size hB2'.out
    rcases hS with e | e | e | e
    · omega
    · omega
    · cases e
    · omega
  have hwf : ∀ j ∈ P.J, wfJ s.length j := fun j hj => inJ_wf (by rw [hsl.out, hn.out]) ((hJ.out j).1 hj)
  have hmle := most_le hwf
  have hlt5 : w.heap.size < w5.heap.size := lt_of_heap e5.out
  have d0' : w5.cell? ⟨w.heap.size, 0, none⟩ = some (.int .i64 (a : Int)) := wcell (cs := [_, _, _]) e5.out 0
  have d1' : w5.cell? ⟨w.heap.size, 1, none⟩ = some (.int .i64 (b : Int)) := wcell (cs := [_, _, _]) e5.out 1
  have d2' : w5.cell? ⟨w.heap.size, 2, none⟩ = some (.slice q n c) := wcell (cs := [_, _, _]) e5.out 2
  have db : w5.cell? ⟨w2.heap.size, 0, none⟩ = some (.int .i64 ((mostS P.J s : Nat) : Int)) := wcell (cs := [_]) hmb.out 0
  have hfin : Hid (∀ v : Int, v = (cnt1 s : Int) - (mostS P.J s : Nat) → ∃ J, (∀ j, j ∈ J ↔ inJ a b s j) ∧ Ending.returned (.tuple #[.int .i64 v, .int .i64 0]) = .returned (.tuple #[.int .i64 ((cnt1 s - mostS J s : Nat) : Int), .int .i64 0])) := fun v hv => ⟨P.J, hJ.out, by rw [hv]; congr; omega⟩
  have HY : Hid (∀ X : World, Bw w5 X → Calls Try.prog 19 #[.agg #[.int .i64 (a : Int), .int .i64 (b : Int), .slice q n c], .int .i64 1] X fun e w' => e = .returned (.int .i64 ((cnt1 s : Nat) : Int)) ∧ Bw w5 w') := fun X hX =>
    (many_any a b n c q s 1 X (by omega) (hw0.out.keep (Nat.le_trans hB5.out.size (Below.size hX)) fun b' o' e' => by
      have hq : b' < w.heap.size := by
        subst e'
        rcases Nat.eq_zero_or_pos n with h0 | h0
        · rw [hn.out] at h0; have := Nat.mul_pos ha1 hb1; omega
        · obtain ⟨b2, o2, e2, h3, _⟩ := hw0.out.at h0
          cases e2; exact h3
      exact (Below.block hX _ (Nat.lt_of_lt_of_le hq hB5.out.size)).trans (hB5.out.block _ hq))).mono fun e w' ⟨h1, h2⟩ => ⟨h1, hX.trans h2⟩
  obtain ⟨ct, hct⟩ : ∃ ct, ct = cnt1 s := ⟨_, rfl⟩
  obtain ⟨mo, hmo⟩ : ∃ mo, mo = mostS P.J s := ⟨_, rfl⟩
  rw [← hct] at HY hmle hc7
  rw [← hmo] at hmle db
  replace hct := Lib.hid hct; replace hmo := Lib.hid hmo
  have hr0 : Hid (Bw w5 w5.drew) := (Bw.refl w5).drew
  have hws : IntKind.i64.wrap ((ct : Int) - (mo : Int)) = (ct : Int) - (mo : Int) := IntWalk.i64_in _ (by omega)
  clear d0 d1 d2
  go_cut [2, 3] (fun v k X => v = .int .i64 ((ct : Int) - (mo : Int)) ∧ k = .int .i64 0 ∧ Bw w5 X)
  case first =>
    go_region_with (go_at_call 19; (with_reducible refine (HY.out _ ?_).mono ?_); exact hr0.out; rintro e w6 ⟨rfl, hb6⟩; have db' : w6.cell? ⟨w2.heap.size, 0, none⟩ = some (.int .i64 (mo : Int)) := (Below.cell (p := ⟨w2.heap.size, 0, none⟩) hb6 (lt_of_heap hmb.out)).trans db)
    all_goals
      go_wp2_with fail
      go_meet
      exact ⟨rfl, rfl, hb6⟩
  case rest =>
    obtain ⟨rfl, rfl, hb6⟩ := hcut
    replace hb6 := Lib.hid hb6
    go_wp2_with fail
    refine bodyPost_ret (v := .tuple #[.int .i64 ((ct : Int) - (mo : Int)), .int .i64 0]) (by simp [results, Try.results5, go_sem]) rfl ⟨hfin.out _ (by rw [← hct.out, ← hmo.out]), hB5.out.trans (Below.mono hb6.out hB5.out.size)⟩
end Go.Proofs.Ytapoimadiiheaaa
