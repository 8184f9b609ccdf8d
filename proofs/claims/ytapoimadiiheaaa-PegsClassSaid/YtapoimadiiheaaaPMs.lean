/- gameroomkeep.PegsMirrors returns true for every board; the slice's length fits its kind. -/
import Derived.Test.YtapoimadiiheaaaExs
namespace Go.Proofs.Ytapoimadiiheaaa
open Go.RowKit

set_option maxHeartbeats 4000000 in
theorem mirrors_no (A H : Int) (n c : Nat) (q : Option Addr) (w : World) (k : Int) (hk : ((k == 0) = false))
    (HF : ∀ X, Bw w X → Calls Try.prog 5 #[.agg #[.int .i64 A, .int .i64 H, .slice q n c]] X fun e w' => e = .returned (.tuple #[.int .i64 0, .int .i64 k]) ∧ Bw X w') :
    Calls Try.prog 3 #[.agg #[.int .i64 A, .int .i64 H, .slice q n c]] w fun e w' => e = .returned (.bool true) ∧ Bw w w' := by
  have e0 := heap_alloc_new w (.cells #[.int .i64 A, .int .i64 H, .slice q n c] 24)
  have hb0 : Bw w (w.alloc (.cells #[.int .i64 A, .int .i64 H, .slice q n c] 24)) := (Bw.refl w).alloc _
  have HF0 := Lib.hid (HF _ hb0)
  have d0 : (w.alloc (.cells #[.int .i64 A, .int .i64 H, .slice q n c] 24)).cell? ⟨w.heap.size, 0, none⟩ = some (.int .i64 A) := wcell (cs := [_, _, _]) e0 0
  have d1 : (w.alloc (.cells #[.int .i64 A, .int .i64 H, .slice q n c] 24)).cell? ⟨w.heap.size, 1, none⟩ = some (.int .i64 H) := wcell (cs := [_, _, _]) e0 1
  have d2 : (w.alloc (.cells #[.int .i64 A, .int .i64 H, .slice q n c] 24)).cell? ⟨w.heap.size, 2, none⟩ = some (.slice q n c) := wcell (cs := [_, _, _]) e0 2
  have hkb : (k != 0) = true := by simp at hk ⊢; exact hk
  replace e0 := Lib.hid e0; replace hb0 := Lib.hid hb0
  clear HF
  go_enter Try.func3, Try.ntmps3
  go_upto_region 2 with (go_at_call 5; (with_reducible refine HF0.out.mono ?_); rintro e w1 ⟨rfl, hb1⟩; replace hb1 := Lib.hid hb1)
  have e1 := heap_alloc_new w1 (.cells #[.int .i64 1, .int .i64 1, .int .i64 0] 3)
  have HE := Lib.hid (ex_sol w1.heap.size 3 (w1.alloc (.cells #[.int .i64 1, .int .i64 1, .int .i64 0] 3)) e1)
  have hb2 : Hid (Bw w (w1.alloc (.cells #[.int .i64 1, .int .i64 1, .int .i64 0] 3))) := hb0.out.trans (hb1.out.trans ((Bw.refl w1).alloc _))
  go_wp2_with (go_at_call 6; (with_reducible refine HE.out.mono ?_); rintro e w3 ⟨⟨g, cm, rfl, x0, x1⟩, hb3⟩; replace hb3 := Lib.hid hb3)
  go_ret
  exact ⟨rfl, hb2.out.trans hb3.out⟩
theorem grt_7 {s : List Nat} (hg : grtS s = false) : cnt1 s ≤ 7 := by
  unfold grtS at hg
  rw [Bool.or_eq_false_iff] at hg
  have := of_decide_eq_false hg.1
  unfold cnt1; omega
theorem sol_found (a b n c : Nat) (q : Option Addr) (s : List Nat) (w : World) (ha1 : 1 ≤ a) (ha : a ≤ 10) (hb1 : 1 ≤ b) (hb : b ≤ 10) (hn : n = a * b) (hx : IntsIn w q n (asI s)) (hs2 : ∀ j, st s j ≤ 2) (hg : grtS s = false) (J1 : List Jm) (hJ1 : ∀ j, j ∈ J1 ↔ inJ a b s j) (h : mostS J1 s + 1 = cnt1 s) :
    Calls Try.prog 6 #[.agg #[.int .i64 (a : Int), .int .i64 (b : Int), .slice q n c], .int .i64 (-1)] w fun e w' => (∃ p m cm row t J, e = .returned (.tuple #[.slice p m cm, .int .i64 0]) ∧ MvIn w' p m row ∧ Pth J s row t ∧ (∀ j ∈ J, inJ a b s j) ∧ cnt1 t = 1) ∧ Bw w w' := by
  have hsl : s.length = a * b := by have := hx.len; rw [asI_len] at this; rw [this, hn]
  refine (sol_yes a b n c q s (-1) w ha1 ha hb1 hb hn hx hs2 (by omega) (by omega) (fun h => by omega) hg).mono ?_
  rintro e w' ⟨⟨J, _, hJ, h2⟩, hB⟩
  rw [last_none] at h2
  have hwf : ∀ j ∈ J, wfJ s.length j := fun j hj => inJ_wf hsl ((hJ j).1 hj)
  have hm : mostS J s = mostS J1 s := most_ext (fun j => by rw [hJ, hJ1]) hwf
  have hi := sol_iff hwf
  have hf : (solS J s).2 = true := hi.2 (by rw [hm]; exact h)
  rcases h2 with ⟨h1, _⟩ | ⟨_, p, m, cm, rfl, hO⟩
  · have h3 : (solS J s).2 = false := h1
    rw [hf] at h3; cases h3
  · obtain ⟨t, hp, ht⟩ := sol_some hwf hf
    exact ⟨⟨p, m, cm, _, t, J, rfl, OwnM.in hO, hp, fun j hj => (hJ j).1 hj, ht⟩, hB⟩
theorem sol_lost (a b n c : Nat) (q : Option Addr) (s : List Nat) (w : World) (ha1 : 1 ≤ a) (ha : a ≤ 10) (hb1 : 1 ≤ b) (hb : b ≤ 10) (hn : n = a * b) (hx : IntsIn w q n (asI s)) (hs2 : ∀ j, st s j ≤ 2) (hg : grtS s = false) (J1 : List Jm) (hJ1 : ∀ j, j ∈ J1 ↔ inJ a b s j) (h : ¬ mostS J1 s + 1 = cnt1 s) :
    Calls Try.prog 6 #[.agg #[.int .i64 (a : Int), .int .i64 (b : Int), .slice q n c], .int .i64 (-1)] w fun e w' => e = .returned (.tuple #[.slice none 0 0, .int .i64 10]) ∧ Bw w w' := by
  have hsl : s.length = a * b := by have := hx.len; rw [asI_len] at this; rw [this, hn]
  refine (sol_yes a b n c q s (-1) w ha1 ha hb1 hb hn hx hs2 (by omega) (by omega) (fun h => by omega) hg).mono ?_
  rintro e w' ⟨⟨J, _, hJ, h2⟩, hB⟩
  rw [last_none] at h2
  have hwf : ∀ j ∈ J, wfJ s.length j := fun j hj => inJ_wf hsl ((hJ j).1 hj)
  have hm : mostS J s = mostS J1 s := most_ext (fun j => by rw [hJ, hJ1]) hwf
  have hi := sol_iff hwf
  rcases h2 with ⟨_, rfl⟩ | ⟨h1, _⟩
  · exact ⟨rfl, hB⟩
  · exact absurd (by rw [← hm]; exact hi.1 h1) h
set_option maxHeartbeats 8000000 in
theorem mirrors_yes (a b n c : Nat) (q : Option Addr) (s : List Nat) (w : World) (ha1 : 1 ≤ a) (ha : a ≤ 10) (hbp : 1 ≤ b) (hb : b ≤ 10) (hn : n = a * b) (hx : IntsIn w q n (asI s)) (hs2 : ∀ j, st s j ≤ 2) (hg : grtS s = false) :
    Calls Try.prog 3 #[.agg #[.int .i64 (a : Int), .int .i64 (b : Int), .slice q n c]] w fun e w' => e = .returned (.bool true) ∧ Bw w w' := by
  have hn100 : n ≤ 100 := by rw [hn]; exact Nat.mul_le_mul ha hb
  have hsl : s.length = n := by have := hx.len; rwa [asI_len] at this
  have hsab : s.length = a * b := by rw [hsl, hn]
  have hc7 : cnt1 s ≤ 7 := grt_7 hg
  have hgm : grtS (mirL a s) = false := by
    unfold grtS at hg ⊢
    rw [(mir_perm hsab).countP_eq, (mir_perm hsab).countP_eq]; exact hg
  have hsm : ∀ j, st (mirL a s) j ≤ 2 := fun j => by
    by_cases hj : j < a * b
    · rw [mir_at (by rw [hsab]; exact hj)]; exact hs2 _
    · unfold st; rw [List.getElem?_eq_none (by rw [mir_len, hsab]; omega)]; simp
  have e0 := heap_alloc_new w (.cells #[.int .i64 (a : Int), .int .i64 (b : Int), .slice q n c] 24)
  have hb0 : Bw w (w.alloc (.cells #[.int .i64 (a : Int), .int .i64 (b : Int), .slice q n c] 24)) := (Bw.refl w).alloc _
  obtain ⟨W0, hW0⟩ : ∃ W0, W0 = w.alloc (.cells #[.int .i64 (a : Int), .int .i64 (b : Int), .slice q n c] 24) := ⟨_, rfl⟩
  rw [← hW0] at e0 hb0
  have HX : Hid (∀ X : World, Bw W0 X → IntsIn X q n (asI s)) := fun X hX => hx.below (hb0.trans hX)
  have G : Hid (∀ X : World, Bw W0 X → X.heap[w.heap.size]? = some (.cells #[.int .i64 (a : Int), .int .i64 (b : Int), .slice q n c] 24 (0, 0))) := fun X hX => (Below.block hX _ (lt_of_heap e0)).trans e0
  have HF0 := Lib.hid (few_yes a b n c q s W0 ha1 ha hbp hb hn (HX.out W0 (Bw.refl W0)) hs2 hg)
  have d0 : W0.cell? ⟨w.heap.size, 0, none⟩ = some (.int .i64 (a : Int)) := wcell (cs := [_, _, _]) e0 0
  have d1 : W0.cell? ⟨w.heap.size, 1, none⟩ = some (.int .i64 (b : Int)) := wcell (cs := [_, _, _]) e0 1
  have d2 : W0.cell? ⟨w.heap.size, 2, none⟩ = some (.slice q n c) := wcell (cs := [_, _, _]) e0 2
  have hsz := lt_of_heap e0
  replace e0 := Lib.hid e0; replace hb0 := Lib.hid hb0; replace hn := Lib.hid hn
  clear hx
  go_enter Try.func3, Try.ntmps3
  go_upto_region 1 with fail
  rw [← hW0]
  clear hW0
  obtain ⟨ct, hct⟩ : ∃ ct, ct = cnt1 s := ⟨_, rfl⟩
  rw [← hct] at hc7 HF0
  replace hct := Lib.hid hct
  go_upto_region 2 with (go_at_call 5; (with_reducible refine HF0.out.mono ?_); rintro e w1 ⟨⟨J1, hJ1, rfl⟩, hb1⟩; replace hb1 := Lib.hid hb1; replace hJ1 := Lib.hid hJ1)
  have hb01 : Hid (Bw W0 w1) := hb1.out
  have e1 := heap_alloc_new w1 (.cells #[.int .i64 1, .int .i64 1, .int .i64 0] 3)
  have HE := Lib.hid (ex_sol w1.heap.size 3 (w1.alloc (.cells #[.int .i64 1, .int .i64 1, .int .i64 0] 3)) e1)
  have hb02 : Hid (Bw W0 (w1.alloc (.cells #[.int .i64 1, .int .i64 1, .int .i64 0] 3))) := hb01.out.trans ((Bw.refl w1).alloc _)
  clear d0 d1 d2
  replace e1 := Lib.hid e1
  have hwf1 : ∀ j ∈ J1, wfJ s.length j := fun j hj => inJ_wf hsab ((hJ1.out j).1 hj)
  have hmo := most_le hwf1
  obtain ⟨mo, hmoe⟩ : ∃ mo, mo = mostS J1 s := ⟨_, rfl⟩
  rw [← hmoe, ← hct.out] at hmo
  rw [← hmoe]
  replace hmoe := Lib.hid hmoe; replace hwf1 := Lib.hid hwf1
  go_upto_region 7 with (go_at_call 6; (with_reducible refine HE.out.mono ?_); rintro e w3 ⟨⟨g, cm, rfl, x0, x1⟩, hb3⟩; replace hb3 := Lib.hid hb3)
  have hb03 : Hid (Bw W0 w3) := hb02.out.trans hb3.out
  have d0 : w3.cell? ⟨w.heap.size, 0, none⟩ = some (.int .i64 (a : Int)) := wcell (cs := [_, _, _]) (G.out w3 hb03.out) 0
  have d1 : w3.cell? ⟨w.heap.size, 1, none⟩ = some (.int .i64 (b : Int)) := wcell (cs := [_, _, _]) (G.out w3 hb03.out) 1
  have d2 : w3.cell? ⟨w.heap.size, 2, none⟩ = some (.slice q n c) := wcell (cs := [_, _, _]) (G.out w3 hb03.out) 2
  have HMI := Lib.hid (mirrored_any q n c a b s w3 ha1 ha hb hn.out (HX.out w3 hb03.out))
  have hmirN : Hid (mirN s a n = mirL a s) := mirN_L ha1 hsl
  have hcm : Hid (cnt1 (mirL a s) = ct) := by show _ = _; rw [hct.out]; exact mir_cnt hsab
  have hmm : Hid (∀ J2 : List Jm, (∀ j, j ∈ J2 ↔ inJ a b (mirL a s) j) → mostS J2 (mirL a s) = mo) := fun J2 hJ2 => by
    rw [hmoe.out]
    refine mir_most (h := b) hsab (fun j hj => ⟨hwf1.out j hj, (hJ2 _).2 (inJ_mir hsab ((hJ1.out j).1 hj))⟩) fun j hj => ?_
    have h2 := (hJ2 j).1 hj
    have h3 := inJ_mir (by rw [mir_len]; exact hsab) h2
    rw [mir_mir hsab] at h3
    exact ⟨by have := inJ_wf (by rw [mir_len]; exact hsab) h2; rwa [mir_len] at this, (hJ1.out _).2 h3⟩
  clear HE hb3 x0 x1
  go_upto_region 8 with (first
    | (go_at_call 7; (with_reducible refine HMI.out.mono ?_); rintro e w4 ⟨p4, c4, rfl, hx4, hb4⟩; rw [hmirN.out] at hx4; have HF2 := Lib.hid (few_yes a b n c4 p4 (mirL a s) w4 ha1 ha hbp hb hn.out hx4 hsm hgm); replace hx4 := Lib.hid hx4; replace hb4 := Lib.hid hb4)
    | (go_at_call 5; (with_reducible refine HF2.out.mono ?_); rintro e w5 ⟨⟨J2, hJ2, rfl⟩, hb5⟩; have hv : cnt1 (mirL a s) - mostS J2 (mirL a s) = ct - mo := (by rw [hcm.out, hmm.out J2 hJ2]); rw [hv]; clear hv; replace hJ2 := Lib.hid hJ2; replace hb5 := Lib.hid hb5))
  have hb05 : Hid (Bw W0 w5) := hb03.out.trans (Bw.trans hb4.out hb5.out)
  clear d0 d1 d2 HMI HF2
  have d0 : w5.cell? ⟨w.heap.size, 0, none⟩ = some (.int .i64 (a : Int)) := wcell (cs := [_, _, _]) (G.out w5 hb05.out) 0
  have d1 : w5.cell? ⟨w.heap.size, 1, none⟩ = some (.int .i64 (b : Int)) := wcell (cs := [_, _, _]) (G.out w5 hb05.out) 1
  have d2 : w5.cell? ⟨w.heap.size, 2, none⟩ = some (.slice q n c) := wcell (cs := [_, _, _]) (G.out w5 hb05.out) 2
  by_cases hone : mo + 1 = ct
  · have hk : ct - mo = 1 := by omega
    rw [hk]
    have HS := Lib.hid (sol_found a b n c q s w5 ha1 ha hbp hb hn.out (HX.out w5 hb05.out) hs2 hg J1 hJ1.out (by rw [← hmoe.out, ← hct.out]; exact hone))
    replace hk := Lib.hid hk; replace hone := Lib.hid hone
    go_upto_region 9 with (go_at_call 6; (with_reducible refine HS.out.mono ?_); rintro e w6 ⟨⟨p, m, cm6, row, t, J3, rfl, hMv, hP, hJ3, ht1⟩, hb6⟩; replace hMv := Lib.hid hMv; replace hP := Lib.hid hP; replace hJ3 := Lib.hid hJ3; replace ht1 := Lib.hid ht1; replace hb6 := Lib.hid hb6)
    have hb06 : Hid (Bw W0 w6) := hb05.out.trans hb6.out
    clear d0 d1 d2 HS
    have d0 : w6.cell? ⟨w.heap.size, 0, none⟩ = some (.int .i64 (a : Int)) := wcell (cs := [_, _, _]) (G.out w6 hb06.out) 0
    have d1 : w6.cell? ⟨w.heap.size, 1, none⟩ = some (.int .i64 (b : Int)) := wcell (cs := [_, _, _]) (G.out w6 hb06.out) 1
    have d2 : w6.cell? ⟨w.heap.size, 2, none⟩ = some (.slice q n c) := wcell (cs := [_, _, _]) (G.out w6 hb06.out) 2
    have HD := Lib.hid (do_path a b n c m cm6 q p s t J3 row w6 ha1 ha hbp hb hn.out (HX.out w6 hb06.out) hs2 hMv.out hP.out hJ3.out)
    go_upto_region 14 with (go_at_call 8; (with_reducible refine HD.out.mono ?_); rintro e w7 ⟨p7, c7, rfl, hx7, hb7, _⟩; replace hx7 := Lib.hid hx7; replace hb7 := Lib.hid hb7)
    have hb07 : Hid (Bw W0 w7) := hb06.out.trans hb7.out
    have e8 := heap_alloc_new w7 (.cells #[.int .i64 (a : Int), .int .i64 (b : Int), .slice p7 n c7] 24)
    have hb08 : Hid (Bw W0 (w7.alloc (.cells #[.int .i64 (a : Int), .int .i64 (b : Int), .slice p7 n c7] 24))) := hb07.out.trans ((Bw.refl w7).alloc _)
    have HC : Hid (Calls Try.prog 9 #[.agg #[.int .i64 (a : Int), .int .i64 (b : Int), .slice p7 n c7], .int .i64 1] (w7.alloc (.cells #[.int .i64 (a : Int), .int .i64 (b : Int), .slice p7 n c7] 24)) fun e w9 => e = .returned (.int .i64 ((t.countP (· == 1) : Nat) : Int)) ∧ Bw (w7.alloc (.cells #[.int .i64 (a : Int), .int .i64 (b : Int), .slice p7 n c7] 24)) w9) := count_any a b n c7 p7 t 1 _ (by omega) (hx7.out.alloc _)
    have ht1' : Hid (t.countP (· == 1) = 1) := ht1.out
    clear d0 d1 d2 HD
    have d0 : (w7.alloc (.cells #[.int .i64 (a : Int), .int .i64 (b : Int), .slice p7 n c7] 24)).cell? ⟨w7.heap.size, 0, none⟩ = some (.int .i64 (a : Int)) := wcell (cs := [_, _, _]) e8 0
    have d1 : (w7.alloc (.cells #[.int .i64 (a : Int), .int .i64 (b : Int), .slice p7 n c7] 24)).cell? ⟨w7.heap.size, 1, none⟩ = some (.int .i64 (b : Int)) := wcell (cs := [_, _, _]) e8 1
    have d2 : (w7.alloc (.cells #[.int .i64 (a : Int), .int .i64 (b : Int), .slice p7 n c7] 24)).cell? ⟨w7.heap.size, 2, none⟩ = some (.slice p7 n c7) := wcell (cs := [_, _, _]) e8 2
    rw [ht1'.out] at HC
    replace e8 := Lib.hid e8
    go_wp2_with (go_at_call 9; (with_reducible refine HC.out.mono ?_); rintro e w9 ⟨rfl, hb9⟩; replace hb9 := Lib.hid hb9)
    go_ret
    exact ⟨rfl, hb0.out.trans (hb08.out.trans hb9.out)⟩
  · have hk : ¬ ct - mo = 1 := by omega
    have HS := Lib.hid (sol_lost a b n c q s w5 ha1 ha hbp hb hn.out (HX.out w5 hb05.out) hs2 hg J1 hJ1.out (by rw [← hmoe.out, ← hct.out]; exact hone))
    generalize ct - mo = k at *
    have hkb : ((k : Int) == 1) = false := by simp; omega
    replace hk := Lib.hid hk; replace hone := Lib.hid hone
    go_wp2_with (go_at_call 6; (with_reducible refine HS.out.mono ?_); rintro e w6 ⟨rfl, hb6⟩; replace hb6 := Lib.hid hb6)
    go_ret
    exact ⟨rfl, hb0.out.trans (hb05.out.trans hb6.out)⟩
theorem mirrors_law (A H : Int) (q : Option Addr) (n c : Nat) (xs : List Int) (w : World) (hW1 : -9223372036854775808 ≤ A) (hW2 : A ≤ 9223372036854775807) (hH1 : -9223372036854775808 ≤ H) (hH2 : H ≤ 9223372036854775807) (hn : n ≤ 9223372036854775807) (hx : IntsIn w q n xs) :
    Calls Try.prog 3 #[.agg #[.int .i64 A, .int .i64 H, .slice q n c]] w fun e w' => e = .returned (.bool true) ∧ Below w.heap.size w w' := by
  by_cases hm : mayG A H xs = true
  · obtain ⟨a, b, s, rfl, rfl, rfl, h1, h2, h3, h4, h5, h6⟩ := mayG_yes hm
    have hl : n = a * b := by have := hx.len; rw [asI_len] at this; omega
    cases hg : grtS s with
    | false => exact mirrors_yes a b n c q s w h1 h2 h3 h4 hl hx h6 hg
    | true => exact mirrors_no a b n c q w 2 (by decide) fun X hX => few_great a b n c q s X h2 h4 (by rw [hl]; exact Nat.mul_le_mul h2 h4) (hx.below hX) hm hg
  · have hm' : mayG A H xs = false := by simpa using hm
    exact mirrors_no A H n c q w 12 (by decide) fun X hX => few_no A H n c q xs X hn hW1 hW2 hH1 hH2 (hx.below hX) hm'
end Go.Proofs.Ytapoimadiiheaaa
