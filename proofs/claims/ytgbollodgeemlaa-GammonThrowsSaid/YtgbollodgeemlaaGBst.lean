/- What means.best computes, if means.of computes the mean of each state of fewer pips; conditions: at most three men, up to four numbers of one to six. -/
import Derived.Test.YtgbollodgeemlaaGMap
import Derived.Test.YtgbollodgeemlaaNl
import Derived.Lib.MinMax
import Derived.Deep.RegionHeld3
import Derived.Deep.DeepCutAuto
import Derived.Deep.RegionLaw
namespace Go.Proofs.Ytgbollodgeemlaa
open Go.RowKit Go.Maps

theorem gmean_le {l : List Nat} (hl : gst l) : gmean l ≤ 1099511627776 := by
  have h := gall_st glaw_all l hl
  unfold glaw at h
  simp only [Bool.and_eq_true, decide_eq_true_eq] at h
  exact h.1
theorem gmean_empty {l : List Nat} (hl : gst l) (h0 : gempty l = true) : gmean l = 0 := by
  have h := gall_st glaw_all l hl
  unfold glaw at h
  rw [h0] at h
  simp only [Bool.and_eq_true, if_true] at h
  exact Nat.eq_of_beq_eq_true h.2
theorem gmean_law {l : List Nat} (hl : gst l) (h0 : gempty l = false) : (gmean l : Int) = 78364164096 + gsum l 6 / 36 := by
  have h := gall_st glaw_all l hl
  unfold glaw at h
  rw [h0] at h
  simp only [Bool.and_eq_true, Bool.false_eq_true, if_false, decide_eq_true_eq] at h
  exact h.2
theorem gmoved_law {l : List Nat} (hl : gst l) (h0 : gempty l = false) {p : Nat} (h1 : 1 ≤ p) (h2 : p ≤ 6) : (gmoved l p).length ≠ 0 ∧ ∀ x ∈ gmoved l p, gst x ∧ gpips x < gpips l := by
  have h := gall_st gclos_all l hl
  unfold gclos at h
  rw [h0, Bool.false_or, List.all_eq_true] at h
  have h' := h (p - 1) (List.mem_range.2 (by omega))
  rw [show p - 1 + 1 = p by omega] at h'
  simp only [Bool.and_eq_true, List.all_eq_true, decide_eq_true_eq, Bool.not_eq_true'] at h'
  refine ⟨fun e => ?_, fun x hx => ?_⟩
  · rw [e] at h'; exact absurd h'.1 (by decide)
  · obtain ⟨⟨ha, hb⟩, hc⟩ := h'.2 x hx
    exact ⟨⟨Nat.eq_of_beq_eq_true ha, hb⟩, hc⟩
/-- the best of the first i states. -/
def gfold (ps : List Nat) (L : List (List Nat)) (i : Nat) : Int := ((L.take i).map (gbest ps)).foldl gless (-1)
theorem gfold_succ (ps : List Nat) (L : List (List Nat)) (i : Nat) (h : i < L.length) : gfold ps L (i + 1) = gless (gfold ps L i) (gbest ps L[i]) := by
  unfold gfold
  rw [List.take_succ_eq_append_getElem h, List.map_append, List.foldl_append]; rfl
theorem gbest_cons (p : Nat) (ps l : List Nat) (h0 : gempty l = false) : gbest (p :: ps) l = gfold ps (gmoved l p) (gmoved l p).length := by
  rw [gbest, h0, gfold, List.take_length]; rfl
theorem gfold_bd {ps : List Nat} {L : List (List Nat)} (h : ∀ x ∈ L, 0 ≤ gbest ps x ∧ gbest ps x ≤ 1099511627776) : ∀ i, i ≤ L.length → -1 ≤ gfold ps L i ∧ gfold ps L i ≤ 1099511627776 ∧ (0 < i → 0 ≤ gfold ps L i) := by
  intro i
  induction i with
  | zero => intro _; simp [gfold]
  | succ i ih =>
    intro hi
    have hi' : i < L.length := hi
    obtain ⟨h1, h2, h3⟩ := ih (by omega)
    rw [gfold_succ ps L i hi']
    have hx := h _ (List.getElem_mem hi')
    unfold gless
    split <;> refine ⟨?_, ?_, ?_⟩ <;> omega
theorem gbest_bd : ∀ (ps l : List Nat), gst l → (∀ p ∈ ps, 1 ≤ p ∧ p ≤ 6) → 0 ≤ gbest ps l ∧ gbest ps l ≤ 1099511627776 := by
  intro ps
  induction ps with
  | nil => intro l hl _; have := gmean_le hl; simp only [gbest]; omega
  | cons p ps ih =>
    intro l hl hp
    cases h0 : gempty l with
    | true => have := gmean_le hl; rw [gbest, h0]; simp only [if_true]; omega
    | false =>
      obtain ⟨hm1, hm2⟩ := gmoved_law hl h0 (hp p (by simp)).1 (hp p (by simp)).2
      rw [gbest_cons p ps l h0]
      have := gfold_bd (ps := ps) (L := gmoved l p) (fun x hx => ih x (hm2 x hx).1 (fun q hq => hp q (by simp [hq]))) _ (Nat.le_refl _)
      exact ⟨this.2.2 (by omega), this.2.1⟩

theorem ints_grown {w w' : World} {mb n : Nat} {q : Option Addr} {xs : List Int} (h : IntsIn w q n xs) (hm : MapOk w mb) (hg : w.grownBy w' (some mb)) : IntsIn w' q n xs :=
  ⟨h.1, fun j hj => by
    obtain ⟨b, o, e, hb, hc⟩ := h.2 j hj
    have hne : some b ≠ some mb := by
      intro e'
      injection e' with e'
      subst e'
      exact hm.notRow hc
    exact ⟨b, o, e, Nat.lt_of_lt_of_le hb hg.size, (World.cell?_of_block (a := ⟨b, o + j, none⟩) (hg.block b hb hne)).trans hc⟩⟩
theorem gmoved_len (l : List Nat) (p : Nat) : (gmoved l p).length ≤ 6 := by
  unfold gmoved gmovedN
  rw [List.length_map]
  have := List.length_filter_le (gok l p) (List.range 6)
  simpa using this
theorem hflat_at : ∀ (L : List (List Nat)) (i j : Nat) (x : List Nat), (∀ y ∈ L, y.length = 6) → L[i]? = some x → j < 6 → (hflat L)[i * 6 + j]? = some (.int .i64 ((gat x j : Nat) : Int)) := by
  intro L
  induction L with
  | nil => intro i j x _ h; simp at h
  | cons y L ih =>
    intro i j x hy h hj
    have e : hflat (y :: L) = hcells y ++ hflat L := by simp [hflat]
    have hl : (hcells y).length = 6 := by rw [hcells, List.length_map]; exact hy y (by simp)
    rw [e]
    cases i with
    | zero =>
      simp only [List.getElem?_cons_zero, Option.some.injEq] at h
      subst h
      rw [List.getElem?_append_left (by omega), hcells, List.getElem?_map, Nat.zero_mul, Nat.zero_add]
      have hj' : j < y.length := by rw [hy y (by simp)]; exact hj
      rw [List.getElem?_eq_getElem hj', gat, List.getD_eq_getElem?_getD, List.getElem?_eq_getElem hj']
      rfl
    | succ i =>
      rw [List.getElem?_append_right (by omega), hl, show (i + 1) * 6 + j - 6 = i * 6 + j by omega]
      exact ih i j x (fun z hz => hy z (by simp [hz])) (by simpa using h) hj
set_option maxRecDepth 20000 in
set_option maxHeartbeats 4000000 in
theorem best_of (t : Nat)
    (Hof : ∀ (a b c d e f mb : Nat) (w : World), a + b + c + d + e + f ≤ 3 → gpips [a, b, c, d, e, f] < t → MapOk w mb → Calls Try.prog 14 #[.map (some mb), H6 a b c d e f] w fun r w' => r = .returned (.int .i64 (gmean [a, b, c, d, e, f] : Int)) ∧ MapOk w' mb ∧ w.grownBy w' (some mb)) :
    ∀ (ps : List Nat) (a b c d e f mb n : Nat) (q : Option Addr) (w : World), (∀ p ∈ ps, 1 ≤ p ∧ p ≤ 6) → n = ps.length → n ≤ 4 → a + b + c + d + e + f ≤ 3 → (gpips [a, b, c, d, e, f] < t ∨ (gpips [a, b, c, d, e, f] ≤ t ∧ ps ≠ [] ∧ gempty [a, b, c, d, e, f] = false)) → MapOk w mb → IntsIn w q n (asI ps) →
    Calls Try.prog 25 #[.map (some mb), H6 a b c d e f, .slice q n n] w fun r w' => r = .returned (.int .i64 (gbest ps [a, b, c, d, e, f])) ∧ MapOk w' mb ∧ w.grownBy w' (some mb) := by
  intro ps
  induction ps with
  | nil =>
    intro a b c d e f mb n q w _ hn _ h3 hm hM hx
    simp only [List.length_nil] at hn
    subst hn
    have hp : gpips [a, b, c, d, e, f] < t := by
      rcases hm with h | h
      · exact h
      · exact absurd rfl h.2.1
    have HO := Lib.hid (Hof a b c d e f mb (w.alloc (.cells #[.int .i64 (a : Int), .int .i64 (b : Int), .int .i64 (c : Int), .int .i64 (d : Int), .int .i64 (e : Int), .int .i64 (f : Int)] 40)) h3 hp (hM.alloc _))
    have hg0 := Lib.hid (World.grownBy_alloc w (.cells #[.int .i64 (a : Int), .int .i64 (b : Int), .int .i64 (c : Int), .int .i64 (d : Int), .int .i64 (e : Int), .int .i64 (f : Int)] 40) (some mb))
    have e0 := heap_alloc_new w (.cells #[.int .i64 (a : Int), .int .i64 (b : Int), .int .i64 (c : Int), .int .i64 (d : Int), .int .i64 (e : Int), .int .i64 (f : Int)] 40)
    clear hM hx hm hp Hof
    go_enter Try.func25, Try.ntmps25
    go_wp2_with fail
    refine HO.out.mono ?_
    rintro r w' ⟨rfl, hM', hg'⟩
    have hgg := Lib.hid (hg0.out.trans hg')
    clear hg' hg0
    replace hM' := Lib.hid hM'
    go_wp2_with fail
    go_ret
    exact ⟨rfl, hM'.out, hgg.out⟩
  | cons p ps ih =>
    intro a b c d e f mb n q w hps hn hn4 h3 hm hM hx
    rw [List.length_cons] at hn
    obtain ⟨gb, go, rfl, hgb, hcx⟩ := hx.at (by omega)
    clear hcx
    have hgb' : gb ≠ mb := by
      rintro rfl
      exact hM.notRow (hx.cellN (i := 0) (by omega))
    have hg0 := Lib.hid (World.grownBy_alloc w (.cells #[.int .i64 (a : Int), .int .i64 (b : Int), .int .i64 (c : Int), .int .i64 (d : Int), .int .i64 (e : Int), .int .i64 (f : Int)] 40) (some mb))
    have e0 := heap_alloc_new w (.cells #[.int .i64 (a : Int), .int .i64 (b : Int), .int .i64 (c : Int), .int .i64 (d : Int), .int .i64 (e : Int), .int .i64 (f : Int)] 40)
    have hM0 := Lib.hid (hM.alloc (.cells #[.int .i64 (a : Int), .int .i64 (b : Int), .int .i64 (c : Int), .int .i64 (d : Int), .int .i64 (e : Int), .int .i64 (f : Int)] 40))
    have hx0 := Lib.hid (hx.alloc (.cells #[.int .i64 (a : Int), .int .i64 (b : Int), .int .i64 (c : Int), .int .i64 (d : Int), .int .i64 (e : Int), .int .i64 (f : Int)] 40))
    have hsz0 : w.heap.size < (w.alloc (.cells #[.int .i64 (a : Int), .int .i64 (b : Int), .int .i64 (c : Int), .int .i64 (d : Int), .int .i64 (e : Int), .int .i64 (f : Int)] 40)).heap.size := by simp
    have hmw := hM.lt
    have HE := Lib.hid (empty_any a b c d e f (w.alloc (.cells #[.int .i64 (a : Int), .int .i64 (b : Int), .int .i64 (c : Int), .int .i64 (d : Int), .int .i64 (e : Int), .int .i64 (f : Int)] 40)) h3)
    have hst := Lib.hid (gst6 h3)
    obtain ⟨l, hl⟩ : ∃ l, l = [a, b, c, d, e, f] := ⟨_, rfl⟩
    have hlh := Lib.hid hl
    replace e0 := Lib.hid e0; replace h3 := Lib.hid h3; replace hps := Lib.hid hps
    have hnz : ((n : Int) == 0) = false := by simp; omega
    have hn0 : 0 < n := by omega
    replace hn := Lib.hid hn
    cases hem : gempty [a, b, c, d, e, f] with
    | true =>
      have hp : gpips [a, b, c, d, e, f] < t := by
        rcases hm with h | h
        · exact h
        · rw [hem] at h; exact absurd h.2.2 (by simp)
      have hgo : Hid (gbest (p :: ps) [a, b, c, d, e, f] = gmean [a, b, c, d, e, f]) := by show _ = _; rw [gbest, hem]; rfl
      have HO := Lib.hid (fun W hM => Hof a b c d e f mb W h3.out hp hM)
      rw [hem] at HE
      clear hM hx hm hp ih Hof hem hl
      go_enter Try.func25, Try.ntmps25
      go_wp2_with fail
      generalize (w.alloc (.cells #[.int .i64 (a : Int), .int .i64 (b : Int), .int .i64 (c : Int), .int .i64 (d : Int), .int .i64 (e : Int), .int .i64 (f : Int)] 40)) = W at *
      refine HE.out.mono ?_
      rintro r w1 ⟨rfl, hB⟩
      have e1 := (hB.block _ hsz0).trans e0.out
      have d1 : w1.cell? ⟨w.heap.size, 0, none⟩ = some (.int .i64 (a : Int)) := wcell (cs := [_, _, _, _, _, _]) e1 0
      have d2 : w1.cell? ⟨w.heap.size, 1, none⟩ = some (.int .i64 (b : Int)) := wcell (cs := [_, _, _, _, _, _]) e1 1
      have d3 : w1.cell? ⟨w.heap.size, 2, none⟩ = some (.int .i64 (c : Int)) := wcell (cs := [_, _, _, _, _, _]) e1 2
      have d4 : w1.cell? ⟨w.heap.size, 3, none⟩ = some (.int .i64 (d : Int)) := wcell (cs := [_, _, _, _, _, _]) e1 3
      have d5 : w1.cell? ⟨w.heap.size, 4, none⟩ = some (.int .i64 (e : Int)) := wcell (cs := [_, _, _, _, _, _]) e1 4
      have d6 : w1.cell? ⟨w.heap.size, 5, none⟩ = some (.int .i64 (f : Int)) := wcell (cs := [_, _, _, _, _, _]) e1 5
      have HO1 := Lib.hid (HO.out w1 (hM0.out.below hB))
      have hg1 := Lib.hid (hg0.out.trans (grown_below hB (some mb)))
      clear hB e1 HO HE
      go_wp2_with fail
      refine HO1.out.mono ?_
      rintro r w' ⟨rfl, hM', hg'⟩
      have hgg := Lib.hid (hg1.out.trans hg')
      replace hM' := Lib.hid hM'
      clear hg' HO1
      go_wp2_with fail
      go_ret
      exact ⟨by rw [hgo.out]; rfl, hM'.out, hgg.out⟩
    | false =>
      have hpp := hps.out p (by simp)
      have hp1 := hpp.1
      have hp2 := hpp.2
      have k1 : w.cell? ⟨gb, go, none⟩ = some (.int .i64 (p : Int)) := hx.cellN (i := 0) (by omega)
      have hlw := gmoved_law hst.out hem hp1 hp2
      have HV := Lib.hid (fun W => moved_any a b c d e f p W hp1 hp2 h3.out hem)
      have hgo := Lib.hid (gbest_cons p ps _ hem)
      have hpt : gpips [a, b, c, d, e, f] ≤ t := by
        rcases hm with h | h
        · omega
        · exact h.1
      rw [hem] at HE
      replace hlw := Lib.hid hlw; replace hpt := Lib.hid hpt
      clear hM hm hem hl Hof
      go_enter Try.func25, Try.ntmps25
      go_wp2_with fail
      generalize (w.alloc (.cells #[.int .i64 (a : Int), .int .i64 (b : Int), .int .i64 (c : Int), .int .i64 (d : Int), .int .i64 (e : Int), .int .i64 (f : Int)] 40)) = W at *
      refine HE.out.mono ?_
      rintro r w1 ⟨rfl, hB⟩
      have e1 := (hB.block _ hsz0).trans e0.out
      have d1 : w1.cell? ⟨w.heap.size, 0, none⟩ = some (.int .i64 (a : Int)) := wcell (cs := [_, _, _, _, _, _]) e1 0
      have d2 : w1.cell? ⟨w.heap.size, 1, none⟩ = some (.int .i64 (b : Int)) := wcell (cs := [_, _, _, _, _, _]) e1 1
      have d3 : w1.cell? ⟨w.heap.size, 2, none⟩ = some (.int .i64 (c : Int)) := wcell (cs := [_, _, _, _, _, _]) e1 2
      have d4 : w1.cell? ⟨w.heap.size, 3, none⟩ = some (.int .i64 (d : Int)) := wcell (cs := [_, _, _, _, _, _]) e1 3
      have d5 : w1.cell? ⟨w.heap.size, 4, none⟩ = some (.int .i64 (e : Int)) := wcell (cs := [_, _, _, _, _, _]) e1 4
      have d6 : w1.cell? ⟨w.heap.size, 5, none⟩ = some (.int .i64 (f : Int)) := wcell (cs := [_, _, _, _, _, _]) e1 5
      have hx1 := hx0.out.below hB
      have k1' : w1.cell? ⟨gb, go, none⟩ = some (.int .i64 (p : Int)) := hx1.cellN (i := 0) (by omega)
      have hM1 := Lib.hid (hM0.out.below hB)
      have hg1 := Lib.hid (hg0.out.trans (grown_below hB (some mb)))
      have hs1 : w.heap.size < w1.heap.size := Nat.lt_of_lt_of_le hsz0 hB.size
      replace e1 := Lib.hid e1; replace hx1 := Lib.hid hx1
      clear hB HE k1 hx
      go_upto_region 4 with fail
      go_cut [25, 26, 27] (fun v25 v26 v27 wx => ∃ q2 c2, v25 = .slice q2 (gmoved [a, b, c, d, e, f] p).length c2 ∧ v26 = .int .i64 (gmoved [a, b, c, d, e, f] p).length ∧ v27 = .int .i64 0 ∧ OwnC 40 6 w1.heap.size wx q2 (gmoved [a, b, c, d, e, f] p).length c2 (hflat (gmoved [a, b, c, d, e, f] p)) ∧ Below w1.heap.size w1 wx)
      case first =>
        go_region_law (go_simp; refine (HV.out _).mono ?_; rintro r w2 ⟨q2, n2, c2, rfl, rfl, hO2, hB2⟩; replace hO2 := Lib.hid hO2; replace hB2 := Lib.hid hB2)
        all_goals
          go_wp2_with fail
          go_meet
          exact ⟨q2, c2, rfl, rfl, rfl, hO2.out, ⟨hB2.out.os, hB2.out.tape, hB2.out.output, hB2.out.size, hB2.out.block⟩⟩
      case rest =>
        obtain ⟨q2, c2, rfl, rfl, rfl, hO2, hB2⟩ := hcut
        have hMc := Lib.hid (hM1.out.below hB2)
        have hgc := Lib.hid (hg1.out.trans (grown_below hB2 (some mb)))
        have hxc := Lib.hid (hx1.out.below hB2)
        have hmw1 : mb < w1.heap.size := hM1.out.lt
        have hgb1 : gb < wc.heap.size := Nat.lt_of_lt_of_le hgb (Nat.le_trans (Nat.le_of_lt hs1) (Nat.le_trans (Nat.le_refl _) hB2.size))
        have hLp : Hid (∀ x ∈ gmoved [a, b, c, d, e, f] p, gst x ∧ gpips x < t) := fun x hx => ⟨(hlw.out.2 x hx).1, Nat.lt_of_lt_of_le (hlw.out.2 x hx).2 hpt.out⟩
        rw [← hlh.out] at hgo ⊢
        rw [← hlh.out] at hO2 hLp hlw
        have hLm := gmoved_len l p
        generalize gmoved l p = L at *
        have hL0 : 0 < L.length := by have := hlw.out.1; omega
        have hL6 : Hid (∀ y ∈ L, y.length = 6) := fun y hy => (hLp.out y hy).1.1
        have hBd : Hid (∀ i, i ≤ L.length → -1 ≤ gfold ps L i ∧ gfold ps L i ≤ 1099511627776 ∧ (0 < i → 0 ≤ gfold ps L i)) := gfold_bd fun x hx => gbest_bd ps x (hLp.out x hx).1 (fun q hq => hps.out q (by simp [hq]))
        obtain ⟨g2, rfl, hg2, hg2', _⟩ := hO2.where hL0
        have hg2m : g2 ≠ mb := by omega
        clear hB2 hM1 hg1 hx1 d1 d2 d3 d4 d5 d6 k1' e1 HV
        replace hO2 := Lib.hid hO2
        go_wp2_with fail
        go_loopg [7, 27] L.length (fun gk v7 v27 W' => ∃ i : Nat, i ≤ L.length ∧ gk = L.length - i ∧ v7 = .int .i64 (gfold ps L i) ∧ v27 = .int .i64 i ∧ MapOk W' mb ∧ wc.grownBy W' (some mb))
        case atStart => exact ⟨0, by omega, by omega, rfl, rfl, hMc.out, ⟨rfl, rfl, rfl, Nat.le_refl _, fun _ _ _ => rfl⟩⟩
        case round =>
          obtain ⟨i, hi, hgk, rfl, rfl, hMr, hgr⟩ := hrel
          obtain ⟨W2, rfl⟩ : ∃ W2 : World, W2 = wr := ⟨_, rfl⟩
          replace hgk := Lib.hid hgk
          by_cases hlt : i < L.length
          · have hxm := List.getElem_mem hlt
            obtain ⟨hxs, hxp⟩ := hLp.out _ hxm
            have hfs := Lib.hid (gfold_succ ps L i hlt)
            have hat := fun j hj => hflat_at L i j _ hL6.out (List.getElem?_eq_getElem hlt) hj
            have hgbd := gbest_bd ps _ hxs (fun q hq => hps.out q (by simp [hq]))
            have hbd := hBd.out i hi
            obtain ⟨x, hx⟩ : ∃ x, x = L[i] := ⟨_, rfl⟩
            rw [← hx] at hxs hxp hfs hat hgbd
            obtain ⟨a1, b1, c1, d1, e1, f1, h1⟩ := six hxs.1
            have hOr : OwnC 40 6 w1.heap.size W2 (some ⟨g2, 0, none⟩) L.length c2 (hflat L) := hO2.out.grown hgr (fun y hy => by cases hy; simp; exact hg2m)
            have j0 : W2.cell? ⟨g2, i * 6, none⟩ = some (.int .i64 (a1 : Int)) := by rw [hOr.cell (by omega)]; have := hat 0 (by omega); rw [h1] at this; exact this
            have j1 : W2.cell? ⟨g2, i * 6 + 1, none⟩ = some (.int .i64 (b1 : Int)) := by rw [hOr.cell (by omega)]; have := hat 1 (by omega); rw [h1] at this; exact this
            have j2 : W2.cell? ⟨g2, i * 6 + 2, none⟩ = some (.int .i64 (c1 : Int)) := by rw [hOr.cell (by omega)]; have := hat 2 (by omega); rw [h1] at this; exact this
            have j3 : W2.cell? ⟨g2, i * 6 + 3, none⟩ = some (.int .i64 (d1 : Int)) := by rw [hOr.cell (by omega)]; have := hat 3 (by omega); rw [h1] at this; exact this
            have j4 : W2.cell? ⟨g2, i * 6 + 4, none⟩ = some (.int .i64 (e1 : Int)) := by rw [hOr.cell (by omega)]; have := hat 4 (by omega); rw [h1] at this; exact this
            have j5 : W2.cell? ⟨g2, i * 6 + 5, none⟩ = some (.int .i64 (f1 : Int)) := by rw [hOr.cell (by omega)]; have := hat 5 (by omega); rw [h1] at this; exact this
            clear hat hxm hOr
            replace hx := Lib.hid hx; replace h1 := Lib.hid h1; replace hxs := Lib.hid hxs; replace hxp := Lib.hid hxp; replace hMr := Lib.hid hMr; replace hgr := Lib.hid hgr
            have m0 : (W2.alloc (.cells #[.int .i64 (a1 : Int), .int .i64 (b1 : Int), .int .i64 (c1 : Int), .int .i64 (d1 : Int), .int .i64 (e1 : Int), .int .i64 (f1 : Int)] 40)).cell? ⟨W2.heap.size, 0, none⟩ = some (.int .i64 (a1 : Int)) := wcell (cs := [_, _, _, _, _, _]) (heap_alloc_new W2 _) 0
            have m1 : (W2.alloc (.cells #[.int .i64 (a1 : Int), .int .i64 (b1 : Int), .int .i64 (c1 : Int), .int .i64 (d1 : Int), .int .i64 (e1 : Int), .int .i64 (f1 : Int)] 40)).cell? ⟨W2.heap.size, 1, none⟩ = some (.int .i64 (b1 : Int)) := wcell (cs := [_, _, _, _, _, _]) (heap_alloc_new W2 _) 1
            have m2 : (W2.alloc (.cells #[.int .i64 (a1 : Int), .int .i64 (b1 : Int), .int .i64 (c1 : Int), .int .i64 (d1 : Int), .int .i64 (e1 : Int), .int .i64 (f1 : Int)] 40)).cell? ⟨W2.heap.size, 2, none⟩ = some (.int .i64 (c1 : Int)) := wcell (cs := [_, _, _, _, _, _]) (heap_alloc_new W2 _) 2
            have m3 : (W2.alloc (.cells #[.int .i64 (a1 : Int), .int .i64 (b1 : Int), .int .i64 (c1 : Int), .int .i64 (d1 : Int), .int .i64 (e1 : Int), .int .i64 (f1 : Int)] 40)).cell? ⟨W2.heap.size, 3, none⟩ = some (.int .i64 (d1 : Int)) := wcell (cs := [_, _, _, _, _, _]) (heap_alloc_new W2 _) 3
            have m4 : (W2.alloc (.cells #[.int .i64 (a1 : Int), .int .i64 (b1 : Int), .int .i64 (c1 : Int), .int .i64 (d1 : Int), .int .i64 (e1 : Int), .int .i64 (f1 : Int)] 40)).cell? ⟨W2.heap.size, 4, none⟩ = some (.int .i64 (e1 : Int)) := wcell (cs := [_, _, _, _, _, _]) (heap_alloc_new W2 _) 4
            have m5 : (W2.alloc (.cells #[.int .i64 (a1 : Int), .int .i64 (b1 : Int), .int .i64 (c1 : Int), .int .i64 (d1 : Int), .int .i64 (e1 : Int), .int .i64 (f1 : Int)] 40)).cell? ⟨W2.heap.size, 5, none⟩ = some (.int .i64 (f1 : Int)) := wcell (cs := [_, _, _, _, _, _]) (heap_alloc_new W2 _) 5
            have hM3 := Lib.hid (hMr.out.alloc (.cells #[.int .i64 (a1 : Int), .int .i64 (b1 : Int), .int .i64 (c1 : Int), .int .i64 (d1 : Int), .int .i64 (e1 : Int), .int .i64 (f1 : Int)] 40))
            have hg3 := Lib.hid (World.grownBy_alloc W2 (.cells #[.int .i64 (a1 : Int), .int .i64 (b1 : Int), .int .i64 (c1 : Int), .int .i64 (d1 : Int), .int .i64 (e1 : Int), .int .i64 (f1 : Int)] 40) (some mb))
            have hx3 := (ints_grown hxc.out hMc.out hgr.out).alloc (.cells #[.int .i64 (a1 : Int), .int .i64 (b1 : Int), .int .i64 (c1 : Int), .int .i64 (d1 : Int), .int .i64 (e1 : Int), .int .i64 (f1 : Int)] 40)
            have hps' : asI (p :: ps) = (p : Int) :: asI ps := rfl
            have hlen : (asI (p :: ps)).length = n := hx3.len
            have IH := Lib.hid (fun (q : Option Addr) (W : World) hM hx => ih a1 b1 c1 d1 e1 f1 mb (n - 1) q W (fun y hy => hps.out y (by simp [hy])) (by have := hn.out; omega) (by omega) (by have := hxs.out.2; rw [h1.out] at this; simp only [List.sum_cons, List.sum_nil] at this; omega) (.inl (by rw [← h1.out]; exact hxp.out)) hM hx)
            rw [← h1.out] at IH
            generalize hgx : gbest ps x = N at *
            go_upto_region 7 with fail
            generalize W2.alloc (.cells #[.int .i64 (a1 : Int), .int .i64 (b1 : Int), .int .i64 (c1 : Int), .int .i64 (d1 : Int), .int .i64 (e1 : Int), .int .i64 (f1 : Int)] 40) = W3 at *
            go_cut [10] (fun v10 wx => v10 = .int .i64 N ∧ MapOk wx mb ∧ W2.grownBy wx (some mb))
            case first =>
              by_cases hn1 : n = 1
              · subst hn1
                have hpe : ps = [] := List.length_eq_zero_iff.1 (by have := hn.out; omega)
                have IH1 : Hid (∀ (q : Option Addr) (W : World), MapOk W mb → Calls Try.prog 25 #[.map (some mb), H6 a1 b1 c1 d1 e1 f1, .slice q 0 0] W fun r w' => r = .returned (.int .i64 N) ∧ MapOk w' mb ∧ W.grownBy w' (some mb)) := fun q W hM => IH.out q W hM (by rw [hpe]; exact IntsIn.nil _ _)
                clear hx3 hps' hlen IH hpe
                go_wp2_with fail
                go_region_law (go_simp; refine (IH1.out _ _ ?_).mono ?_; (exact hM3.out); rintro r w4 ⟨rfl, hM4, hg4⟩; replace hM4 := Lib.hid hM4; replace hg4 := Lib.hid hg4)
                all_goals
                  go_wp2_with fail
                  go_meet
                  exact ⟨rfl, hM4.out, hg3.out.trans ⟨hg4.out.os, hg4.out.tape, hg4.out.output, hg4.out.size, hg4.out.block⟩⟩
              · have hxs3 : Hid (IntsIn W3 (some ⟨gb, go + 1, none⟩) (n - 1) (asI ps)) := by
                  have := hx3.part 1 n (by omega) (Nat.le_refl _) (some ⟨gb, go + 1, none⟩) (fun _ => rfl)
                  rw [List.take_of_length_le (by omega), hps', List.drop_one, List.tail_cons] at this
                  exact Lib.hid this
                have hz1 : (1 : Int) ≤ (n : Int) := by omega
                have hz2 : (n : Int) - 1 = ((n - 1 : Nat) : Int) := by omega
                go_wp2_with fail
                go_region_law (go_simp; refine (IH.out _ _ ?_ ?_).mono ?_; (exact hM3.out); (exact hxs3.out); rintro r w4 ⟨rfl, hM4, hg4⟩; replace hM4 := Lib.hid hM4; replace hg4 := Lib.hid hg4)
                all_goals
                  go_wp2_with fail
                  go_meet
                  exact ⟨rfl, hM4.out, hg3.out.trans ⟨hg4.out.os, hg4.out.tape, hg4.out.output, hg4.out.size, hg4.out.block⟩⟩
            case rest =>
              obtain ⟨rfl, hM5, hg5⟩ := hcut
              replace hM5 := Lib.hid hM5; replace hg5 := Lib.hid hg5
              clear m0 m1 m2 m3 m4 m5 j0 j1 j2 j3 j4 j5 hx3 hps' hlen IH hM3 hg3
              generalize hgB : gfold ps L i = B at *
              by_cases hb0 : B < 0
              · have hgl : gless B N = N := by unfold gless; rw [if_pos (.inl hb0)]
                go_wp2_with fail
                have hgk := hgk.out
                go_roundg (L.length - (i + 1))
                case measure => omega
                case rel => exact ⟨i + 1, by omega, rfl, by rw [hfs.out, hgl], by go_num, hM5.out, hgr.out.trans hg5.out⟩
              · by_cases hb1 : N < B
                · have hgl : gless B N = N := by unfold gless; rw [if_pos (.inr hb1)]
                  go_wp2_with fail
                  have hgk := hgk.out
                  go_roundg (L.length - (i + 1))
                  case measure => omega
                  case rel => exact ⟨i + 1, by omega, rfl, by rw [hfs.out, hgl], by go_num, hM5.out, hgr.out.trans hg5.out⟩
                · have hgl : gless B N = B := by unfold gless; rw [if_neg (by omega)]
                  go_wp2_with fail
                  have hgk := hgk.out
                  go_roundg (L.length - (i + 1))
                  case measure => omega
                  case rel => exact ⟨i + 1, by omega, rfl, by rw [hfs.out, hgl], by go_num, hM5.out, hgr.out.trans hg5.out⟩
          · obtain rfl : i = L.length := by omega
            have hgg := Lib.hid (hgc.out.trans hgr)
            replace hMr := Lib.hid hMr
            clear hgr
            go_wp2_with fail
            go_ret
            exact ⟨by rw [← hlh.out, hgo.out]; rfl, hMr.out, hgg.out⟩
end Go.Proofs.Ytgbollodgeemlaa
