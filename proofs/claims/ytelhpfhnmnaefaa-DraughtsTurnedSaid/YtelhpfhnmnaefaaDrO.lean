/- What Moves, count and Count compute; no condition for Moves; counting: all boards on the way are boards. -/
import Derived.Test.YtelhpfhnmnaefaaDrY
namespace Go.Proofs.Ytelhpfhnmnaefaa
open Go.RowKit

theorem Ch.belowN {pb n : Nat} {q : Option Addr} {W W' W2 : World} (h0 : Below n W W') (h : Ch pb none q W' W2) (hpb : n ≤ pb) (hn : n ≤ W.heap.size) : Below n W W2 :=
  h0.trans ⟨h.os, h.tape, h.output, h.size, fun k hk => h.block k (Nat.lt_of_lt_of_le hk (Nat.le_trans hn h0.size)) (by omega) (by simp)⟩
theorem newPlayI (p : Option Addr) (c : Nat) (t : Int) (ht : t = 1 ∨ t = 2) (b : List Int) (W : World) (hx : IntsIn W p 33 b) (hv : ∀ i : Nat, -2 ≤ b[i]?.getD 0 ∧ b[i]?.getD 0 ≤ 2) :
    Calls Try.prog 10 #[.agg #[.slice p 33 c, .int .i64 t]] W fun e W' => ∃ pb g cb, e = .returned (.pointer (some ⟨pb, 0, none⟩)) ∧ Py pb g cb W'.heap.size b (3 - 2 * t) none 0 [] W' ∧ (∀ i, W'.frozen? ⟨g, i, none⟩ = false) ∧ W.heap.size ≤ g ∧ W.heap.size ≤ pb ∧ Below W.heap.size W W' := by
  rcases ht with rfl | rfl
  · exact newPlay_any p c 1 (.inl rfl) b W hx hv
  · exact newPlay_any p c 2 (.inr rfl) b W hx hv
theorem ins_len (x : List Nat) : ∀ l, (insL x l).length ≤ l.length + 1
  | [] => by simp [insL]
  | y :: r => by
    have := ins_len x r
    unfold insL
    split
    · simp
    · split
      · simp
      · simp; omega
theorem canon_len : ∀ l, (canonL l).length ≤ l.length
  | [] => by simp [canonL]
  | x :: l => by
    have := canon_len l
    have := ins_len x (canonL l)
    show (insL x (canonL l)).length ≤ _
    simp; omega
theorem ways_len {b : List Int} {s : Int} {R : List (List Nat)} (h : Ways b s R) : R.length ≤ 3000000000 := by
  rw [ways_canon h]
  refine Nat.le_trans (canon_len _) ?_
  have h1 := flat_le places fun x _ => leaps_len b s x
  have h2 := flat_le places fun x _ => steps_len b s x
  have h3 : places.length = 32 := rfl
  rw [h3] at h1 h2
  obtain ⟨L1, hL1⟩ : ∃ L1, places.flatMap (leapsS b s) = L1 := ⟨_, rfl⟩
  obtain ⟨L2, hL2⟩ : ∃ L2, places.flatMap (stepsS b s) = L2 := ⟨_, rfl⟩
  have e : outS b s = if L1.isEmpty then L2 else L1 := by unfold outS; simp only [hL1, hL2]
  have h1' : L1.length ≤ 2147483648 := by rw [← hL1]; exact h1
  have h2' : L2.length ≤ 128 := by rw [← hL2]; exact h2
  rw [e]
  clear h1 h2 e hL1 hL2
  split <;> omega
theorem side_of {t : Int} (ht : t = 1 ∨ t = 2) : 3 - 2 * t = 1 ∨ 3 - 2 * t = -1 := by omega

set_option maxHeartbeats 4000000 in
theorem Moves_any (p : Option Addr) (n c : Nat) (t : Int) (b : List Int) (W : World) (hx : IntsIn W p n b) :
    Calls Try.prog 6 #[.agg #[.slice p n c, .int .i64 t]] W fun e W' => (mayB b t = false → e = .returned (.tuple #[.slice none 0 0, .int .i64 12])) ∧ (mayB b t = true → ∃ R q cc, e = .returned (.tuple #[.slice q R.length cc, .int .i64 0]) ∧ Ways b (3 - 2 * t) R ∧ WaysIn W' q R) ∧ Below W.heap.size W W' := by
  obtain ⟨W1, hW1⟩ : ∃ W1, W1 = W.alloc (.cells #[.slice p n c, .int .i64 t] 24) := ⟨_, rfl⟩
  have hB1 : Below W.heap.size W W1 := by rw [hW1]; exact bel_refl_alloc _ _
  have hbx : W1.heap[W.heap.size]? = some (.cells #[.slice p n c, .int .i64 t] 24 (0, 0)) := by rw [hW1]; exact heap_alloc_new _ _
  have a0 := wcell (cs := [_, _]) hbx 0
  have a1 := wcell (cs := [_, _]) hbx 1
  have hx1 : IntsIn W1 p n b := hx.below hB1
  have hM := may_any p n c t b W1 hx1
  obtain ⟨r, hr⟩ : ∃ r, mayB b t = r := ⟨_, rfl⟩
  rw [hr] at hM ⊢
  have h0 : ∀ X, Below W1.heap.size W1 X → X.cell? ⟨W.heap.size, 0, none⟩ = some (.slice p n c) := fun X h => wcell (cs := [_, _]) ((h.block _ (lt_of_heap hbx)).trans hbx) 0
  have h1 : ∀ X, Below W1.heap.size W1 X → X.cell? ⟨W.heap.size, 1, none⟩ = some (.int .i64 t) := fun X h => wcell (cs := [_, _]) ((h.block _ (lt_of_heap hbx)).trans hbx) 1
  rw [hW1] at a0 a1 hM
  replace hM := Lib.hid hM; replace hbx := Lib.hid hbx; replace hB1 := Lib.hid hB1; replace hx := Lib.hid hx; replace hx1 := Lib.hid hx1; replace hW1 := Lib.hid hW1; replace h0 := Lib.hid h0; replace h1 := Lib.hid h1
  cases r with
  | false =>
    go_enter Try.func6, Try.ntmps6
    go_wp2_with fail
    refine hM.out.mono ?_
    rintro e w2 ⟨rfl, hB2⟩
    rw [← hW1.out] at hB2
    replace hB2 := Lib.hid hB2
    go_wp2_with fail
    go_ret2
    exact ⟨fun _ => rfl, (fun h => by cases h), hB1.out.trans (hB2.out.mono hB1.out.size)⟩
  | true =>
    have hok := (may_iff b t).1 hr
    have hn := hx.out.len
    rw [hok.len] at hn
    subst hn
    replace hok := Lib.hid hok
    replace hr := Lib.hid hr
    go_enter Try.func6, Try.ntmps6
    go_wp2_with fail
    refine hM.out.mono ?_
    rintro e w2 ⟨rfl, hB2⟩
    rw [← hW1.out] at hB2
    have b0 := h0.out w2 hB2
    have b1 := h1.out w2 hB2
    have hB2' := hB1.out.trans (hB2.mono hB1.out.size)
    have HN := Lib.hid (newPlayI p c t hok.out.turn b w2 (hx1.out.below hB2) hok.out.val)
    replace hB2 := Lib.hid hB2; replace hB2' := Lib.hid hB2'
    go_wp2_with fail
    refine HN.out.mono ?_
    rintro e w3 ⟨pb, g, cb, rfl, hPy, hfz, hg, hpb, hB3⟩
    have HV := Lib.hid (moves_any pb g cb _ 0 b _ w3 hPy (E_may hok.out.up hok.out.dn (side_of hok.out.turn)))
    replace hPy := Lib.hid hPy; replace hfz := Lib.hid hfz; replace hB3 := Lib.hid hB3
    go_wp2_with fail
    refine HV.out.mono ?_
    rintro e w4 ⟨R, q, cc, rfl, hR, hI, hCh, _⟩
    replace hR := Lib.hid hR; replace hI := Lib.hid hI; replace hCh := Lib.hid hCh
    go_wp2_with fail
    go_ret2
    exact ⟨(fun h => by cases h), fun _ => ⟨R, q, cc, rfl, hR.out, hI.out⟩, hB2'.out.trans ((hCh.out.belowN hB3.out hpb (Nat.le_refl _)).mono hB2'.out.size)⟩

set_option maxRecDepth 20000 in
set_option maxHeartbeats 8000000 in
theorem count_any : ∀ (k : Nat), k ≤ 6 → ∀ (p : Option Addr) (c : Nat) (t : Int) (b : List Int) (W : World), IntsIn W p 33 b → (t = 1 ∨ t = 2) → chkS k b (3 - 2 * t) = true → cntS k b (3 - 2 * t) ≤ 1000000 →
    Calls Try.prog 9 #[.agg #[.slice p 33 c, .int .i64 t], .int .i64 k] W fun e W' => e = .returned (.int .i64 (cntS k b (3 - 2 * t) : Nat)) ∧ Below W.heap.size W W'
  | 0, _, p, c, t, b, W, _, _, _, _ => by
    have hB1 : Hid (Below W.heap.size W (W.alloc (.cells #[.slice p 33 c, .int .i64 t] 24))) := bel_refl_alloc _ _
    have e : Hid (cntS 0 b (3 - 2 * t) = 1) := rfl
    go_enter Try.func9, Try.ntmps9
    go_wp2_with fail
    go_ret
    exact ⟨by rw [e.out]; rfl, hB1.out⟩
  | k + 1, hk, p, c, t, b, W, hx, ht, hchk, hcn => by
    have hrec := count_any k (by omega)
    obtain ⟨hob, hchk2⟩ := chk_succ hchk
    obtain ⟨hbl, hv, hE⟩ := okB_E hob
    obtain ⟨s, hs⟩ : ∃ s, 3 - 2 * t = s := ⟨_, rfl⟩
    have hs1 : s = 1 ∨ s = -1 := by rw [← hs]; exact side_of ht
    have ht3 : 3 - 2 * (3 - t) = -s := by omega
    obtain ⟨W1, hW1⟩ : ∃ W1, W1 = W.alloc (.cells #[.slice p 33 c, .int .i64 t] 24) := ⟨_, rfl⟩
    have hB1 : Below W.heap.size W W1 := by rw [hW1]; exact bel_refl_alloc _ _
    have hbx : W1.heap[W.heap.size]? = some (.cells #[.slice p 33 c, .int .i64 t] 24 (0, 0)) := by rw [hW1]; exact heap_alloc_new _ _
    have a0 := wcell (cs := [_, _]) hbx 0
    have a1 := wcell (cs := [_, _]) hbx 1
    have hx1 : IntsIn W1 p 33 b := hx.below hB1
    have h0 : ∀ X, Below W1.heap.size W1 X → X.cell? ⟨W.heap.size, 0, none⟩ = some (.slice p 33 c) := fun X h => wcell (cs := [_, _]) ((h.block _ (lt_of_heap hbx)).trans hbx) 0
    have h1 : ∀ X, Below W1.heap.size W1 X → X.cell? ⟨W.heap.size, 1, none⟩ = some (.int .i64 t) := fun X h => wcell (cs := [_, _]) ((h.block _ (lt_of_heap hbx)).trans hbx) 1
    have HN := newPlayI p c t ht b W1 hx1 hv
    rw [hW1] at a0 a1 HN
    rw [hs] at hchk hchk2 hcn HN ⊢
    have k0 : ((k : Int) + 1 == 0) = false := by simp; omega
    have k1 : ((k : Int) + 1) - 1 = (k : Int) := by omega
    have k2 : IntKind.i64.wrap (k : Int) = (k : Int) := IntWalk.i64_in _ (by omega)
    have t3 : IntKind.i64.wrap (3 - t) = 3 - t := IntWalk.i64_in _ (by omega)
    obtain ⟨T, hT⟩ : ∃ T, cntS (k + 1) b s = T := ⟨_, rfl⟩
    rw [hT] at hcn ⊢
    replace hrec := Lib.hid hrec; replace hob := Lib.hid hob; replace hchk := Lib.hid hchk; replace hchk2 := Lib.hid hchk2; replace hE := Lib.hid hE; replace hv := Lib.hid hv; replace hs := Lib.hid hs; replace hs1 := Lib.hid hs1; replace ht3 := Lib.hid ht3; replace hT := Lib.hid hT; replace ht := Lib.hid ht
    replace HN := Lib.hid HN; replace hbx := Lib.hid hbx; replace hB1 := Lib.hid hB1; replace hx := Lib.hid hx; replace hx1 := Lib.hid hx1; replace hW1 := Lib.hid hW1; replace h0 := Lib.hid h0; replace h1 := Lib.hid h1
    go_enter Try.func9, Try.ntmps9
    go_wp2_with fail
    refine HN.out.mono ?_
    rintro e w2 ⟨pb, g, cb, rfl, hPy, hfz, hg, hpb, hB2⟩
    rw [← hW1.out] at hB2 hg hpb
    have HV := Lib.hid (moves_any pb g cb _ 0 b _ w2 hPy (hE.out s hs1.out))
    replace hPy := Lib.hid hPy; replace hfz := Lib.hid hfz; replace hB2 := Lib.hid hB2
    go_wp2_with fail
    refine HV.out.mono ?_
    rintro e w3 ⟨R, q, cc, rfl, hR, hI, hCh, _⟩
    have hB3 : Below W1.heap.size W1 w3 := hCh.belowN hB2.out hpb (Nat.le_refl _)
    replace hR := Lib.hid hR; replace hI := Lib.hid hI; replace hCh := Lib.hid hCh; replace hB3 := Lib.hid hB3
    go_wp2_with fail
    go_loopg [5, 15] R.length (fun gk sv iv W' => ∃ i : Nat, i ≤ R.length ∧ gk = R.length - i ∧ iv = .int .i64 i ∧ sv = .int .i64 (part k b s R i : Nat) ∧ Below w3.heap.size w3 W')
    case atStart => exact ⟨0, by omega, by omega, rfl, rfl, Below.refl _ _⟩
    case round =>
      obtain ⟨i, hi, hgk, rfl, rfl, hB4⟩ := hrel
      obtain ⟨W3, rfl⟩ : ∃ W3 : World, W3 = wr := ⟨_, rfl⟩
      replace hgk := Lib.hid hgk
      have hRl := ways_len hR.out
      have hple := part_le k b s R i hi
      rw [part_all hR.out, hT.out] at hple
      have hB34 : Below W1.heap.size W1 W3 := hB3.out.trans (hB4.mono hB3.out.size)
      by_cases hlt : i < R.length
      · have hki : (i : Int) < R.length := by omega
        have hi0 : (0 : Int) ≤ (i : Int) := by omega
        have hmem : R[i] ∈ outS b s := (hR.out.mem _).1 (List.getElem_mem hlt)
        have hwl := out_way hmem
        have hib : InB R[i] := out_in hmem
        have hps := part_succ k b s R hlt
        have hpl2 := part_le k b s R (i + 1) hlt
        rw [part_all hR.out, hT.out] at hpl2
        have hch := hchk2.out R[i] ((canon_mem _ _).2 hmem)
        obtain ⟨gq, pw, m, cw, hq, hgl, hcell, hway⟩ := hI.out i _ (List.getElem?_eq_getElem hlt)
        subst hq
        have hc3 : W3.cell? ⟨gq, i, none⟩ = some (.slice pw m cw) := (hB4.cell (p := ⟨gq, i, none⟩) hgl).trans hcell
        have hm : m = R[i].length := by have := hway.len; rw [asI_len] at this; exact this.symm
        have hway3 : IntsIn W3 pw m (asI R[i]) := hway.below hB4
        have b0 := h0.out W3 hB34
        have b1 := h1.out W3 hB34
        have HN2 := Lib.hid (newPlayI p c t ht.out b W3 (hx1.out.below hB34) hv.out)
        rw [hs.out] at HN2
        generalize R[i] = way at *
        generalize part k b s R i = X at *
        obtain ⟨X2, hX2⟩ : ∃ X2, part k b s R (i + 1) = X2 := ⟨_, rfl⟩
        rw [hX2] at hps hpl2
        replace hX2 := Lib.hid hX2
        replace hway := Lib.hid hway; replace hway3 := Lib.hid hway3; replace hm := Lib.hid hm; replace hwl := Lib.hid hwl; replace hib := Lib.hid hib; replace hmem := Lib.hid hmem; replace hch := Lib.hid hch; replace hcell := Lib.hid hcell
        replace hps := Lib.hid hps; replace hpl2 := Lib.hid hpl2; replace hB4 := Lib.hid hB4; replace hB34 := Lib.hid hB34; replace hgl := Lib.hid hgl
        go_wp2_with fail
        refine HN2.out.mono ?_
        rintro e w5 ⟨pb2, g2, cb2, rfl, hPy2, hfz2, hg2, hpb2, hB5⟩
        have hPd : Pd pb2 g2 cb2 s b w5 := ⟨⟨none, 0, 0, hPy2.hd⟩, hPy2.bd, hfz2, hPy2.ne.2.2⟩
        have HD := Lib.hid (do_any pb2 g2 cb2 s b w5 hs1.out hPd way pw m cw (hway3.out.below hB5) (by have := hm.out; have := hwl.out; omega) (by have := hm.out; have := hwl.out; omega) hib.out (fun a ha => by
          obtain ⟨b', o', he, hlt', _⟩ := hway3.out.at (by have := hm.out; have := hwl.out; omega)
          rw [he] at ha; cases ha; simp only; omega))
        replace hPy2 := Lib.hid hPy2; replace hfz2 := Lib.hid hfz2; replace hB5 := Lib.hid hB5; replace hPd := Lib.hid hPd
        clear HN2 b0 b1 hc3
        go_wp2_with fail
        refine HD.out.mono ?_
        rintro e w6 ⟨rfl, hP6, hO6⟩
        have hB6 : Below W3.heap.size W3 w6 := hB5.out.trans ⟨hO6.os, hO6.tape, hO6.output, hO6.size, fun j hj => hO6.block j (Nat.lt_of_lt_of_le hj hB5.out.size) (by omega)⟩
        have hB16 : Below W1.heap.size W1 w6 := hB34.out.trans (hB6.mono hB34.out.size)
        have c0 := hP6.c0
        have b1 := h1.out w6 hB16
        have HC := hrec.out (some ⟨g2, 0, none⟩) cb2 (3 - t) (doS b s way) w6.drew (hP6.drew.bd) (by have := ht.out; omega) (by rw [ht3.out]; exact hch.out) (by rw [ht3.out]; have := hps.out; have := hpl2.out; omega)
        rw [ht3.out] at HC
        replace HC := Lib.hid HC
        generalize cntS k (doS b s way) (-s) = Y at *
        have w1 : IntKind.i64.wrap ((X : Int) + (Y : Int)) = (X : Int) + (Y : Int) := IntWalk.i64_in _ (by have := hps.out; have := hpl2.out; omega)
        clear HD
        replace hP6 := Lib.hid hP6; replace hO6 := Lib.hid hO6; replace hB6 := Lib.hid hB6; replace hB16 := Lib.hid hB16
        go_wp2_with fail
        go_region_law (go_simp; go_at_call 9; ((with_reducible refine HC.out.mono ?_); rintro e w7 ⟨rfl, hB7⟩; have hB7' : Below w6.heap.size w6 w7 := ((Below.refl _ _).drew.trans hB7); replace hB7 := Lib.hid hB7; replace hB7' := Lib.hid hB7'))
        all_goals
          have hfin : Hid (Below w3.heap.size w3 w7) := hB4.out.trans ((hB6.out.trans (hB7'.out.mono hB6.out.size)).mono hB4.out.size)
          go_wp2_with fail
          have hgk := hgk.out
          go_roundg (R.length - (i + 1))
          case measure => omega
          case rel => exact ⟨i + 1, hlt, rfl, by go_num, by rw [hX2.out, hps.out]; simp, hfin.out⟩
      · have hki : ¬ (i : Int) < R.length := by omega
        have hie : i = R.length := by omega
        have hT2 : Hid (part k b s R i = T) := by show _ = _; rw [hie, part_all hR.out, hT.out]
        replace hB4 := Lib.hid hB4; replace hB34 := Lib.hid hB34; replace hie := Lib.hid hie
        go_wp2_with fail
        go_ret
        exact ⟨by rw [hT2.out]; rfl, hB1.out.trans (hB34.out.mono hB1.out.size)⟩
end Go.Proofs.Ytelhpfhnmnaefaa
