/- What gameroomkeep.StonesAlive returns: true; conditions: ints of 64 bits. -/
import Derived.Test.YtefjliblaeadfaaAlE
import Derived.Test.YtefjliblaeadfaaOut3
import Derived.Deep.DeepCutAuto
namespace Go.Proofs.Ytefjliblaeadfaa
open Go.RowKit

theorem cdr {w : World} {p : Addr} {v : Value} (h : w.cell? p = some v) : w.drew.cell? p = some v := h
theorem cal {w : World} {g i : Nat} {v : Value} {o : Obj} (h : w.cell? ⟨g, i, none⟩ = some v) : (w.alloc o).cell? ⟨g, i, none⟩ = some v := (((Below.refl _ _).alloc (Nat.le_refl _) o : Below w.heap.size w _).cell (p := ⟨g, i, none⟩) (World.block_lt_of_cell? _ _ h)).trans h
theorem alN_le {gs : List Pt} {u : List Bool} {n : Nat} : ∀ k, (∀ i, i < k → (pAt gs i).1.length ≤ n) → (alN gs u k).length ≤ k * n := by
  intro k
  induction k with
  | zero => intro _; simp [alN]
  | succ k ih =>
    intro h
    have h1 := ih (fun i hi => h i (by omega))
    have h2 := h k (by omega)
    rw [alN_succ, List.length_append, Nat.add_mul, Nat.one_mul]
    split
    · simp; omega
    · omega
theorem putS_err2 (s : List Nat) (a who p : Nat) : (putS s a who p).2.2 = 0 ∨ (putS s a who p).2.2 = 6 ∨ (putS s a who p).2.2 = 8 := by
  unfold putS
  split
  · simp
  · split <;> simp
set_option maxHeartbeats 8000000 in
set_option maxRecDepth 100000 in
theorem alive_law (A H who0 : Int) (q : Option Addr) (n c : Nat) (xs : List Int) (lp : Option Addr) (len lcap : Nat) (l : List Int) (w : World) (hW1 : -9223372036854775808 ≤ A) (hW2 : A ≤ 9223372036854775807) (hH1 : -9223372036854775808 ≤ H) (hH2 : H ≤ 9223372036854775807) (x1 : -9223372036854775808 ≤ who0) (x2 : who0 ≤ 9223372036854775807) (hn : n ≤ 9223372036854775807)
    (hx : IntsIn w q n xs) (hm : len ≤ 9223372036854775807) (hl : IntsIn w lp len l) (hb : ∀ j, j < len → -9223372036854775808 ≤ l[j]?.getD 0 ∧ l[j]?.getD 0 ≤ 9223372036854775807) :
    Calls Try.prog 5 #[.agg #[.int .i64 A, .int .i64 H, .slice q n c], .int .i64 who0, .slice lp len lcap] w fun e w' => e = .returned (.bool true) ∧ Below w.heap.size w w' := by
  obtain ⟨W0, hW0⟩ : ∃ W0, W0 = w.alloc (.cells #[.int .i64 A, .int .i64 H, .slice q n c] 24) := ⟨_, rfl⟩
  have e0 := heap_alloc_new w (.cells #[.int .i64 A, .int .i64 H, .slice q n c] 24)
  have hB0 : Below w.heap.size w (w.alloc (.cells #[.int .i64 A, .int .i64 H, .slice q n c] 24)) := (Below.refl _ _).alloc (Nat.le_refl _) _
  rw [← hW0] at e0 hB0
  have P0 := Lib.hid (fun W => picked_any who0 2 W x1 x2 (by omega) (by omega) 2 (Lib.hid rfl))
  have q0 := pick_lt who0 2 (by omega)
  generalize pick who0 2 = r0 at *
  obtain ⟨wh, hwh⟩ : ∃ wh, wh = 1 + r0 := ⟨_, rfl⟩
  have hw : wh = 1 ∨ wh = 2 := by omega
  have k1 : IntKind.i64.wrap (1 + (r0 : Int)) = (wh : Int) := by rw [IntWalk.i64_in _ (by omega)]; omega
  have k2 : (1 : Int) + (r0 : Int) = (wh : Int) := by omega
  obtain ⟨ot, hot⟩ : ∃ ot, ot = 3 - wh := ⟨_, rfl⟩
  have k3 : IntKind.i64.wrap ((3 : Int) - (wh : Int)) = (ot : Int) := by rw [IntWalk.i64_in _ (by omega)]; omega
  have k4 : (3 : Int) - (wh : Int) = (ot : Int) := by omega
  have k5 : IntKind.i64.wrap (ot : Int) = (ot : Int) := IntWalk.i64_in _ (by omega)
  have hox : Hid (ot = 1 ∨ ot = 2) := by show _ ∨ _; omega
  have k6 : IntKind.i64.wrap (wh : Int) = (wh : Int) := IntWalk.i64_in _ (by omega)
  have H5 : Hid (∀ W', IntsIn W' (some ⟨w.heap.size + 1, 0, none⟩) 5 (asI [0, 1, 0, 1, 0]) → Calls Try.prog 15 #[.agg #[.int .i64 5, .int .i64 1, .slice (some ⟨w.heap.size + 1, 0, none⟩) 5 5], .int .i64 1] W' fun e w' => ∃ p c', e = .returned (.tuple #[.slice p 2 c', .int .i64 0]) ∧ Below W'.heap.size W' w') := fun W' h =>
    (alive_any 5 1 5 5 1 _ [0, 1, 0, 1, 0] W' (by omega) (by omega) (by omega) (by omega) (Lib.hid rfl) (by omega) h (fun j => by rcases j with _ | _ | _ | _ | _ | j <;> simp [st]) (.inl rfl)).mono fun e w' h => by
      obtain ⟨p, c', l, gs, rs, he, _, hg, hr, hp, hB⟩ := h
      rw [five_two hg hr hp] at he
      exact ⟨p, c', he, hB⟩
  have hI5 : Hid (IntsIn (W0.alloc (.cells #[.int .i64 0, .int .i64 1, .int .i64 0, .int .i64 1, .int .i64 0] 3)) (some ⟨w.heap.size + 1, 0, none⟩) 5 (asI [0, 1, 0, 1, 0])) := by
    refine IntsIn.new _ _ _ _ _ _ ?_ rfl rfl
    rw [hW0]; simp
  have hB1 : Hid (Below w.heap.size w (W0.alloc (.cells #[.int .i64 0, .int .i64 1, .int .i64 0, .int .i64 1, .int .i64 0] 3))) := hB0.alloc hB0.size _
  have e1 : Hid ((W0.alloc (.cells #[.int .i64 0, .int .i64 1, .int .i64 0, .int .i64 1, .int .i64 0] 3)).heap[w.heap.size]? = some (.cells #[.int .i64 A, .int .i64 H, .slice q n c] 24 (0, 0))) := (Below.heap_alloc _ _ _ (lt_of_heap e0)).trans e0
  have H51 := Lib.hid (H5.out _ hI5.out)
  replace hB0 := Lib.hid hB0; replace e0 := Lib.hid e0; replace hx := Lib.hid hx; replace hl := Lib.hid hl; replace hwh := Lib.hid hwh; replace hot := Lib.hid hot; replace hb := Lib.hid hb
  have hW0' := Lib.hid hW0
  subst hW0
  clear H5
  go_enter Try.func5, Try.ntmps5
  go_wp2_with fail
  refine (P0.out _).mono ?_
  rintro e w' ⟨rfl, rfl⟩
  go_wp2_with fail
  refine H51.out.mono ?_
  rintro e w1 ⟨p1, c1, rfl, hB2⟩
  have hbl1 := Lib.hid (hB1.out.trans (hB2.mono hB1.out.size))
  have f1 := Lib.hid ((hB2.block _ (lt_of_heap e1.out)).trans e1.out)
  have d0 : w1.cell? ⟨w.heap.size, 0, none⟩ = some (.int .i64 A) := wcell (cs := [_, _, _]) f1.out 0
  have d1 : w1.cell? ⟨w.heap.size, 1, none⟩ = some (.int .i64 H) := wcell (cs := [_, _, _]) f1.out 1
  have d2 : w1.cell? ⟨w.heap.size, 2, none⟩ = some (.slice q n c) := wcell (cs := [_, _, _]) f1.out 2
  clear P0 H51 hB2 e1 hB1 hI5 e0 hB0
  rcases Bool.eq_false_or_eq_true (mayG A H xs) with hok | hok
  rotate_left
  · have HA := Lib.hid (alive_bad A H (wh : Int) q n c xs w1 hn hW1 hW2 hH1 hH2 (hx.out.below hbl1.out) hok)
    go_wp2_with fail
    refine HA.out.mono ?_
    rintro e w2 ⟨rfl, hB2⟩
    have hbl2 := Lib.hid (hbl1.out.trans (hB2.mono hbl1.out.size))
    clear hB2
    go_wp2_with fail
    go_ret
    exact ⟨rfl, hbl2.out⟩
  · obtain ⟨a, b, s, rfl, rfl, rfl, ha1, ha, hb1, hb2, hsl, hs⟩ := mayG_yes hok
    have hnab : Hid (n = a * b) := by have := hx.out.len; rw [asI_len] at this; show _ = _; omega
    have hn100 : n ≤ 100 := by rw [hnab.out]; exact Nat.mul_le_mul (show a ≤ 10 by omega) (show b ≤ 10 by omega)
    have hn1 : 1 ≤ n := by rw [hnab.out]; exact Nat.mul_le_mul ha1 hb1
    have HA := Lib.hid (alive_any a b n c wh q s w1 ha1 ha hb1 hb2 hnab hn100 (hx.out.below hbl1.out) hs hw)
    have hsn : Hid (s.length = n) := by show _ = _; rw [hnab.out]; exact hsl
    replace hsl := Lib.hid hsl; replace hs := Lib.hid hs; replace hok := Lib.hid hok; replace hw := Lib.hid hw
    go_wp2_with fail
    refine HA.out.mono ?_
    rintro e w2 ⟨pa, ca, al, gs, rs, rfl, hia, hgof, hrof, hperm, hB2⟩
    have hbl2 : Below w.heap.size w w2 := hbl1.out.trans (hB2.mono hbl1.out.size)
    obtain ⟨hBrd, hAF⟩ := alive_F hsl.out hsn.out hgof hrof
    have hal : Hid (∀ x : List Nat, Inv a b wh s gs rs (alZ0 s gs rs).1 (alZ0 s gs rs).2 x → ∀ j, j < al.length → st al j < n ∧ st x (st al j) = wh) := fun x hI j hj => by
      obtain ⟨i, hi, hu, hq⟩ := alN_mem (hperm.mem_iff.1 (st_mem hj))
      exact ⟨by have := (hBrd.gcol i hi _ hq).1; rw [hsn.out] at this; exact this, hI.i1 i hi hu _ hq⟩
    have hall : al.length ≤ 100 * 100 := by
      rw [hperm.length_eq]
      have hb1 := PtsOf.bnd (b := b) hsl.out (by rw [hsn.out]; exact Nat.le_refl _) hgof
      rw [hsn.out] at hb1
      have hgl : gs.length ≤ n := by rw [hgof.1]; exact roots_len _ _ _ _
      exact Nat.le_trans (alN_le (n := n) _ (fun i hi => (hb1 i hi).2.1)) (Nat.mul_le_mul (Nat.le_trans hgl hn100) hn100)
    have hI0 : Hid (Inv a b wh s gs rs (alZ0 s gs rs).1 (alZ0 s gs rs).2 s) := Inv.start hBrd hs.out
    have hstep : Hid (∀ (x : List Nat) (p : Nat), Inv a b wh s gs rs (alZ0 s gs rs).1 (alZ0 s gs rs).2 x → p < n → (putS x a ot p).2.2 = 0 → Inv a b wh s gs rs (alZ0 s gs rs).1 (alZ0 s gs rs).2 (putS x a ot p).1) := fun x p hI hp hR => by
      rw [hot.out] at hR ⊢
      exact ben_put hBrd hAF hw.out hI (by rw [← hnab.out]; exact hp) hR
    generalize alZ0 s gs rs = Z at *
    have hia2 : Hid (IntsIn (w2.alloc (.cells #[.int .i64 (a : Int), .int .i64 (b : Int), .slice q n c] 24)) pa al.length (asI al)) := hia.alloc _
    have f2 := (hB2.block _ (lt_of_heap f1.out)).trans f1.out
    have f22 := Lib.hid ((Below.heap_alloc w2 (.cells #[.int .i64 (a : Int), .int .i64 (b : Int), .slice q n c] 24) _ (lt_of_heap f2)).trans f2)
    have enb := Lib.hid (heap_alloc_new w2 (.cells #[.int .i64 (a : Int), .int .i64 (b : Int), .slice q n c] 24))
    have hbl3 : Hid (Below w.heap.size w (w2.alloc (.cells #[.int .i64 (a : Int), .int .i64 (b : Int), .slice q n c] 24))) := hbl2.alloc hbl2.size _
    have d0 : w2.cell? ⟨w.heap.size, 0, none⟩ = some (.int .i64 (a : Int)) := wcell (cs := [_, _, _]) f2 0
    have d1 : w2.cell? ⟨w.heap.size, 1, none⟩ = some (.int .i64 (b : Int)) := wcell (cs := [_, _, _]) f2 1
    have d2 : w2.cell? ⟨w.heap.size, 2, none⟩ = some (.slice q n c) := wcell (cs := [_, _, _]) f2 2
    have hx2 : Hid (IntsIn (w2.alloc (.cells #[.int .i64 (a : Int), .int .i64 (b : Int), .slice q n c] 24)) q n (asI s)) := (hx.out.below hbl2).alloc _
    have hgn : w.heap.size ≠ w2.heap.size := Nat.ne_of_lt (lt_of_heap f2)
    have hww : Hid (w.heap.size ≤ w2.heap.size) := hbl2.size
    have halU : Hid (∀ y, pa = some y → 0 < al.length → y.block < w2.heap.size) := ints_lt hia
    replace hgof := Lib.hid hgof; replace hrof := Lib.hid hrof; replace hperm := Lib.hid hperm; replace hBrd := Lib.hid hBrd; replace hAF := Lib.hid hAF; replace f2 := Lib.hid f2
    clear HA hB2 hia hbl2
    go_wp2_with fail
    clear d0 d1 d2
    go_loopg [12] 40 (fun gk iv W' => ∃ (i : Nat) (x : List Nat) (q' : Option Addr) (c' : Nat), i ≤ len ∧ i ≤ 40 ∧ gk = 40 - i ∧ iv = .int .i64 i ∧ W'.heap[w2.heap.size]? = some (.cells #[.int .i64 (a : Int), .int .i64 (b : Int), .slice q' n c'] 24 (0, 0)) ∧ W'.heap[w.heap.size]? = some (.cells #[.int .i64 (a : Int), .int .i64 (b : Int), .slice q n c] 24 (0, 0)) ∧
      IntsIn W' q' n (asI x) ∧ IntsIn W' pa al.length (asI al) ∧ Inv a b wh s gs rs Z.1 Z.2 x ∧ Below w.heap.size w W')
    case atStart => exact ⟨0, s, q, c, Nat.zero_le _, by omega, rfl, rfl, enb.out, f22.out, hx2.out, hia2.out, hI0.out, hbl3.out⟩
    case round =>
      obtain ⟨i, x, q', c', hil, hi40, hgk, rfl, hnb, hgb, hxi, hai, hI, hbl⟩ := hrel
      obtain ⟨W2, rfl⟩ : ∃ W2 : World, W2 = wr := ⟨_, rfl⟩
      replace hgk := Lib.hid hgk
      clear hia2 f22 enb hbl3 hx2 hI0
      have hgl := lt_of_heap hnb
      have hgl0 := lt_of_heap hgb
      have d0 : W2.cell? ⟨w2.heap.size, 0, none⟩ = some (.int .i64 (a : Int)) := wcell (cs := [_, _, _]) hnb 0
      have d1 : W2.cell? ⟨w2.heap.size, 1, none⟩ = some (.int .i64 (b : Int)) := wcell (cs := [_, _, _]) hnb 1
      have d2 : W2.cell? ⟨w2.heap.size, 2, none⟩ = some (.slice q' n c') := wcell (cs := [_, _, _]) hnb 2
      have d4 : W2.cell? ⟨w.heap.size, 2, none⟩ = some (.slice q n c) := wcell (cs := [_, _, _]) hgb 2
      by_cases hgo : i < len ∧ i < 40
      · obtain ⟨hg1, hg2⟩ := hgo
        obtain ⟨lb, lo, rfl, _, hc⟩ := (hl.out.below hbl).at (by omega)
        have d3 := hc i hg1
        obtain ⟨u1, u2⟩ := hb.out i hg1
        generalize l[i]?.getD 0 = z at *
        have P2 := Lib.hid (fun W => picked_any z n W u1 u2 hn1 (by omega) n (Lib.hid rfl))
        have hp := pick_lt z n hn1
        generalize pick z n = p at *
        have HP : Hid (∀ W', Below W2.heap.size W2 W' → Calls Try.prog 12 #[.agg #[.int .i64 (a : Int), .int .i64 (b : Int), .slice q' n c'], .int .i64 (ot : Int), .int .i64 (p : Int)] W' (PutP a b n (putS x a ot p) W')) := fun W' h =>
          Put_any a b n c' p q' x ot W' ha1 ha hb1 hb2 hnab hn100 hp (hxi.below h) hI.x2 hox.out
        have hnext : Hid ((putS x a ot p).2.2 = 0 → Inv a b wh s gs rs Z.1 Z.2 (putS x a ot p).1) := fun h => hstep.out x p hI hp h
        have hRc := putS_err2 x a ot p
        generalize putS x a ot p = R at *
        have f1 : (0 : Int) ≤ (i : Int) := by omega
        have f2 : (i : Int) < (len : Int) := by omega
        have hlb2 : lb < W2.heap.size := World.block_lt_of_cell? _ _ d3
        have hxi' := Lib.hid hxi; have hbl' := Lib.hid hbl; have hnb' := Lib.hid hnb; have hgb' := Lib.hid hgb; have hai' := Lib.hid hai; have hI' := Lib.hid hI
        clear hc u1 u2 hxi hbl hnb hgb hai hI
        by_cases hR0 : R.2.2 = 0
        · have HS1 : Hid (∀ W' : World, Below W2.heap.size W2 W' → W'.heap[W2.heap.size]? = some (.cells #[.int .i64 0, .int .i64 0, .slice none 0 0] 24 (0, 0)) → Calls Try.prog 12 #[.agg #[.int .i64 (a : Int), .int .i64 (b : Int), .slice q' n c'], .int .i64 (ot : Int), .int .i64 (p : Int)] W' fun e w' => ∃ g' c2, e = .returned (.tuple #[.agg #[.int .i64 (a : Int), .int .i64 (b : Int), .slice (some ⟨g', 0, none⟩) n c2], .int .i64 (R.2.1 : Nat), .int .i64 0]) ∧ IntsIn w' (some ⟨g', 0, none⟩) n (asI R.1) ∧ Below W2.heap.size W2 w' ∧ W2.heap.size ≤ g' ∧ g' ≠ W2.heap.size ∧ w'.heap[W2.heap.size]? = some (.cells #[.int .i64 0, .int .i64 0, .slice none 0 0] 24 (0, 0))) := fun W' h h8 => (HP.out W' h).mono fun e w' h2 => by
            obtain ⟨h3, h4⟩ := h2
            rcases h3 with ⟨h5, _⟩ | ⟨_, g', c2, h6, h7⟩
            · exfalso; clear hstep hal; omega
            · exact ⟨g', c2, h6, h7.in, h.trans (h4.mono h.size), Nat.le_trans h.size (h7.block _ rfl).1, by have := (h7.block _ rfl).1; have := lt_of_heap h8; simp at *; omega, (h4.block _ (lt_of_heap h8)).trans h8⟩
          have HS2 : Hid (∀ W' : World, Below W2.heap.size W2 W' → Calls Try.prog 12 #[.agg #[.int .i64 (a : Int), .int .i64 (b : Int), .slice q' n c'], .int .i64 (ot : Int), .int .i64 (p : Int)] W' fun e w' => ∃ g' c2, e = .returned (.tuple #[.agg #[.int .i64 (a : Int), .int .i64 (b : Int), .slice (some ⟨g', 0, none⟩) n c2], .int .i64 (R.2.1 : Nat), .int .i64 0]) ∧ IntsIn w' (some ⟨g', 0, none⟩) n (asI R.1) ∧ Below W2.heap.size W2 w' ∧ W2.heap.size ≤ g') := fun W' h => (HP.out W' h).mono fun e w' h2 => by
            obtain ⟨h3, h4⟩ := h2
            rcases h3 with ⟨h5, _⟩ | ⟨_, g', c2, h6, h7⟩
            · exfalso; clear hstep hal; omega
            · exact ⟨g', c2, h6, h7.in, h.trans (h4.mono h.size), Nat.le_trans h.size (h7.block _ rfl).1⟩
          replace hnext := Lib.hid (hnext.out hR0)
          replace hR0 := Lib.hid hR0
          clear HP
          go_upto_region 12 with fail
          go_cut [13, 14, 15] (fun v vt ve wx => ∃ g' c2, Out3 W2 (.int .i64 (a : Int)) (.int .i64 (b : Int)) (.slice (some ⟨g', 0, none⟩) n c2) g' n (asI R.1) v wx ∧ W2.heap.size ≤ g' ∧ vt = .int .i64 (R.2.1 : Nat) ∧ ve = .int .i64 0)
          case first =>
            go_region_held3 (fun w' => w'.cell? ⟨w2.heap.size, 0, none⟩ = some (.int .i64 (a : Int)) ∧ w'.cell? ⟨w2.heap.size, 1, none⟩ = some (.int .i64 (b : Int)) ∧ w'.cell? ⟨w2.heap.size, 2, none⟩ = some (.slice q' n c') ∧ w'.cell? ⟨w.heap.size, 2, none⟩ = some (.slice q n c) ∧ w'.cell? ⟨lb, lo + i, none⟩ = some (.int .i64 z)) (with_reducible first | exact ⟨y0, y1, y2, y4, y3⟩ | exact ⟨(cell3_ne _ (Nat.ne_of_lt hgl) _ _ _).trans y0, (cell3_ne _ (Nat.ne_of_lt hgl) _ _ _).trans y1, (cell3_ne _ (Nat.ne_of_lt hgl) _ _ _).trans y2, (cell3_ne _ (Nat.ne_of_lt hgl0) _ _ _).trans y4, (cell3_ne _ (Nat.ne_of_lt hlb2) _ _ _).trans y3⟩ | exact ⟨d0, d1, d2, d4, d3⟩ | (refine ⟨?_, ?_, ?_, ?_, ?_⟩ <;> (repeat (first | apply cdr | apply cal)) <;> (first | exact d0 | exact d1 | exact d2 | exact d4 | exact d3 | exact y0 | exact y1 | exact y2 | exact y4 | exact y3)) | go_keep)
              (first
                | (go_at_call 11; (with_reducible refine (P2.out _).mono ?_); rintro e w' ⟨rfl, rfl⟩)
                | (go_at_call 12; (with_reducible refine (HS1.out _ ?_ ?_).mono ?_); (first | exact Below.refl _ _ | exact below_drewN (Below.refl _ _) 1 | exact (below_drewN (Below.refl _ _) 1).alloc (Nat.le_refl _) _ | exact below_drewN ((Below.refl _ _).alloc (Nat.le_refl _) _) 1); (first | exact heap_alloc_new W2 _ | exact heap_alloc_new W2.drew _); rintro e w8 ⟨g8, c8, rfl, hO8, hB8, hgg, hg8, x8⟩; have y0 : w8.cell? ⟨w2.heap.size, 0, none⟩ = some (.int .i64 (a : Int)) := (hB8.cell (p := ⟨w2.heap.size, 0, none⟩) hgl).trans d0; have y1 : w8.cell? ⟨w2.heap.size, 1, none⟩ = some (.int .i64 (b : Int)) := (hB8.cell (p := ⟨w2.heap.size, 1, none⟩) hgl).trans d1; have y2 : w8.cell? ⟨w2.heap.size, 2, none⟩ = some (.slice q' n c') := (hB8.cell (p := ⟨w2.heap.size, 2, none⟩) hgl).trans d2; have y4 : w8.cell? ⟨w.heap.size, 2, none⟩ = some (.slice q n c) := (hB8.cell (p := ⟨w.heap.size, 2, none⟩) hgl0).trans d4; have y3 : w8.cell? ⟨lb, lo + i, none⟩ = some (.int .i64 z) := (hB8.cell (p := ⟨lb, lo + i, none⟩) hlb2).trans d3; have t0 : w8.cell? ⟨W2.heap.size, 0, none⟩ = some (.int .i64 0) := wcell (cs := [_, _, _]) x8 0; have t1 : w8.cell? ⟨W2.heap.size, 1, none⟩ = some (.int .i64 0) := wcell (cs := [_, _, _]) x8 1; have t2 : w8.cell? ⟨W2.heap.size, 2, none⟩ = some (.slice none 0 0) := wcell (cs := [_, _, _]) x8 2; have f0' : w8.frozen? ⟨W2.heap.size, 0, none⟩ = false := wfree x8 0; have f1' : w8.frozen? ⟨W2.heap.size, 1, none⟩ = false := wfree x8 1; have f2' : w8.frozen? ⟨W2.heap.size, 2, none⟩ = false := wfree x8 2; replace x8 := Lib.hid x8; replace hgg := Lib.hid hgg; replace hO8 := Lib.hid hO8; replace hB8 := Lib.hid hB8; replace hg8 := Lib.hid hg8)
                | (go_at_call 12; (with_reducible refine (HS2.out _ ?_).mono ?_); (first | exact Below.refl _ _ | exact below_drewN (Below.refl _ _) 1 | exact (below_drewN (Below.refl _ _) 1).alloc (Nat.le_refl _) _ | exact below_drewN ((Below.refl _ _).alloc (Nat.le_refl _) _) 1); rintro e w8 ⟨g8, c8, rfl, hO8, hB8, hgg⟩; have y0 : w8.cell? ⟨w2.heap.size, 0, none⟩ = some (.int .i64 (a : Int)) := (hB8.cell (p := ⟨w2.heap.size, 0, none⟩) hgl).trans d0; have y1 : w8.cell? ⟨w2.heap.size, 1, none⟩ = some (.int .i64 (b : Int)) := (hB8.cell (p := ⟨w2.heap.size, 1, none⟩) hgl).trans d1; have y2 : w8.cell? ⟨w2.heap.size, 2, none⟩ = some (.slice q' n c') := (hB8.cell (p := ⟨w2.heap.size, 2, none⟩) hgl).trans d2; have y4 : w8.cell? ⟨w.heap.size, 2, none⟩ = some (.slice q n c) := (hB8.cell (p := ⟨w.heap.size, 2, none⟩) hgl0).trans d4; have y3 : w8.cell? ⟨lb, lo + i, none⟩ = some (.int .i64 z) := (hB8.cell (p := ⟨lb, lo + i, none⟩) hlb2).trans d3; replace hgg := Lib.hid hgg; replace hO8 := Lib.hid hO8; replace hB8 := Lib.hid hB8))
            all_goals
              go_wp2_with fail
              go_meet
              refine ⟨g8, c8, ?_, hgg.out, rfl, rfl⟩
              with_reducible first | exact out3_new hO8.out hB8.out | exact out3_set hO8.out hB8.out hg8.out x8.out
          case rest =>
            obtain ⟨g', c2, ⟨hBc, ⟨bb, rfl, hbb, e6⟩, hx6⟩, hgg, rfl, rfl⟩ := hcut
            have m0 : wc.cell? ⟨bb, 0, none⟩ = some (.int .i64 (a : Int)) := wcell (cs := [_, _, _]) e6 0
            have m1 : wc.cell? ⟨bb, 1, none⟩ = some (.int .i64 (b : Int)) := wcell (cs := [_, _, _]) e6 1
            have m2 : wc.cell? ⟨bb, 2, none⟩ = some (.slice (some ⟨g', 0, none⟩) n c2) := wcell (cs := [_, _, _]) e6 2
            have e28 := (hBc.block _ hgl).trans hnb'.out
            have e08 := (hBc.block _ hgl0).trans hgb'.out
            have t0 : wc.cell? ⟨w2.heap.size, 0, none⟩ = some (.int .i64 (a : Int)) := wcell (cs := [_, _, _]) e28 0
            have t1 : wc.cell? ⟨w2.heap.size, 1, none⟩ = some (.int .i64 (b : Int)) := wcell (cs := [_, _, _]) e28 1
            have t2 : wc.cell? ⟨w2.heap.size, 2, none⟩ = some (.slice q' n c') := wcell (cs := [_, _, _]) e28 2
            have tf0 := wfree e28 0
            have tf1 := wfree e28 1
            have tf2 := wfree e28 2
            have e29 := Lib.hid (wset (wset (wset e28 0 (.int .i64 (a : Int))) 1 (.int .i64 (b : Int))) 2 (.slice (some ⟨g', 0, none⟩) n c2))
            have kp : ∀ k, k ≠ w2.heap.size → (((wc.setCell ⟨w2.heap.size, 0, none⟩ (.int .i64 (a : Int))).setCell ⟨w2.heap.size, 1, none⟩ (.int .i64 (b : Int))).setCell ⟨w2.heap.size, 2, none⟩ (.slice (some ⟨g', 0, none⟩) n c2)).heap[k]? = wc.heap[k]? := fun k hk => (wset_ne _ _ hk).trans ((wset_ne _ _ hk).trans (wset_ne _ _ hk))
            have hbl9 : Hid (Below w.heap.size w (((wc.setCell ⟨w2.heap.size, 0, none⟩ (.int .i64 (a : Int))).setCell ⟨w2.heap.size, 1, none⟩ (.int .i64 (b : Int))).setCell ⟨w2.heap.size, 2, none⟩ (.slice (some ⟨g', 0, none⟩) n c2))) :=
              (((hbl'.out.trans (hBc.mono hbl'.out.size)).setCell (p := ⟨w2.heap.size, 0, none⟩) hww.out _).setCell (p := ⟨w2.heap.size, 1, none⟩) hww.out _).setCell (p := ⟨w2.heap.size, 2, none⟩) hww.out _
            have hxf := Lib.hid (ints_keep0 (w' := (((wc.setCell ⟨w2.heap.size, 0, none⟩ (.int .i64 (a : Int))).setCell ⟨w2.heap.size, 1, none⟩ (.int .i64 (b : Int))).setCell ⟨w2.heap.size, 2, none⟩ (.slice (some ⟨g', 0, none⟩) n c2))) hx6 fun y hy _ => kp _ (by cases hy; show g' ≠ _; clear hal hstep; omega))
            have haf := Lib.hid (ints_keep0 (w' := (((wc.setCell ⟨w2.heap.size, 0, none⟩ (.int .i64 (a : Int))).setCell ⟨w2.heap.size, 1, none⟩ (.int .i64 (b : Int))).setCell ⟨w2.heap.size, 2, none⟩ (.slice (some ⟨g', 0, none⟩) n c2))) (hai'.out.below hBc) fun y hy hn => kp _ (Nat.ne_of_lt (halU.out y hy hn)))
            have hgf := Lib.hid ((kp _ hgn).trans e08)
            replace e28 := Lib.hid e28; replace e08 := Lib.hid e08; replace hx6 := Lib.hid hx6; replace hBc := Lib.hid hBc; replace e6 := Lib.hid e6
            clear kp d0 d1 d2 d3 d4 HS1 HS2 P2
            go_wp2_with fail
            have hgk := hgk.out
            go_roundg (40 - (i + 1))
            case measure => omega
            case rel => exact ⟨i + 1, R.1, some ⟨g', 0, none⟩, c2, by omega, by omega, rfl, by go_num, by simpa using e29.out, hgf.out, hxf.out, haf.out, hnext.out, hbl9.out⟩
        · have HS1 : Hid (∀ W' : World, Below W2.heap.size W2 W' → W'.heap[W2.heap.size]? = some (.cells #[.int .i64 0, .int .i64 0, .slice none 0 0] 24 (0, 0)) → Calls Try.prog 12 #[.agg #[.int .i64 (a : Int), .int .i64 (b : Int), .slice q' n c'], .int .i64 (ot : Int), .int .i64 (p : Int)] W' fun e w' => e = .returned (.tuple #[.agg #[.int .i64 0, .int .i64 0, .slice none 0 0], .int .i64 0, .int .i64 (R.2.2 : Nat)]) ∧ Below W2.heap.size W2 w' ∧ w'.heap[W2.heap.size]? = some (.cells #[.int .i64 0, .int .i64 0, .slice none 0 0] 24 (0, 0))) := fun W' h h8 => (HP.out W' h).mono fun e w' h2 => by
            obtain ⟨h3, h4⟩ := h2
            rcases h3 with ⟨_, h6⟩ | ⟨h5, _⟩
            · exact ⟨h6, h.trans (h4.mono h.size), (h4.block _ (lt_of_heap h8)).trans h8⟩
            · exact absurd h5 hR0
          have HS2 : Hid (∀ W' : World, Below W2.heap.size W2 W' → Calls Try.prog 12 #[.agg #[.int .i64 (a : Int), .int .i64 (b : Int), .slice q' n c'], .int .i64 (ot : Int), .int .i64 (p : Int)] W' fun e w' => e = .returned (.tuple #[.agg #[.int .i64 0, .int .i64 0, .slice none 0 0], .int .i64 0, .int .i64 (R.2.2 : Nat)]) ∧ Below W2.heap.size W2 w') := fun W' h => (HP.out W' h).mono fun e w' h2 => by
            obtain ⟨h3, h4⟩ := h2
            rcases h3 with ⟨_, h6⟩ | ⟨h5, _⟩
            · exact ⟨h6, h.trans (h4.mono h.size)⟩
            · exact absurd h5 hR0
          have hRn : ¬ ((R.2.2 : Nat) : Int) = 0 := by clear hal hstep; omega
          replace hR0 := Lib.hid hR0
          clear HP hnext
          go_upto_region 12 with fail
          go_cut [13, 14, 15] (fun v vt ve wx => OutE W2 v wx ∧ vt = .int .i64 0 ∧ ve = .int .i64 (R.2.2 : Nat))
          case first =>
            go_region_held3 (fun w' => w'.cell? ⟨w2.heap.size, 0, none⟩ = some (.int .i64 (a : Int)) ∧ w'.cell? ⟨w2.heap.size, 1, none⟩ = some (.int .i64 (b : Int)) ∧ w'.cell? ⟨w2.heap.size, 2, none⟩ = some (.slice q' n c') ∧ w'.cell? ⟨w.heap.size, 2, none⟩ = some (.slice q n c) ∧ w'.cell? ⟨lb, lo + i, none⟩ = some (.int .i64 z)) (with_reducible first | exact ⟨y0, y1, y2, y4, y3⟩ | exact ⟨(cell3_ne _ (Nat.ne_of_lt hgl) _ _ _).trans y0, (cell3_ne _ (Nat.ne_of_lt hgl) _ _ _).trans y1, (cell3_ne _ (Nat.ne_of_lt hgl) _ _ _).trans y2, (cell3_ne _ (Nat.ne_of_lt hgl0) _ _ _).trans y4, (cell3_ne _ (Nat.ne_of_lt hlb2) _ _ _).trans y3⟩ | exact ⟨d0, d1, d2, d4, d3⟩ | (refine ⟨?_, ?_, ?_, ?_, ?_⟩ <;> (repeat (first | apply cdr | apply cal)) <;> (first | exact d0 | exact d1 | exact d2 | exact d4 | exact d3 | exact y0 | exact y1 | exact y2 | exact y4 | exact y3)) | go_keep)
              (first
                | (go_at_call 11; (with_reducible refine (P2.out _).mono ?_); rintro e w' ⟨rfl, rfl⟩)
                | (go_at_call 12; (with_reducible refine (HS1.out _ ?_ ?_).mono ?_); (first | exact Below.refl _ _ | exact below_drewN (Below.refl _ _) 1 | exact (below_drewN (Below.refl _ _) 1).alloc (Nat.le_refl _) _ | exact below_drewN ((Below.refl _ _).alloc (Nat.le_refl _) _) 1); (first | exact heap_alloc_new W2 _ | exact heap_alloc_new W2.drew _); rintro e w8 ⟨rfl, hB8, x8⟩; have y0 : w8.cell? ⟨w2.heap.size, 0, none⟩ = some (.int .i64 (a : Int)) := (hB8.cell (p := ⟨w2.heap.size, 0, none⟩) hgl).trans d0; have y1 : w8.cell? ⟨w2.heap.size, 1, none⟩ = some (.int .i64 (b : Int)) := (hB8.cell (p := ⟨w2.heap.size, 1, none⟩) hgl).trans d1; have y2 : w8.cell? ⟨w2.heap.size, 2, none⟩ = some (.slice q' n c') := (hB8.cell (p := ⟨w2.heap.size, 2, none⟩) hgl).trans d2; have y4 : w8.cell? ⟨w.heap.size, 2, none⟩ = some (.slice q n c) := (hB8.cell (p := ⟨w.heap.size, 2, none⟩) hgl0).trans d4; have y3 : w8.cell? ⟨lb, lo + i, none⟩ = some (.int .i64 z) := (hB8.cell (p := ⟨lb, lo + i, none⟩) hlb2).trans d3; have t0 : w8.cell? ⟨W2.heap.size, 0, none⟩ = some (.int .i64 0) := wcell (cs := [_, _, _]) x8 0; have t1 : w8.cell? ⟨W2.heap.size, 1, none⟩ = some (.int .i64 0) := wcell (cs := [_, _, _]) x8 1; have t2 : w8.cell? ⟨W2.heap.size, 2, none⟩ = some (.slice none 0 0) := wcell (cs := [_, _, _]) x8 2; have f0' : w8.frozen? ⟨W2.heap.size, 0, none⟩ = false := wfree x8 0; have f1' : w8.frozen? ⟨W2.heap.size, 1, none⟩ = false := wfree x8 1; have f2' : w8.frozen? ⟨W2.heap.size, 2, none⟩ = false := wfree x8 2; replace x8 := Lib.hid x8; replace hB8 := Lib.hid hB8)
                | (go_at_call 12; (with_reducible refine (HS2.out _ ?_).mono ?_); (first | exact Below.refl _ _ | exact below_drewN (Below.refl _ _) 1 | exact (below_drewN (Below.refl _ _) 1).alloc (Nat.le_refl _) _ | exact below_drewN ((Below.refl _ _).alloc (Nat.le_refl _) _) 1); rintro e w8 ⟨rfl, hB8⟩; have y0 : w8.cell? ⟨w2.heap.size, 0, none⟩ = some (.int .i64 (a : Int)) := (hB8.cell (p := ⟨w2.heap.size, 0, none⟩) hgl).trans d0; have y1 : w8.cell? ⟨w2.heap.size, 1, none⟩ = some (.int .i64 (b : Int)) := (hB8.cell (p := ⟨w2.heap.size, 1, none⟩) hgl).trans d1; have y2 : w8.cell? ⟨w2.heap.size, 2, none⟩ = some (.slice q' n c') := (hB8.cell (p := ⟨w2.heap.size, 2, none⟩) hgl).trans d2; have y4 : w8.cell? ⟨w.heap.size, 2, none⟩ = some (.slice q n c) := (hB8.cell (p := ⟨w.heap.size, 2, none⟩) hgl0).trans d4; have y3 : w8.cell? ⟨lb, lo + i, none⟩ = some (.int .i64 z) := (hB8.cell (p := ⟨lb, lo + i, none⟩) hlb2).trans d3; replace hB8 := Lib.hid hB8))
            all_goals
              go_wp2_with fail
              go_meet
              refine ⟨?_, rfl, rfl⟩
              with_reducible first | exact outE_new hB8.out | exact outE_set hB8.out
          case rest =>
            obtain ⟨⟨hBc, bb, rfl⟩, rfl, rfl⟩ := hcut
            have hBc' := Lib.hid hBc
            clear hBc d0 d1 d2 d3 d4 HS1 HS2 P2
            go_wp2_with fail
            have hgk := hgk.out
            have hBc := hBc'.out
            go_roundg (40 - (i + 1))
            case measure => omega
            case rel => exact ⟨i + 1, x, q', c', by omega, by omega, rfl, by go_num, (hBc.block _ hgl).trans hnb'.out, (hBc.block _ hgl0).trans hgb'.out, hxi'.out.below hBc, hai'.out.below hBc, hI'.out, hbl'.out.trans (hBc.mono hbl'.out.size)⟩
      · by_cases hil2 : i < len
        · have f1 : (i : Int) < (len : Int) := by omega
          have f2 : ¬ (i : Int) < 40 := by omega
          replace hnb := Lib.hid hnb; replace hgb := Lib.hid hgb; replace hxi := Lib.hid hxi; replace hai := Lib.hid hai; replace hbl := Lib.hid hbl; replace hI := Lib.hid hI; replace hgo := Lib.hid hgo
          go_wp2_with fail
          clear d0 d1 d2 d4
          go_loopg [16] al.length (fun gk jv W' => ∃ (j : Nat), j ≤ al.length ∧ gk = al.length - j ∧ jv = .int .i64 j ∧ W'.heap[w2.heap.size]? = some (.cells #[.int .i64 (a : Int), .int .i64 (b : Int), .slice q' n c'] 24 (0, 0)) ∧ IntsIn W' q' n (asI x) ∧ IntsIn W' pa al.length (asI al) ∧ Below w.heap.size w W')
          case atStart => exact ⟨0, Nat.zero_le _, rfl, rfl, hnb.out, hxi.out, hai.out, hbl.out⟩
          case round =>
            obtain ⟨j, hj, hgk2, rfl, hnb3, hxi3, hai3, hbl3⟩ := hrel
            obtain ⟨W3, rfl⟩ : ∃ W3 : World, W3 = wr := ⟨_, rfl⟩
            replace hgk2 := Lib.hid hgk2
            by_cases hjt : j < al.length
            · obtain ⟨h1, h2⟩ := hal.out x hI.out j hjt
              obtain ⟨ba, oa, rfl, _, hca⟩ := hai3.at (by omega)
              have ea := hca j hjt
              rw [asI_at] at ea
              obtain ⟨bx, ox, rfl, _, hcx⟩ := hxi3.at (by omega)
              have ex := hcx (st al j) h1
              rw [asI_at, h2] at ex
              obtain ⟨t, ht⟩ : ∃ t, t = st al j := ⟨_, rfl⟩
              rw [← ht] at ea ex h1
              replace ht := Lib.hid ht
              have dd2 : W3.cell? ⟨w2.heap.size, 2, none⟩ = some (.slice (some ⟨bx, ox, none⟩) n c') := wcell (cs := [_, _, _]) hnb3 2
              have g1 : (0 : Int) ≤ (j : Int) := by omega
              have g2 : (j : Int) < (al.length : Int) := by omega
              have g3 : (0 : Int) ≤ (t : Int) := by omega
              have g4 : (t : Int) < (n : Int) := by omega
              replace h2 := Lib.hid h2; replace hnb3 := Lib.hid hnb3; replace hxi3 := Lib.hid hxi3; replace hai3 := Lib.hid hai3; replace hbl3 := Lib.hid hbl3
              clear hca hcx
              go_wp2_with fail
              go_quiet (fail)
              have hdn := Lib.hid (below_drewN (Below.refl W3.heap.size W3) nq)
              go_wp2_with fail
              have hgk2 := hgk2.out
              go_roundg (al.length - (j + 1))
              case measure => omega
              case rel => exact ⟨j + 1, hjt, rfl, by go_num, (hdn.out.block _ (lt_of_heap hnb3.out)).trans hnb3.out, hxi3.out.below hdn.out, hai3.out.below hdn.out, below_drewN hbl3.out nq⟩
            · have hje : ¬ (j : Int) < (al.length : Int) := by omega
              replace hnb3 := Lib.hid hnb3; replace hxi3 := Lib.hid hxi3; replace hai3 := Lib.hid hai3; replace hbl3 := Lib.hid hbl3
              go_wp2_with fail
              go_ret
              exact ⟨rfl, hbl3.out⟩
        · have f1 : ¬ (i : Int) < (len : Int) := by omega
          replace hnb := Lib.hid hnb; replace hgb := Lib.hid hgb; replace hxi := Lib.hid hxi; replace hai := Lib.hid hai; replace hbl := Lib.hid hbl; replace hI := Lib.hid hI; replace hgo := Lib.hid hgo
          go_wp2_with fail
          clear d0 d1 d2 d4
          go_loopg [16] al.length (fun gk jv W' => ∃ (j : Nat), j ≤ al.length ∧ gk = al.length - j ∧ jv = .int .i64 j ∧ W'.heap[w2.heap.size]? = some (.cells #[.int .i64 (a : Int), .int .i64 (b : Int), .slice q' n c'] 24 (0, 0)) ∧ IntsIn W' q' n (asI x) ∧ IntsIn W' pa al.length (asI al) ∧ Below w.heap.size w W')
          case atStart => exact ⟨0, Nat.zero_le _, rfl, rfl, hnb.out, hxi.out, hai.out, hbl.out⟩
          case round =>
            obtain ⟨j, hj, hgk2, rfl, hnb3, hxi3, hai3, hbl3⟩ := hrel
            obtain ⟨W3, rfl⟩ : ∃ W3 : World, W3 = wr := ⟨_, rfl⟩
            replace hgk2 := Lib.hid hgk2
            by_cases hjt : j < al.length
            · obtain ⟨h1, h2⟩ := hal.out x hI.out j hjt
              obtain ⟨ba, oa, rfl, _, hca⟩ := hai3.at (by omega)
              have ea := hca j hjt
              rw [asI_at] at ea
              obtain ⟨bx, ox, rfl, _, hcx⟩ := hxi3.at (by omega)
              have ex := hcx (st al j) h1
              rw [asI_at, h2] at ex
              obtain ⟨t, ht⟩ : ∃ t, t = st al j := ⟨_, rfl⟩
              rw [← ht] at ea ex h1
              replace ht := Lib.hid ht
              have dd2 : W3.cell? ⟨w2.heap.size, 2, none⟩ = some (.slice (some ⟨bx, ox, none⟩) n c') := wcell (cs := [_, _, _]) hnb3 2
              have g1 : (0 : Int) ≤ (j : Int) := by omega
              have g2 : (j : Int) < (al.length : Int) := by omega
              have g3 : (0 : Int) ≤ (t : Int) := by omega
              have g4 : (t : Int) < (n : Int) := by omega
              replace h2 := Lib.hid h2; replace hnb3 := Lib.hid hnb3; replace hxi3 := Lib.hid hxi3; replace hai3 := Lib.hid hai3; replace hbl3 := Lib.hid hbl3
              clear hca hcx
              go_wp2_with fail
              go_quiet (fail)
              have hdn := Lib.hid (below_drewN (Below.refl W3.heap.size W3) nq)
              go_wp2_with fail
              have hgk2 := hgk2.out
              go_roundg (al.length - (j + 1))
              case measure => omega
              case rel => exact ⟨j + 1, hjt, rfl, by go_num, (hdn.out.block _ (lt_of_heap hnb3.out)).trans hnb3.out, hxi3.out.below hdn.out, hai3.out.below hdn.out, below_drewN hbl3.out nq⟩
            · have hje : ¬ (j : Int) < (al.length : Int) := by omega
              replace hnb3 := Lib.hid hnb3; replace hxi3 := Lib.hid hxi3; replace hai3 := Lib.hid hai3; replace hbl3 := Lib.hid hbl3
              go_wp2_with fail
              go_ret
              exact ⟨rfl, hbl3.out⟩
end Go.Proofs.Ytefjliblaeadfaa
