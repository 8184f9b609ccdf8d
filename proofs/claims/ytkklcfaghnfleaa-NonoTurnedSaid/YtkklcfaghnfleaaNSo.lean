/- How many pictures solve finds, and the last of them; conditions: short lines. -/
import Derived.Test.YtkklcfaghnfleaaNCc
namespace Go.Proofs.Ytkklcfaghnfleaa
open Go.RowKit

theorem index_none (m b c : Nat) (xs : List Int) (w : World) (hm : 1 ≤ m ∧ m ≤ 20) (hx : IntsIn w (some ⟨b, 0, none⟩) m xs) (h : ∀ j, j < m → xs[j]?.getD 0 ≠ -1) :
    Calls Try.prog 28 #[.slice (some ⟨b, 0, none⟩) m c, .int .i64 (-1)] w fun e w' => e = .returned (.int .i64 (-1)) ∧ w = w' := by
  have hl := hx.len
  obtain ⟨b', o', e, _, hc⟩ := hx.at (by omega)
  cases e
  refine (Sh.slices_Index_int b 0 m c xs (-1) w (by omega) (by omega) (fun j hj => by rw [hc j (by omega)]; simp [List.getD])).mono fun e w' ⟨h1, h2⟩ => ⟨?_, h2.symm⟩
  rw [h1, Lib.idxOf_miss xs m (-1) fun j hj => by have := h j hj; simpa [List.getD] using this]
theorem index_first (m b c k : Nat) (xs : List Int) (w : World) (hm : 1 ≤ m ∧ m ≤ 20) (hx : IntsIn w (some ⟨b, 0, none⟩) m xs) (hk : k < m) (h0 : xs[k]?.getD 0 = -1) (h : ∀ j, j < k → xs[j]?.getD 0 ≠ -1) :
    Calls Try.prog 28 #[.slice (some ⟨b, 0, none⟩) m c, .int .i64 (-1)] w fun e w' => e = .returned (.int .i64 (k : Nat)) ∧ w = w' := by
  have hl := hx.len
  obtain ⟨b', o', e, _, hc⟩ := hx.at (by omega)
  cases e
  refine (Sh.slices_Index_int b 0 m c xs (-1) w (by omega) (by omega) (fun j hj => by rw [hc j (by omega)]; simp [List.getD])).mono fun e w' ⟨h1, h2⟩ => ⟨?_, h2.symm⟩
  rw [h1, Lib.idxOf_hit xs m k (-1) hk (by omega) (by simpa [List.getD] using h0) fun j hj => by have := h j hj; simpa [List.getD] using this]
theorem first_open (c : Pic) (y : Nat) : ∀ m, (∀ x, x < m → c y x ≠ -1) ∨ ∃ x, x < m ∧ c y x = -1 ∧ ∀ x', x' < x → c y x' ≠ -1
  | 0 => .inl fun x hx => absurd hx (Nat.not_lt_zero _)
  | m + 1 => by
    rcases first_open c y m with h | ⟨x, h1, h2⟩
    · by_cases e : c y m = -1
      · exact .inr ⟨m, by omega, e, h⟩
      · exact .inl fun x hx => by
          rcases Nat.lt_or_ge x m with h3 | h3
          · exact h x h3
          · obtain rfl : x = m := by omega
            exact e
    · exact .inr ⟨x, by omega, h2⟩
def Sm (n m : Nat) (R C : Nat → List Nat) (c : Pic) (y x : Nat) : Nat → Nat
  | 0 => 0
  | v + 1 => Sm n m R C c y x v + cntP n m R C (set1 c y x (v : Nat))
theorem Sm_two {n m : Nat} {R C : Nat → List Nat} {c : Pic} {y x : Nat} (hy : y < n) (hx : x < m) (h0 : c y x = -1) : Sm n m R C c y x 2 = cntP n m R C c := by
  rw [cnt_split hy hx h0]
  show 0 + cntP n m R C (set1 c y x ((0 : Nat) : Int)) + cntP n m R C (set1 c y x ((1 : Nat) : Int)) = _
  rw [Nat.zero_add]; rfl
theorem Sm_le {n m : Nat} {R C : Nat → List Nat} {c : Pic} {y x u : Nat} (hu : u ≤ 2) : Sm n m R C c y x u ≤ Sm n m R C c y x 2 := by
  rcases (show u = 0 ∨ u = 1 ∨ u = 2 by omega) with rfl | rfl | rfl
  · exact Nat.zero_le _
  · exact Nat.le_add_right _ _
  · exact Nat.le_refl _
/-- what solve leaves. -/
def SolveEnd (B : Nat) (w : World) (n m : Nat) (c : Pic) (R C : Nat → List Nat) (most : Nat) (e : Ending) (W' : World) : Prop :=
  Below B w W' ∧ ∃ (v : Nat) (q : Option Addr) (len k : Nat), e = .returned (.tuple #[.int .i64 (v : Nat), .slice q len k]) ∧ v = min most (cntP n m R C c) ∧ (1 ≤ v → len = n * m ∧ ∃ s, s ∈ bitsL (n * m) ∧ slv n m R C c s = true ∧ IntsIn W' q (n * m) (asI s))
set_option maxRecDepth 20000 in
set_option maxHeartbeats 4000000 in
theorem solve_any {n m : Nat} {rq : Option Addr} {rc : Nat} {cq : Option Addr} {cc : Nat} {R C : Nat → List Nat} (hn : 1 ≤ n ∧ n ≤ 20) (hm : 1 ≤ m ∧ m ≤ 20)
    (hR : ∀ y, y < n → ∀ k ∈ R y, 1 ≤ k ∧ k ≤ 20) (hC : ∀ x, x < m → ∀ k ∈ C x, 1 ≤ k ∧ k ≤ 20) :
    ∀ (K B : Nat) (w : World) (pb cb kc : Nat) (g kp : Nat → Nat) (c : Pic) (most : Nat), opn n m c < K → Pc B w pb n m rq rc cq cc cb kc g kp c → Vld n m c → Clu B w rq n R → Clu B w cq m C → 1 ≤ most ∧ most ≤ 1000 →
    Calls Try.prog 21 #[.pointer (some ⟨pb, 0, none⟩), .int .i64 most] w (SolveEnd B w n m c R C most) := by
  intro K
  induction K with
  | zero => intro B w pb cb kc g kp c most hK; exact absurd hK (Nat.not_lt_zero _)
  | succ K ih =>
    intro B w pb cb kc g kp c most hK h hv hcr hcc hmo
    have HU := Lib.hid (push_any h hv hcr hcc hn hm hR hC)
    have hBw : Hid (B ≤ w.heap.size) := Nat.le_trans h.pB (Nat.le_of_lt h.lt.1)
    have HR := Lib.hid (fun W' (hb : Below B w W') => hcr.below hb)
    have HC := Lib.hid (fun W' (hb : Below B w W') => hcc.below hb)
    have hR' := Lib.hid hR; have hC' := Lib.hid hC
    have hK := Lib.hid hK; have hv := Lib.hid hv; have ih := Lib.hid ih
    clear h hcr hcc
    have hn' := Lib.hid hn; have hm' := Lib.hid hm
    obtain ⟨hn1, hn2⟩ := hn
    obtain ⟨hm1, hm2⟩ := hm
    obtain ⟨hmo1, hmo2⟩ := hmo
    go_enter Try.func21, Try.ntmps21
    go_wp2_with fail
    refine HU.out.mono ?_
    rintro e W1 ⟨hb1, hr⟩
    replace hb1 := Lib.hid hb1
    clear HU
    rcases hr with ⟨rfl, hno⟩ | ⟨rfl, g, kp, c1, hP, hS, hL⟩
    · have hz := Lib.hid (cnt_none (c := c) hno)
      go_wp2_with fail
      go_ret2
      exact ⟨hb1.out, 0, none, 0, 0, rfl, by rw [hz.out]; simp, fun h => absurd h (by omega)⟩
    · have hcnt := Lib.hid (cnt_same hS.rf hS.sol)
      have hop := Lib.hid (opn_le hS.rf)
      have hP := Lib.hid hP; have hL := Lib.hid hL; have hS := Lib.hid hS
      have k2 := hP.out.k2
      go_wp2_with fail
      go_loopg [23] n (fun gk jv W' => ∃ j : Nat, gk = n - j ∧ j ≤ n ∧ jv = .int .i64 (j : Nat) ∧ W1 = W' ∧ Hid (∀ y x, y < j → x < m → c1 y x ≠ -1))
      case atStart => exact ⟨0, by omega, by omega, rfl, rfl, fun y x hy => absurd hy (Nat.not_lt_zero _)⟩
      case round =>
        obtain ⟨y, hgk, hy, rfl, rfl, hno⟩ := hrel
        replace hgk := Lib.hid hgk
        rcases Nat.lt_or_ge y n with hlt | hge
        · have a1 := hP.out.at hlt
          have hin := hP.out.in hlt
          have hcap := hP.out.cap hlt
          obtain ⟨gy, hgy⟩ : ∃ gy, gy = g y := ⟨_, rfl⟩
          rw [← hgy] at a1 hin
          replace hgy := Lib.hid hgy
          generalize kp y = ky at a1 hcap
          rcases first_open c1 y m with hf | ⟨x, hx, hx0, hxf⟩
          · have HI := Lib.hid (index_none m gy ky _ W1 hm'.out hin fun j hj => by rw [rowL_at c1 y hj]; exact hf j hj)
            have hno2 : Hid (∀ y' x, y' < y + 1 → x < m → c1 y' x ≠ -1) := fun y' x hy' hx => by
              rcases Nat.lt_or_ge y' y with h3 | h3
              · exact hno.out y' x h3 hx
              · obtain rfl : y' = y := by omega
                exact hf x hx
            clear hin hf
            go_wp2_with fail
            refine HI.out.mono ?_
            rintro e W2 ⟨rfl, rfl⟩
            clear HI
            go_wp2_with fail
            have hgk := hgk.out
            go_roundg (n - (y + 1))
            case measure => omega
            case rel => exact ⟨y + 1, rfl, by omega, by go_num, rfl, hno2⟩
          · have HI := Lib.hid (index_first m gy ky x _ W1 hm'.out hin hx (by rw [rowL_at c1 y hx]; exact hx0) fun j hj => by rw [rowL_at c1 y (by omega)]; exact hxf j hj)
            clear hin hxf
            go_wp2_with fail
            refine HI.out.mono ?_
            rintro e W2 ⟨rfl, rfl⟩
            clear HI
            have hx0' := Lib.hid hx0
            clear hx0
            go_wp2_with fail
            go_loopg [9, 10, 32] 2 (fun gk mv lv uv W' => ∃ (u many : Nat) (q : Option Addr) (len k : Nat), gk = 2 - u ∧ u ≤ 2 ∧ uv = .int .i64 (u : Nat) ∧ mv = .int .i64 (many : Nat) ∧ lv = .slice q len k ∧ many = min most (Sm n m R C c1 y x u) ∧ Hid (1 ≤ many → len = n * m ∧ ∃ s, s ∈ bitsL (n * m) ∧ slv n m R C c s = true ∧ IntsIn W' q (n * m) (asI s)) ∧ Hid (Below W1.heap.size W1 W'))
            case atStart => exact ⟨0, 0, none, 0, 0, by omega, by omega, rfl, rfl, rfl, by simp [Sm], fun h => absurd h (by omega), Below.refl _ _⟩
            case round =>
              obtain ⟨u, many, q, len, k, hgk2, hu, rfl, rfl, rfl, hmany, hlast, hb2⟩ := hrel
              obtain ⟨W2, rfl⟩ : ∃ W2 : World, W2 = wr := ⟨_, rfl⟩
              replace hgk2 := Lib.hid hgk2
              have hSm := Lib.hid (Sm_le (n := n) (m := m) (R := R) (C := C) (c := c1) (y := y) (x := x) hu)
              have hS2 := Lib.hid (Sm_two (R := R) (C := C) hlt hx hx0'.out)
              have hbf := Lib.hid (hb1.out.trans (hb2.out.mono (Nat.le_trans hBw.out hb1.out.size)))
              have hmm : many ≤ most := by rw [hmany]; exact Nat.min_le_left _ _
              rcases Nat.lt_or_ge many most with hlm | hlm
              · rcases Nat.lt_or_ge u 2 with hu2 | hu2
                · have hP2 := hP.out.below hb2.out (Nat.le_refl _)
                  have HCp := Lib.hid (copied_any hP2 hn'.out hm'.out)
                  have hmS : Hid (many = Sm n m R C c1 y x u) := by show _ = _; omega
                  have hul : (u : Int) < 2 := by omega
                  obtain ⟨rest, hrest⟩ : ∃ r : Nat, r = most - many := ⟨_, rfl⟩
                  have hri : (most : Int) - (many : Int) = (rest : Int) := by omega
                  have hr1 : 1 ≤ rest ∧ rest ≤ 1000 := by omega
                  replace hr1 := Lib.hid hr1; replace hrest := Lib.hid hrest; replace hmany := Lib.hid hmany
                  clear hP2
                  go_wp2_with fail
                  refine HCp.out.mono ?_
                  rintro e W3 ⟨pb2, cb2, kc2, g2, kp2, rfl, hP3, hb3⟩
                  have q2 := hP3.k2
                  have q3 := hP3.at hlt
                  have q4 := hP3.cell hlt hx
                  have q5 := hP3.cellF hlt x
                  have q6 := hP3.cap hlt
                  have hP4 := hP3.set1 (x0 := x) hlt (u : Int)
                  have hb4 := hb3.setCell (p := ⟨g2 y, x, none⟩) (hP3.lt.2.2.2 y hlt).2 (.int .i64 (u : Int))
                  have hBW2 : B ≤ W2.heap.size := Nat.le_trans (Nat.le_trans hBw.out hb1.out.size) hb2.out.size
                  have hbw4 := hbf.out.trans (hb4.mono hBW2)
                  have hu01 : ((u : Nat) : Int) = 0 ∨ ((u : Nat) : Int) = 1 := by omega
                  have hup := set1_up (n := n) (m := m) (y0 := y) (x0 := x) hx0'.out hu01
                  have hop2 : opn n m (set1 c1 y x (u : Int)) < K := by
                    have h1 := opn_lt hup hlt hx (by rw [hx0'.out]; unfold set1; rw [if_pos ⟨rfl, rfl⟩]; omega)
                    have h2 := hop.out
                    have h3 := hK.out
                    omega
                  have HI := Lib.hid (ih.out W2.heap.size _ pb2 cb2 kc2 g2 kp2 _ rest hop2 hP4 (hup.vld hS.out.vld) ((HR.out _ hbw4).mono hBW2) ((HC.out _ hbw4).mono hBW2) hr1.out)
                  have hb4 := Lib.hid hb4; have hup := Lib.hid hup; have hBW2 := Lib.hid hBW2
                  clear HCp hP3 hb3 hP4 hbw4 hop2 hu01
                  generalize c1 y x = old at q4
                  generalize g2 y = g2y at *
                  generalize kp2 y = kp2y at *
                  go_wp2_with fail
                  generalize W3.setCell ⟨g2y, x, none⟩ (.int .i64 (u : Int)) = W4 at *
                  refine HI.out.mono ?_
                  rintro e W5 ⟨hb5, v5, q5', len5, k5, rfl, hv5, hs5⟩
                  have hb25 := hb4.out.trans (hb5.mono (Nat.le_refl _))
                  have hb15 := Lib.hid (hb2.out.trans (hb25.mono hb2.out.size))
                  have hnew : Hid (many + v5 = min most (Sm n m R C c1 y x (u + 1))) := by
                    show _ = _
                    have : Sm n m R C c1 y x (u + 1) = Sm n m R C c1 y x u + cntP n m R C (set1 c1 y x (u : Nat)) := rfl
                    have h1 := hmS.out
                    have h2 := hrest.out
                    rw [this, ← h1]; omega
                  have hs6 : Hid (1 ≤ v5 → len5 = n * m ∧ ∃ s, s ∈ bitsL (n * m) ∧ slv n m R C c s = true ∧ IntsIn W5 q5' (n * m) (asI s)) := fun h1 => by
                    obtain ⟨h2, s, h3, h4, h5⟩ := hs5 h1
                    obtain ⟨h6, h7⟩ := (slv_iff h3).1 h4
                    exact ⟨h2, s, h3, (slv_iff h3).2 ⟨h6, hS.out.rf.trans (hup.out.trans h7)⟩, h5⟩
                  have hs7 : Hid (1 ≤ many → len = n * m ∧ ∃ s, s ∈ bitsL (n * m) ∧ slv n m R C c s = true ∧ IntsIn W5 q (n * m) (asI s)) := fun h1 => by
                    obtain ⟨h2, s, h3, h4, h5⟩ := hlast.out h1
                    exact ⟨h2, s, h3, h4, h5.below hb25⟩
                  have hv5l : v5 ≤ 1000 := by have := hr1.out; rw [hv5]; omega
                  replace hv5 := Lib.hid hv5
                  clear HI hb5 hb25 hs5 hlast hbf hb2 hb4 q2 q3 q4 q5 q6
                  rcases Nat.eq_zero_or_pos v5 with hv0 | hv0
                  · subst hv0
                    go_wp2_with fail
                    have hgk2 := hgk2.out
                    go_roundg (2 - (u + 1))
                    case measure => omega
                    case rel => exact ⟨u + 1, many, q, len, k, rfl, by omega, by go_num, rfl, rfl, hnew.out, hs7, hb15⟩
                  · have hvp : (0 : Int) < (v5 : Int) := by omega
                    go_wp2_with fail
                    have hgk2 := hgk2.out
                    go_roundg (2 - (u + 1))
                    case measure => omega
                    case rel => exact ⟨u + 1, many + v5, q5', len5, k5, rfl, by omega, by go_num, by go_num, rfl, hnew.out, fun _ => hs6.out hv0, hb15⟩
                · obtain rfl : u = 2 := by omega
                  have hfin : Hid (many = min most (cntP n m R C c)) := by
                    show _ = _
                    rw [hcnt.out, ← hS2.out]; exact hmany
                  replace hmany := Lib.hid hmany
                  go_wp2_with fail
                  go_ret2
                  exact ⟨hbf.out, many, q, len, k, rfl, hfin.out, hlast.out⟩
              · have hfin : Hid (many = min most (cntP n m R C c)) := by
                  show _ = _
                  have := hSm.out
                  rw [hcnt.out, ← hS2.out]; omega
                obtain rfl : many = most := by omega
                replace hmany := Lib.hid hmany
                rcases Nat.lt_or_ge u 2 with hu2 | hu2
                · have hul : (u : Int) < 2 := by omega
                  go_wp2_with fail
                  go_ret2
                  exact ⟨hbf.out, many, q, len, k, rfl, hfin.out, hlast.out⟩
                · obtain rfl : u = 2 := by omega
                  go_wp2_with fail
                  go_ret2
                  exact ⟨hbf.out, many, q, len, k, rfl, hfin.out, hlast.out⟩
        · obtain rfl : y = n := by omega
          have hfull : Hid (Full y m c1) := fun y' x hy' hx => by
            rcases hS.out.vld y' x hy' hx with e | e
            · exact absurd e (hno.out y' x hy' hx)
            · exact e
          have hgood : Hid (Good y m R C c1) := ⟨hfull.out, hL.out⟩
          have HQ := Lib.hid (concat_any cb y m kc g kp _ W1 hn'.out hm'.out hP.out.rows)
          rw [catI_flat, flatI_full hfull.out] at HQ
          go_wp2_with fail
          refine HQ.out.mono ?_
          rintro e W2 ⟨q, k, rfl, hO2, hb2⟩
          have hbf := Lib.hid (hb1.out.trans (hb2.mono (Nat.le_trans hBw.out hb1.out.size)))
          have hin2 := Lib.hid hO2.in
          clear HQ hO2 hb2
          go_wp2_with fail
          go_ret2
          have h1 := cnt_full hgood.out
          refine ⟨hbf.out, 1, q, y * m, k, rfl, by rw [hcnt.out, h1]; omega, fun _ => ⟨rfl, flat y m c1, flat_bits hfull.out, ?_, hin2.out⟩⟩
          have he : ∀ y' x, y' < y → x < m → c1 y' x = ofL m (flat y m c1) y' x := fun y' x hy' hx => (flat_at hfull.out hy' hx).symm
          exact (slv_iff (flat_bits hfull.out)).2 ⟨hgood.out.eq he, hS.out.rf.trans fun y' x hy' hx => .inl (he y' x hy' hx)⟩
end Go.Proofs.Ytkklcfaghnfleaa
