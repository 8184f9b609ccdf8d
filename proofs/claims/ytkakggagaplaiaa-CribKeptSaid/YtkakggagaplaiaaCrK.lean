/- What crib.Keep computes of six unlike cards: the best four; conditions: as said. -/
import Derived.Test.YtkakggagaplaiaaCrW
import Derived.Test.YtkakggagaplaiaaSlV
import Derived.BigRegion
namespace Go.Proofs.Ytkakggagaplaiaa
open Go.RowKit

def cb (h : List Nat) (a b c d : Nat) : List Nat := [st h a, st h b, st h c, st h d]
def inB (h : List Nat) (s : Nat) : Bool := (asI h).contains (s : Int)
/-- what four cards bring with the first s starts that are not in the hand. -/
def sm (h x : List Nat) : Nat → Nat
  | 0 => 0
  | s + 1 => sm h x s + if inB h s then 0 else show5 (x ++ [s]) false
def cN (a b c d : Nat) : Nat := ((a * 7 + b) * 7 + c) * 7 + d
theorem show5_le {l : List Nat} (hll : l.length = 5) (cr : Bool) : show5 l cr ≤ 457763672000 := by
  have b0 := cS_le l 5 15 32
  have b1 := pS_le l 5
  have b2 : (rnS (mny l) 14).2 ≤ 15 * 5 ^ 15 := rn_bd (mny_le hll) 14
  have b3 : flS l cr ≤ 5 := by unfold flS; (repeat' split) <;> omega
  have b4 : jkS l ≤ 1 := by unfold jkS; split <;> omega
  unfold show5
  omega
theorem sm_le (h x : List Nat) (hx : x.length = 4) : ∀ s, sm h x s ≤ 457763672000 * s
  | 0 => Nat.le_refl _
  | s + 1 => by
    have h1 := sm_le h x hx s
    have h2 := show5_le (l := x ++ [s]) (by simp [hx]) false
    simp only [sm]
    split <;> omega
theorem contains_any (p : Option Addr) (n c : Nat) (h : List Nat) (s : Nat) (w : World) (hn0 : 0 < n) (hn : n ≤ 1000) (hx : IntsIn w p n (asI h)) :
    Calls Try.prog 38 #[.slice p n c, .int .i64 s] w fun e w' => e = .returned (.bool (inB h s)) ∧ w = w' := by
  have hl := hx.len
  obtain ⟨b, o, rfl, _, hc⟩ := hx.cells hn0
  refine (Sh.slices_Contains_int b o n c (asI h) s w (by omega) (by omega) hc).mono fun e w' ⟨h1, h2⟩ => ⟨?_, h2.symm⟩
  rw [h1, List.take_of_length_le (by omega)]; rfl
/-- the best of what was tried so far. -/
def Bst (h : List Nat) (W : World) (bv : Value) (mv : Int) (t : Nat) : Prop :=
  (bv = .slice none 0 0 ∧ mv = -1 ∧ t ≤ cN 0 1 2 3) ∨
  ∃ a b c d q cq, a < b ∧ b < c ∧ c < d ∧ d < 6 ∧ bv = .slice q 4 cq ∧ mv = (sm h (cb h a b c d) 52 : Nat) ∧ IntsIn W q 4 (asI (cb h a b c d)) ∧
    ∀ a' b' c' d', a' < b' → b' < c' → c' < d' → d' < 6 → cN a' b' c' d' < t → sm h (cb h a' b' c' d') 52 ≤ sm h (cb h a b c d) 52
theorem Bst.keep {h : List Nat} {W X : World} {bv : Value} {mv : Int} {t : Nat} (hb : Bst h W bv mv t) (hB : Below W.heap.size W X) : Bst h X bv mv t := by
  rcases hb with h1 | ⟨a, b, c, d, q, cq, h1, h2, h3, h4, h5, h6, h7, h8⟩
  · exact .inl h1
  · exact .inr ⟨a, b, c, d, q, cq, h1, h2, h3, h4, h5, h6, h7.below hB, h8⟩
theorem Bst.skip {h : List Nat} {W : World} {bv : Value} {mv : Int} {t t' : Nat} (hb : Bst h W bv mv t) (h0 : t' ≤ cN 0 1 2 3 ∨ ¬ t ≤ cN 0 1 2 3)
    (hs : ∀ a' b' c' d', a' < b' → b' < c' → c' < d' → d' < 6 → cN a' b' c' d' < t' → cN a' b' c' d' < t) : Bst h W bv mv t' := by
  rcases hb with ⟨h1, h2, h3⟩ | ⟨a, b, c, d, q, cq, h1, h2, h3, h4, h5, h6, h7, h8⟩
  · exact .inl ⟨h1, h2, by omega⟩
  · exact .inr ⟨a, b, c, d, q, cq, h1, h2, h3, h4, h5, h6, h7, fun a' b' c' d' g1 g2 g3 g4 g5 => h8 a' b' c' d' g1 g2 g3 g4 (hs a' b' c' d' g1 g2 g3 g4 g5)⟩
theorem Bst.lose {h : List Nat} {W : World} {bv : Value} {mv : Int} {a b c d : Nat} (k1 : a < b) (k2 : b < c) (k3 : c < d) (k4 : d < 6) (hb : Bst h W bv mv (cN a b c d)) (hM : ((sm h (cb h a b c d) 52 : Nat) : Int) ≤ mv) : Bst h W bv mv (cN a b c d + 1) := by
  rcases hb with ⟨h1, h2, h3⟩ | ⟨a0, b0, c0, d0, q, cq, h1, h2, h3, h4, h5, h6, h7, h8⟩
  · omega
  · refine .inr ⟨a0, b0, c0, d0, q, cq, h1, h2, h3, h4, h5, h6, h7, fun a' b' c' d' g1 g2 g3 g4 g5 => ?_⟩
    rcases Nat.lt_or_ge (cN a' b' c' d') (cN a b c d) with hlt | hge
    · exact h8 a' b' c' d' g1 g2 g3 g4 hlt
    · have he : a' = a ∧ b' = b ∧ c' = c ∧ d' = d := by unfold cN at *; omega
      obtain ⟨rfl, rfl, rfl, rfl⟩ := he
      omega
theorem Bst.win {h : List Nat} {W X : World} {bv : Value} {mv : Int} {a b c d cq : Nat} {q : Option Addr} (k1 : a < b) (k2 : b < c) (k3 : c < d) (k4 : d < 6) (hb : Bst h W bv mv (cN a b c d)) (hM : mv < ((sm h (cb h a b c d) 52 : Nat) : Int)) (hx : IntsIn X q 4 (asI (cb h a b c d))) :
    Bst h X (.slice q 4 cq) ((sm h (cb h a b c d) 52 : Nat) : Int) (cN a b c d + 1) := by
  refine .inr ⟨a, b, c, d, q, cq, k1, k2, k3, k4, rfl, rfl, hx, fun a' b' c' d' g1 g2 g3 g4 g5 => ?_⟩
  rcases Nat.lt_or_ge (cN a' b' c' d') (cN a b c d) with hlt | hge
  · rcases hb with ⟨h1, h2, h3⟩ | ⟨a0, b0, c0, d0, q, cq, h1, h2, h3, h4, h5, h6, h7, h8⟩
    · exfalso
      unfold cN at *; omega
    · have := h8 a' b' c' d' g1 g2 g3 g4 hlt
      omega
  · have he : a' = a ∧ b' = b ∧ c' = c ∧ d' = d := by unfold cN at *; omega
    obtain ⟨rfl, rfl, rfl, rfl⟩ := he
    exact Nat.le_refl _
theorem sk4 {a b c : Nat} (h1 : a < b) (h2 : b < c) (h3 : c < 6) : (cN a b (c + 1) (c + 2) ≤ cN 0 1 2 3 ∨ ¬ cN a b c 6 ≤ cN 0 1 2 3) ∧ ∀ a' b' c' d', a' < b' → b' < c' → c' < d' → d' < 6 → cN a' b' c' d' < cN a b (c + 1) (c + 2) → cN a' b' c' d' < cN a b c 6 :=
  ⟨.inr (by unfold cN; omega), fun a' b' c' d' g1 g2 g3 g4 g5 => by unfold cN at *; omega⟩
theorem sk3 {a b : Nat} (h1 : a < b) (h2 : b < 6) : (cN a (b + 1) (b + 2) (b + 3) ≤ cN 0 1 2 3 ∨ ¬ cN a b 6 7 ≤ cN 0 1 2 3) ∧ ∀ a' b' c' d', a' < b' → b' < c' → c' < d' → d' < 6 → cN a' b' c' d' < cN a (b + 1) (b + 2) (b + 3) → cN a' b' c' d' < cN a b 6 7 :=
  ⟨.inr (by unfold cN; omega), fun a' b' c' d' g1 g2 g3 g4 g5 => by unfold cN at *; omega⟩
theorem sk2 {a : Nat} (h1 : a < 6) : (cN (a + 1) (a + 2) (a + 3) (a + 4) ≤ cN 0 1 2 3 ∨ ¬ cN a 6 7 8 ≤ cN 0 1 2 3) ∧ ∀ a' b' c' d', a' < b' → b' < c' → c' < d' → d' < 6 → cN a' b' c' d' < cN (a + 1) (a + 2) (a + 3) (a + 4) → cN a' b' c' d' < cN a 6 7 8 :=
  ⟨.inr (by unfold cN; omega), fun a' b' c' d' g1 g2 g3 g4 g5 => by
    unfold cN at *
    rcases Nat.lt_or_ge a a' with h | h
    · exfalso; omega
    · rcases Nat.lt_or_ge a' a with h2 | h2
      · omega
      · obtain rfl : a' = a := by omega
        omega⟩
theorem cN_6 (a b c d : Nat) (h : a < b ∧ b < c ∧ c < d ∧ d < 6) : cN a b c d < cN 6 7 8 9 := by unfold cN; omega
theorem cN_0 : ¬ cN 6 7 8 9 ≤ cN 0 1 2 3 := by unfold cN; omega
set_option maxRecDepth 100000 in
set_option maxHeartbeats 16000000 in
theorem keep_any (p : Option Addr) (c0 : Nat) (h : List Nat) (w : World) (hx : IntsIn w p 6 (asI h)) (hl : ∀ x ∈ h, x < 52) (hd : h.Nodup) :
    Calls Try.prog 27 #[.slice p 6 c0] w fun e w' => ∃ a b c d q cq, a < b ∧ b < c ∧ c < d ∧ d < 6 ∧ e = .returned (.tuple #[.slice q 4 cq, .int .i64 (sm h (cb h a b c d) 52 : Nat), .int .i64 0]) ∧ IntsIn w' q 4 (asI (cb h a b c d)) ∧
      (∀ a' b' c' d', a' < b' → b' < c' → c' < d' → d' < 6 → sm h (cb h a' b' c' d') 52 ≤ sm h (cb h a b c d) 52) ∧ Below w.heap.size w w' := by
  have hll : h.length = 6 := by have := hx.len; rwa [asI_len] at this
  have hst : Hid (∀ i, i < 6 → st h i < 52) := fun i hi => hl _ (st_mem (by omega))
  have HK := Lib.hid (check_any p 6 c0 h w (by omega) hx hl hd)
  obtain ⟨bb, oo, rfl, hbb, hcc⟩ := hx.at (by omega)
  have hcell : Hid (∀ j, j < 6 → w.cell? ⟨bb, oo + j, none⟩ = some (.int .i64 (st h j : Nat))) := fun j hj => by rw [hcc j hj, asI_at]
  have HN : Hid (∀ s W, Below w.heap.size w W → Calls Try.prog 38 #[.slice (some ⟨bb, oo, none⟩) 6 c0, .int .i64 (s : Nat)] W fun e w' => e = .returned (.bool (inB h s)) ∧ W = w') := fun s W hW => contains_any _ 6 c0 h s W (by omega) (by omega) (hx.below hW)
  replace hx := Lib.hid hx; replace hl := Lib.hid hl; replace hd := Lib.hid hd
  clear hcc
  go_enter Try.func27, Try.ntmps27
  go_wp2_with fail
  refine HK.out.mono ?_
  rintro e w1 ⟨rfl, hB1⟩
  have hb0 : Hid (Bst h w1 (.slice none 0 0) (-1) (cN 0 1 2 3)) := .inl ⟨rfl, rfl, Nat.le_refl _⟩
  replace hB1 := Lib.hid hB1
  clear HK
  go_wp2_with fail
  go_loopg [6, 7, 23] 6 (fun gk bv mv iv W' => ∃ (a : Nat) (M : Int) (B : Value), bv = B ∧ a ≤ 6 ∧ gk = 6 - a ∧ iv = .int .i64 a ∧ mv = .int .i64 M ∧ Bst h W' B M (cN a (a + 1) (a + 2) (a + 3)) ∧ Below w.heap.size w W')
  case atStart => exact ⟨0, -1, _, rfl, by omega, by omega, rfl, rfl, hb0.out, hB1.out⟩
  case round =>
    obtain ⟨a, M, bv, rfl, ha, hgk, rfl, rfl, hb, hB⟩ := hrel
    obtain ⟨W1, rfl⟩ : ∃ W1 : World, W1 = wr := ⟨_, rfl⟩
    replace hgk := Lib.hid hgk; replace hb := Lib.hid hb; replace hB := Lib.hid hB
    clear hb0 hB1
    by_cases hlt : a < 6
    · have ea : decide ((a : Int) < 6) = true := decide_eq_true (by omega)
      go_wp2_with fail
      go_loopg [6, 7, 9] (6 - (a + 1)) (fun gk bv mv iv W' => ∃ (b : Nat) (M : Int) (B : Value), bv = B ∧ a < b ∧ b ≤ 6 ∧ gk = 6 - b ∧ iv = .int .i64 b ∧ mv = .int .i64 M ∧ Bst h W' B M (cN a b (b + 1) (b + 2)) ∧ Below w.heap.size w W')
      case atStart => exact ⟨a + 1, M, _, rfl, by omega, by omega, rfl, by go_num, rfl, hb.out, hB.out⟩
      case round =>
        obtain ⟨b, M, bv, rfl, hab, hb6, hgk2, rfl, rfl, hb, hB⟩ := hrel
        obtain ⟨W2, rfl⟩ : ∃ W2 : World, W2 = wr := ⟨_, rfl⟩
        replace hgk2 := Lib.hid hgk2; replace hb := Lib.hid hb; replace hB := Lib.hid hB
        by_cases hlt2 : b < 6
        · have eb : decide ((b : Int) < 6) = true := decide_eq_true (by omega)
          go_wp2_with fail
          go_loopg [6, 7, 10] (6 - (b + 1)) (fun gk bv mv iv W' => ∃ (c : Nat) (M : Int) (B : Value), bv = B ∧ b < c ∧ c ≤ 6 ∧ gk = 6 - c ∧ iv = .int .i64 c ∧ mv = .int .i64 M ∧ Bst h W' B M (cN a b c (c + 1)) ∧ Below w.heap.size w W')
          case atStart => exact ⟨b + 1, M, _, rfl, by omega, by omega, rfl, by go_num, rfl, hb.out, hB.out⟩
          case round =>
            obtain ⟨c, M, bv, rfl, hbc, hc6, hgk3, rfl, rfl, hb, hB⟩ := hrel
            obtain ⟨W3, rfl⟩ : ∃ W3 : World, W3 = wr := ⟨_, rfl⟩
            replace hgk3 := Lib.hid hgk3; replace hb := Lib.hid hb; replace hB := Lib.hid hB
            by_cases hlt3 : c < 6
            · have ec : decide ((c : Int) < 6) = true := decide_eq_true (by omega)
              go_wp2_with fail
              go_loopg [6, 7, 11] (6 - (c + 1)) (fun gk bv mv iv W' => ∃ (d : Nat) (M : Int) (B : Value), bv = B ∧ c < d ∧ d ≤ 6 ∧ gk = 6 - d ∧ iv = .int .i64 d ∧ mv = .int .i64 M ∧ Bst h W' B M (cN a b c d) ∧ Below w.heap.size w W')
              case atStart => exact ⟨c + 1, M, _, rfl, by omega, by omega, rfl, by go_num, rfl, hb.out, hB.out⟩
              case round =>
                obtain ⟨d, M, bv, rfl, hcd, hd6, hgk4, rfl, rfl, hb, hB⟩ := hrel
                obtain ⟨W4, rfl⟩ : ∃ W4 : World, W4 = wr := ⟨_, rfl⟩
                replace hgk4 := Lib.hid hgk4; replace hb := Lib.hid hb
                by_cases hlt4 : d < 6
                · have ed : decide ((d : Int) < 6) = true := decide_eq_true (by omega)
                  have q0 : W4.cell? ⟨bb, oo + a, none⟩ = some (.int .i64 (st h a : Nat)) := (hB.cell (p := ⟨bb, oo + a, none⟩) hbb).trans (hcell.out a (by omega))
                  have q1 : W4.cell? ⟨bb, oo + b, none⟩ = some (.int .i64 (st h b : Nat)) := (hB.cell (p := ⟨bb, oo + b, none⟩) hbb).trans (hcell.out b (by omega))
                  have q2 : W4.cell? ⟨bb, oo + c, none⟩ = some (.int .i64 (st h c : Nat)) := (hB.cell (p := ⟨bb, oo + c, none⟩) hbb).trans (hcell.out c (by omega))
                  have q3 : W4.cell? ⟨bb, oo + d, none⟩ = some (.int .i64 (st h d : Nat)) := (hB.cell (p := ⟨bb, oo + d, none⟩) hbb).trans (hcell.out d (by omega))
                  have hx4 : Hid (cb h a b c d = [st h a, st h b, st h c, st h d]) := rfl
                  have hs4 : Hid (∀ i, i < 4 → st (cb h a b c d) i < 52) := fun i hi => by
                    rcases (show i = 0 ∨ i = 1 ∨ i = 2 ∨ i = 3 by omega) with rfl | rfl | rfl | rfl
                    · exact hst.out a (by omega)
                    · exact hst.out b (by omega)
                    · exact hst.out c (by omega)
                    · exact hst.out d (by omega)
                  generalize st h a = va at *
                  generalize st h b = vb at *
                  generalize st h c = vc at *
                  generalize st h d = vd at *
                  have hxl : Hid ((cb h a b c d).length = 4) := rfl
                  replace hB := Lib.hid hB
                  have i0 : (a : Int) < 6 := by omega
                  have i1 : (b : Int) < 6 := by omega
                  have i2 : (c : Int) < 6 := by omega
                  have i3 : (d : Int) < 6 := by omega
                  have j0 : (0 : Int) ≤ (a : Int) := by omega
                  have j1 : (0 : Int) ≤ (b : Int) := by omega
                  have j2 : (0 : Int) ≤ (c : Int) := by omega
                  have j3 : (0 : Int) ≤ (d : Int) := by omega
                  go_upto_region 20 with fail
                  go_cut [12] (fun v wx => ∃ g, v = .slice (some ⟨g, 0, none⟩) 5 5 ∧ Nums wx g 3 (asI [va, vb, vc, vd, 0]) ∧ Below W4.heap.size W4 wx ∧ W4.heap.size ≤ g)
                  case first =>
                    go_region
                    all_goals
                      go_wp2_with fail
                      go_meet
                      exact ⟨_, rfl, heap_alloc_new W4 _, (((Below.refl W4.heap.size W4).alloc (Nat.le_refl _) _).drew), Nat.le_refl _⟩
                  case rest =>
                    obtain ⟨g, rfl, hN5, hB5, hg5⟩ := hcut
                    obtain ⟨W5, rfl⟩ : ∃ W5 : World, W5 = wc := ⟨_, rfl⟩
                    replace hN5 := Lib.hid hN5; replace hB5 := Lib.hid hB5; replace hg5 := Lib.hid hg5
                    clear q0 q1 q2 q3
                    go_wp2_with fail
                    go_loopg [13, 61] 52 (fun gk sv iv W' => ∃ (s v : Nat), s ≤ 52 ∧ gk = 52 - s ∧ iv = .int .i64 s ∧ sv = .int .i64 (sm h (cb h a b c d) s : Nat) ∧ Nums W' g 3 (asI [va, vb, vc, vd, v]) ∧ Below W4.heap.size W4 W')
                    case atStart => exact ⟨0, 0, by omega, by omega, rfl, rfl, hN5.out, hB5.out⟩
                    case round =>
                      obtain ⟨s, v, hs, hgk5, rfl, rfl, hN6, hB6⟩ := hrel
                      obtain ⟨W6, rfl⟩ : ∃ W6 : World, W6 = wr := ⟨_, rfl⟩
                      replace hgk5 := Lib.hid hgk5
                      have hsm := sm_le h (cb h a b c d) hxl.out s
                      have hBw6 := Lib.hid (hB.out.trans (hB6.mono hB.out.size))
                      by_cases hlt5 : s < 52
                      · have hstp : Hid (sm h (cb h a b c d) (s + 1) = sm h (cb h a b c d) s + if inB h s then 0 else show5 (cb h a b c d ++ [s]) false) := rfl
                        generalize sm h (cb h a b c d) s = A at *
                        have HNs := Lib.hid (HN.out s W6 hBw6.out)
                        cases hin : inB h s with
                        | true =>
                          rw [hin] at HNs hstp
                          have hst2 : Hid (A = sm h (cb h a b c d) (s + 1)) := by show _ = _; rw [hstp.out]; rfl
                          replace hN6 := Lib.hid hN6; replace hB6 := Lib.hid hB6
                          clear hstp hin
                          go_wp2_with fail
                          refine HNs.out.mono ?_
                          rintro e w' ⟨rfl, rfl⟩
                          go_wp2_with fail
                          have hgk5 := hgk5.out
                          go_roundg (52 - (s + 1))
                          case measure => omega
                          case rel => exact ⟨s + 1, v, by omega, rfl, by go_num, by rw [← hst2.out], hN6.out, hB6.out⟩
                        | false =>
                          rw [hin] at HNs hstp
                          have hv5 := hN6.cellN (i := 4) (Nat.le_refl 5)
                          have f5 := hN6.free 4
                          have hN7 : Hid (Nums (W6.setCell ⟨g, 4, none⟩ (.int .i64 (s : Int))) g 3 (asI [va, vb, vc, vd, s])) := hN6.set 4 (s : Int)
                          have hB7 := Lib.hid (hB6.setCell (p := ⟨g, 4, none⟩) hg5.out (.int .i64 (s : Int)))
                          have hsh := Lib.hid (show5_le (l := cb h a b c d ++ [s]) (by simp [hxl.out]) false)
                          have hs5 : Hid (∀ i, i < 5 → st (cb h a b c d ++ [s]) i < 52) := fun i hi => by
                            by_cases e : i < 4
                            · have : st (cb h a b c d ++ [s]) i = st (cb h a b c d) i := by unfold st; rw [List.getElem?_append_left (by rw [hxl.out]; exact e)]
                              rw [this]; exact hs4.out i e
                            · obtain rfl : i = 4 := by omega
                              exact hlt5
                          have hxe : Hid (cb h a b c d ++ [s] = [va, vb, vc, vd, s]) := by show _ = _; rw [hx4.out]; rfl
                          have HS : Hid (Calls Try.prog 52 #[.slice (some ⟨g, 0, none⟩) 5 5, .bool false] (W6.setCell ⟨g, 4, none⟩ (.int .i64 (s : Int))) fun e w' => e = .returned (.int .i64 (show5 (cb h a b c d ++ [s]) false : Nat)) ∧ Below (W6.setCell ⟨g, 4, none⟩ (.int .i64 (s : Int))).heap.size (W6.setCell ⟨g, 4, none⟩ (.int .i64 (s : Int))) w') :=
                            show_any _ 5 false _ _ (by omega) (by rw [hxe.out]; exact hN7.out.in rfl) hs5.out
                          have hst2 : Hid (A + show5 (cb h a b c d ++ [s]) false = sm h (cb h a b c d) (s + 1)) := by show _ = _; rw [hstp.out]; rfl
                          generalize show5 (cb h a b c d ++ [s]) false = V at *
                          have hsh2 := hsh.out
                          clear hstp hin hN6 hB6 hsh
                          go_wp2_with fail
                          refine HNs.out.mono ?_
                          rintro e w' ⟨rfl, rfl⟩
                          go_wp2_with fail
                          refine HS.out.mono ?_
                          rintro e w7 ⟨rfl, hB8⟩
                          have hN8 : Hid (Nums w7 g 3 (asI [va, vb, vc, vd, s])) := (Below.block hB8 _ hN7.out.lt).trans hN7.out
                          have hB9 := Lib.hid (hB7.out.trans (hB8.mono hB7.out.size))
                          clear hB8 HS HNs hN7 hB7 hv5 f5
                          go_wp2_with fail
                          have hgk5 := hgk5.out
                          go_roundg (52 - (s + 1))
                          case measure => omega
                          case rel => exact ⟨s + 1, s, by omega, rfl, by go_num, by rw [← hst2.out]; go_num, hN8.out, hB9.out⟩
                      · obtain rfl : s = 52 := by omega
                        have hb6 : Hid (Bst h W6 _ M (cN a b c d)) := hb.out.keep hB6
                        have hin4 : IntsIn W6 (some ⟨g, 0, none⟩) 4 (asI (cb h a b c d)) := by
                          rw [hx4.out]
                          exact ((hN6.in (n := 5) rfl).part 0 4 (by omega) (by omega) (some ⟨g, 0, none⟩) (fun _ => rfl))
                        have HC := Lib.hid (clone_any (some ⟨g, 0, none⟩) 4 5 _ W6 (by omega) hin4)
                        generalize hA : sm h (cb h a b c d) 52 = A at *
                        replace hN6 := Lib.hid hN6; replace hB6 := Lib.hid hB6
                        clear hin4
                        by_cases hMA : M < (A : Int)
                        · have eM : decide (M < (A : Int)) = true := decide_eq_true hMA
                          go_wp2_with fail
                          refine HC.out.mono ?_
                          rintro e w7 ⟨q7, c7, rfl, hO7, hB7⟩
                          have hb7 : Hid (Bst h w7 (.slice q7 4 c7) (A : Nat) (cN a b c d + 1)) := by
                            have := Bst.win (cq := c7) hab hbc hcd hlt4 hb6.out (by rw [hA]; exact hMA) hO7.in
                            rw [hA] at this; exact this
                          have hB8 := Lib.hid (hBw6.out.trans (hB7.mono hBw6.out.size))
                          clear hO7 hB7 HC hb6
                          go_wp2_with fail
                          have hgk4 := hgk4.out
                          go_roundg (6 - (d + 1))
                          case measure => omega
                          case rel => exact ⟨d + 1, (A : Nat), _, rfl, by omega, by omega, rfl, by go_num, rfl, by have := hb7.out; unfold cN at *; exact this, hB8.out⟩
                        · have eM : decide (M < (A : Int)) = false := decide_eq_false hMA
                          have hb7 : Hid (Bst h W6 _ M (cN a b c d + 1)) := Bst.lose hab hbc hcd hlt4 hb6.out (by rw [hA]; omega)
                          clear HC hb6
                          go_wp2_with fail
                          have hgk4 := hgk4.out
                          go_roundg (6 - (d + 1))
                          case measure => omega
                          case rel => exact ⟨d + 1, M, _, rfl, by omega, by omega, rfl, by go_num, rfl, by have := hb7.out; unfold cN at *; exact this, hBw6.out⟩
                · obtain rfl : d = 6 := by omega
                  replace hB := Lib.hid hB
                  go_wp2_with fail
                  have hgk3 := hgk3.out
                  go_roundg (6 - (c + 1))
                  case measure => omega
                  case rel => exact ⟨c + 1, M, _, rfl, by omega, by omega, rfl, by go_num, rfl, hb.out.skip (sk4 hab hbc hlt3).1 (sk4 hab hbc hlt3).2, hB.out⟩
            · obtain rfl : c = 6 := by omega
              go_wp2_with fail
              have hgk2 := hgk2.out
              go_roundg (6 - (b + 1))
              case measure => omega
              case rel => exact ⟨b + 1, M, _, rfl, by omega, by omega, rfl, by go_num, rfl, hb.out.skip (sk3 hab hlt2).1 (sk3 hab hlt2).2, hB.out⟩
        · obtain rfl : b = 6 := by omega
          go_wp2_with fail
          have hgk := hgk.out
          go_roundg (6 - (a + 1))
          case measure => omega
          case rel => exact ⟨a + 1, M, _, rfl, by omega, rfl, by go_num, rfl, hb.out.skip (sk2 hlt).1 (sk2 hlt).2, hB.out⟩
    · obtain rfl : a = 6 := by omega
      rcases hb.out with ⟨h1, h2, h3⟩ | ⟨a0, b0, c0', d0, q, cq, h1, h2, h3, h4, rfl, rfl, h7, h8⟩
      · exact absurd h3 cN_0
      · replace h7 := Lib.hid h7
        have h8' : Hid (∀ a' b' c' d', a' < b' → b' < c' → c' < d' → d' < 6 → sm h (cb h a' b' c' d') 52 ≤ sm h (cb h a0 b0 c0' d0) 52) := fun a' b' c' d' g1 g2 g3 g4 => h8 a' b' c' d' g1 g2 g3 g4 (cN_6 a' b' c' d' ⟨g1, g2, g3, g4⟩)
        clear hb h8
        go_wp2_with fail
        go_ret3
        exact ⟨a0, b0, c0', d0, q, cq, h1, h2, h3, h4, rfl, h7.out, h8'.out, hB.out⟩
end Go.Proofs.Ytkakggagaplaiaa
