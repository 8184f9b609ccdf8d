/- The search for a value; conditions: a board of at most 10 by 10 places. -/
import Derived.Test.YtfoojdkbonmmgaaFalG
namespace Go.Proofs.Ytfoojdkbonmmgaa
open Go.RowKit

/-- what the search leaves. -/
def SeekEnd (B : Nat) (w : World) (g gc n : Nat) (cs : List Nat) (v low high : Int) (e : Ending) (w' : World) : Prop :=
  (∃ r wh : Int, e = .returned (.tuple #[.int .i64 r, .int .i64 wh]) ∧ AB v low high r ∧ -100 ≤ r ∧ r ≤ 100) ∧ Own 3 B w' (some ⟨g, 0, none⟩) n gc (asI cs) ∧ w.grownBy w' (some g)
theorem set_back {cs : List Nat} {a v : Nat} (h : a < cs.length) (h0 : st cs a = 0) : (cs.set a v).set a 0 = cs := by
  rw [List.set_set]
  apply List.ext_getElem
  · simp
  · intro i h1 h2
    rw [List.getElem_set]
    by_cases e : a = i
    · subst e
      unfold st at h0
      rw [List.getElem?_eq_getElem h] at h0
      simp only [Option.getD_some] at h0
      simp [h0]
    · rw [if_neg e]
theorem mxO_step {val : Nat → Option Int} {c : Nat} {v : Int} (h : val c = some v) : mxO val (c + 1) = mxS (mxO val c) v := by
  show (match mxO val c, val c with | none, v => v | some m, none => some m | some m, some v => some (max m v)) = _
  rw [h]
  cases mxO val c <;> rfl
theorem mxO_skip {val : Nat → Option Int} {c : Nat} (h : val c = none) : mxO val (c + 1) = mxO val c := by
  show (match mxO val c, val c with | none, v => v | some m, none => some m | some m, some v => some (max m v)) = _
  rw [h]
  cases mxO val c <;> rfl
theorem AbI.brk {val : Nat → Option Int} {low high best wh : Int} {c W : Nat} (h : AbI (mxO val c) low high best wh) (hb : high ≤ best) (hl : -1000 ≤ low) (hlh : low < high) (hc : c ≤ W) : AB ((mxO val W).getD 0) low high best ∧ -100 ≤ best ∧ best ≤ 100 := by
  cases hm : mxO val c with
  | none => rw [hm] at h; obtain ⟨rfl, _⟩ := h; omega
  | some m =>
    rw [hm] at h
    obtain ⟨h1, h2, h3, h4, h5, h6⟩ := h
    obtain ⟨m', e, hle⟩ := mxO_mono hm hc
    rw [e, Option.getD_some]
    have := h4 hb
    exact ⟨⟨fun _ => by omega, fun _ => by omega, fun _ _ => by omega⟩, h1, h2⟩
theorem AbI.fin {M : Option Int} {low high best wh : Int} (h : AbI M low high best wh) : (wh < 0 ∧ M.getD 0 = 0) ∨ (0 ≤ wh ∧ AB (M.getD 0) low high best ∧ -100 ≤ best ∧ best ≤ 100) := by
  cases M with
  | none => obtain ⟨_, rfl⟩ := h; exact .inl ⟨by omega, rfl⟩
  | some m => obtain ⟨h1, h2, h3, h4⟩ := h; exact .inr ⟨h3, h4, h1, h2⟩
set_option maxRecDepth 20000 in
set_option maxHeartbeats 4000000 in
theorem seek_any {B wl g gc W H k n deep : Nat} (wb : List Nat → Nat → Bool) (hW : 1 ≤ W) (hW2 : W ≤ 10) (hH : H ≤ 10) (hn : n = W * H) (mv : Int) (hne : wl ≠ g) (hdp : deep ≤ 10)
    (hwb : ∀ cs x y, x < W → y < H → (wb cs (y * W + x) = true ↔ Row4 (cf W H cs) (st cs (y * W + x) : Nat) x y k)) :
    ∀ (f ply : Nat) (cs : List Nat) (who : Nat) (low high : Int) (w : World), deep = ply + f → cs.length = n → (who = 1 ∨ who = 2) → -1000 ≤ low → low < high → high ≤ 1000 →
      w.heap[wl]? = some (.cells #[.int .i64 W, .int .i64 H, .slice (some ⟨g, 0, none⟩) n gc, .int .i64 k, .int .i64 mv] 41 (0, 0)) → Own 3 B w (some ⟨g, 0, none⟩) n gc (asI cs) →
      Calls Try.prog 17 #[.pointer (some ⟨wl, 0, none⟩), .int .i64 who, .int .i64 ply, .int .i64 deep, .int .i64 low, .int .i64 high] w (SeekEnd B w g gc n cs (mm wb W H f ply cs who) low high) := by
  replace hwb := Lib.hid hwb
  intro f
  induction f with
  | zero =>
    intro ply cs who low high w hd hl hwho hlo hlh hhi hwl hO
    obtain rfl : deep = ply := by omega
    replace hO := Lib.hid hO
    replace hn := Lib.hid hn; replace hl := Lib.hid hl; replace hd := Lib.hid hd
    clear hwl
    go_enter Try.func17, Try.ntmps17
    go_wp2_with fail
    go_ret2
    exact ⟨⟨0, -1, rfl, AB.same _ _ _, by omega, by omega⟩, hO.out, grown_below (Below.refl _ _) _⟩
  | succ f ih =>
    intro ply cs who low high w hd hl hwho hlo hlh hhi hwl hO
    obtain ⟨c0, c1, c2, c3⟩ := wcells hwl
    have hgw := (hO.block _ rfl)
    have hgc : n ≤ gc := OwnC.cap (k := 1) hO
    have hn' := Lib.hid hn
    have hwl' := Lib.hid hwl
    have hpd : ¬ (ply : Int) = (deep : Int) := by omega
    have hply : ply ≤ 10 := by omega
    obtain ⟨val, hval⟩ : ∃ val, val = valF wb (mm wb W H f (ply + 1)) W H ply cs who := ⟨_, rfl⟩
    have hmm : Hid (mm wb W H (f + 1) ply cs who = (mxO val W).getD 0) := by rw [hval]; rfl
    obtain ⟨V, hV⟩ : ∃ V, V = mm wb W H (f + 1) ply cs who := ⟨_, rfl⟩
    rw [← hV] at hmm ⊢
    have hn100 : n ≤ 100 := by rw [hn]; exact Nat.mul_le_mul hW2 hH
    replace hV := Lib.hid hV; replace hval := Lib.hid hval; replace hO := Lib.hid hO; replace hl := Lib.hid hl; replace hgw := Lib.hid hgw; replace ih := Lib.hid ih
    replace hd := Lib.hid hd
    clear hwl hn
    go_enter Try.func17, Try.ntmps17
    go_wp2_with fail
    go_loopg [14, 15, 27] W (fun gk bv wv iv W' => ∃ (c : Nat) (best wh : Int), gk = W - c ∧ c ≤ W ∧ iv = .int .i64 (c : Nat) ∧ bv = .int .i64 best ∧ wv = .int .i64 wh ∧ Hid (AbI (mxO val c) low high best wh) ∧ best < high ∧ -1000 ≤ best ∧ Hid (Own 3 B W' (some ⟨g, 0, none⟩) n gc (asI cs)) ∧ Hid (w.grownBy W' (some g)))
    case atStart => exact ⟨0, -1000, -1, by omega, by omega, rfl, rfl, rfl, ⟨rfl, rfl⟩, by omega, by omega, hO, grown_below (Below.refl _ _) _⟩
    case round =>
      clear c0 c1 c2 c3
      obtain ⟨c, best, wh, hgk, hc, rfl, rfl, rfl, hI, hbh, hb0, hO1, hG1⟩ := hrel
      obtain ⟨W1, rfl⟩ : ∃ W1 : World, W1 = wr := ⟨_, rfl⟩
      replace hgk := Lib.hid hgk
      have hwl1 := (hG1.out.block wl (lt_of_heap hwl'.out) (by simpa using hne)).trans hwl'.out
      rcases Nat.lt_or_ge c W with hlt | hge
      · have HF := Lib.hid (fallG_any wl g gc W H k n c cs W1 hW hW2 hH hlt hn' mv hwl1 hO1.out.in)
        obtain ⟨c0, c1, c2, c3⟩ := wcells hwl1
        have hvc : Hid (val c = match fal cs W c H with | none => none | some a => some (if wb (cs.set a who) a then 99 - (ply : Int) else -(mm wb W H f (ply + 1) (cs.set a who) (3 - who)))) := by rw [hval.out]; rfl
        cases hfa : fal cs W c H with
        | none =>
          rw [hfa] at HF hvc
          rw [show fI none = -1 from rfl] at HF
          have hI2 : Hid (AbI (mxO val (c + 1)) low high best wh) := by rw [mxO_skip hvc.out]; exact hI
          go_wp2_with fail
          refine HF.out.mono ?_
          rintro e W2 ⟨rfl, rfl⟩
          go_wp2_with fail
          have hgk := hgk.out
          go_roundg (W - (c + 1))
          case measure => omega
          case rel => exact ⟨c + 1, best, wh, rfl, by omega, by go_num, rfl, rfl, hI2, hbh, hb0, hO1, hG1⟩
        | some a =>
          obtain ⟨y, hy, hay, ha0, -⟩ := fal_some hfa
          rw [hfa] at HF hvc
          rw [show fI (some a) = (a : Int) from rfl] at HF
          have han : a < n := by
            rw [hay, hn'.out, Nat.mul_comm W H]
            calc y * W + c < y * W + W := by omega
              _ = (y + 1) * W := by rw [Nat.add_mul, Nat.one_mul]
              _ ≤ H * W := Nat.mul_le_mul_right _ hy
          have hal : a < cs.length := by rw [hl.out]; exact han
          have ca := hO1.out.cell han
          rw [asI_at, ha0] at ca
          have fa := hO1.out.free a
          have hO2 := hO1.out.set a (who : Int)
          rw [← asI_set] at hO2
          have hG2 := Lib.hid (grown_set hG1.out a (.int .i64 (who : Int)))
          have hwl2 := (hG2.out.block wl (lt_of_heap hwl'.out) (by simpa using hne)).trans hwl'.out
          have hst2 : Hid (st (cs.set a who) a = who) := by show _ = _; unfold st; rw [List.getElem?_set_self hal]; rfl
          have hat2 : Hid (a = y * W + c) := hay
          have HW := Lib.hid (wonG_any wl g gc W H k a c y n (cs.set a who) (W1.setCell ⟨g, a, none⟩ (.int .i64 (who : Int))) hW hW2 hH hlt hy hat2 hn' mv hwl2 hO2.in who hst2)
          have hwbs := hwb.out (cs.set a who) c y hlt hy
          rw [← hay, hst2.out] at hwbs
          have hback := Lib.hid (set_back (v := who) hal ha0)
          have hl2 : Hid ((cs.set a who).length = n) := by show _ = _; rw [List.length_set]; exact hl.out
          have ha0i : (0 : Int) ≤ (a : Int) := by omega
          replace hvc : Hid (val c = some (if wb (cs.set a who) a then 99 - (ply : Int) else -(mm wb W H f (ply + 1) (cs.set a who) (3 - who)))) := hvc
          generalize hcs2 : cs.set a who = cs2 at *
          replace hcs2 := Lib.hid hcs2; replace hwbs := Lib.hid hwbs; replace hay := Lib.hid hay; replace ha0 := Lib.hid ha0; replace hO2 := Lib.hid hO2
          clear hfa
          go_wp2_with fail
          refine HF.out.mono ?_
          rintro e w' ⟨rfl, rfl⟩
          clear HF
          go_wp2_with fail
          generalize W1.setCell ⟨g, a, none⟩ (.int .i64 (who : Int)) = W2 at *
          refine HW.out.mono ?_
          rintro e W3 ⟨⟨b, rfl, hb⟩, hbw⟩
          have hwbb : Hid (wb cs2 a = b) := by
            show _ = _
            rw [Bool.eq_iff_iff]
            exact hwbs.out.trans hb.symm
          have hO3 := hO2.out.below hbw (Nat.le_refl _)
          have hG3 := Lib.hid (grown_trans hG2.out (grown_below hbw (some g)))
          have hwl3 := (hbw.block wl (lt_of_heap hwl2)).trans hwl2
          have hc3 := hO3.cell han
          have hf3 := hO3.free a
          clear HW hb hbw hwbs c0 c1 c2 c3 ca fa
          obtain ⟨c0, c1, c2, c3⟩ := wcells hwl3
          generalize (asI cs2)[a]?.getD 0 = old at hc3
          cases b with
          | true =>
            have hv : val c = some (99 - (ply : Int)) := by rw [hvc.out]; show some (if wb cs2 a = true then _ else _) = _; rw [hwbb.out, if_pos rfl]
            have hpl := hd.out
            have hnx := Lib.hid (hI.out.next (n := 100 - ((ply : Int) + 1)) (v := 99 - (ply : Int)) (c := c) hbh hlo (by omega) (.inr (by omega)))
            have hst := mxO_step hv
            rw [← hst] at hnx
            have hOf : Hid (Own 3 B (W3.setCell ⟨g, a, none⟩ (.int .i64 0)) (some ⟨g, 0, none⟩) n gc (asI cs)) := by
              have := hO3.set a 0
              show Own _ _ _ _ _ _ _
              rw [← hback.out, asI_set]; exact this
            have hGf := Lib.hid (grown_set hG3.out a (.int .i64 0))
            have hpb : (ply : Int) ≤ 10 := by omega
            replace hO3 := Lib.hid hO3
            clear hst hv hvc hpl
            rcases Int.lt_or_le best (100 - ((ply : Int) + 1)) with hbn | hbn
            · have hnx1 : Hid (AbI (mxO val (c + 1)) low high (100 - ((ply : Int) + 1)) (c : Nat)) := by have := hnx.out; rwa [if_pos hbn, if_pos hbn] at this
              have hbd : decide (best < 100 - ((ply : Int) + 1)) = true := decide_eq_true hbn
              rcases Int.lt_or_le (100 - ((ply : Int) + 1)) high with hhi2 | hhi2
              · have hhd : decide (high ≤ 100 - ((ply : Int) + 1)) = false := decide_eq_false (by omega)
                have hnn0 : -1000 ≤ 100 - ((ply : Int) + 1) := by omega
                go_wp2_with fail
                have hgk := hgk.out
                go_roundg (W - (c + 1))
                case measure => omega
                case rel => exact ⟨c + 1, _, _, rfl, by omega, by go_num, by go_num, by go_num, hnx1, by omega, by omega, hOf, hGf⟩
              · have hhd : decide (high ≤ 100 - ((ply : Int) + 1)) = true := decide_eq_true hhi2
                have hbr := Lib.hid (hnx1.out.brk hhi2 hlo hlh (show c + 1 ≤ W from hlt))
                have hcn : decide (((c : Nat) : Int) < 0) = false := decide_eq_false (by omega)
                go_wp2_with fail
                go_ret2
                exact ⟨⟨_, _, rfl, by rw [hmm.out]; exact hbr.out.1, hbr.out.2.1, hbr.out.2.2⟩, hOf.out, hGf.out⟩
            · have hnx1 : Hid (AbI (mxO val (c + 1)) low high best wh) := by have := hnx.out; rwa [if_neg (by omega), if_neg (by omega)] at this
              have hbd : decide (best < 100 - ((ply : Int) + 1)) = false := decide_eq_false (by omega)
              have hhd : decide (high ≤ best) = false := decide_eq_false (by omega)
              go_wp2_with fail
              have hgk := hgk.out
              go_roundg (W - (c + 1))
              case measure => omega
              case rel => exact ⟨c + 1, best, wh, rfl, by omega, by go_num, rfl, rfl, hnx1, hbh, hb0, hOf, hGf⟩
          | false =>
            obtain ⟨w3, hw3⟩ : ∃ w3 : Nat, w3 = 3 - who := ⟨_, rfl⟩
            have hw3i : (3 : Int) - (who : Int) = (w3 : Int) := by omega
            have hv : val c = some (-(mm wb W H f (ply + 1) cs2 w3)) := by rw [hvc.out, hw3]; show some (if wb cs2 a = true then _ else _) = _; rw [hwbb.out, if_neg (by simp)]
            rcases Int.lt_or_le low best with hlb | hlb
            · have hmx : Hid (max low best = best) := by show _ = _; omega
              have HI := ih.out (ply + 1) cs2 w3 (-high) (-best) W3 (by have := hd.out; omega) hl2.out (by omega) (by omega) (by omega) (by omega) hwl3 hO3
              rw [show ((ply + 1 : Nat) : Int) = (ply : Int) + 1 from by simp] at HI
              have hst := mxO_step hv
              replace HI := Lib.hid HI; replace hst := Lib.hid hst; replace hw3 := Lib.hid hw3; replace hO3 := Lib.hid hO3
              clear hv hvc hc3 hf3
              go_wp2_with fail
              refine HI.out.mono ?_
              rintro e W4 ⟨⟨r4, wh4, rfl, hab, hr1, hr2⟩, hO4, hG4⟩
              have hnx := Lib.hid (hI.out.next (n := -r4) (v := -(mm wb W H f (ply + 1) cs2 w3)) (c := c) hbh hlo (by omega) (.inl (by rw [Int.neg_neg, Int.neg_neg, hmx.out]; exact hab)))
              rw [← hst.out] at hnx
              have hc3 := hO4.cell han
              have hf3 := hO4.free a
              have hG5 := grown_trans hG3.out hG4
              have hwl4 := (hG5.block wl (lt_of_heap hwl'.out) (by simpa using hne)).trans hwl'.out
              have hOf : Hid (Own 3 B (W4.setCell ⟨g, a, none⟩ (.int .i64 0)) (some ⟨g, 0, none⟩) n gc (asI cs)) := by
                have := hO4.set a 0
                show Own _ _ _ _ _ _ _
                rw [← hback.out, asI_set]; exact this
              have hGf := Lib.hid (grown_set hG5 a (.int .i64 0))
              generalize (asI cs2)[a]?.getD 0 = old at hc3
              clear HI hab c0 c1 c2 c3 hO4 hG4 hG5
              obtain ⟨c0, c1, c2, c3⟩ := wcells hwl4
              rcases Int.lt_or_le best (-r4) with hbn | hbn
              · have hnx1 : Hid (AbI (mxO val (c + 1)) low high (-r4) (c : Nat)) := by have := hnx.out; rwa [if_pos hbn, if_pos hbn] at this
                have hbd : decide (best < -r4) = true := decide_eq_true hbn
                rcases Int.lt_or_le (-r4) high with hhi2 | hhi2
                · have hhd : decide (high ≤ -r4) = false := decide_eq_false (by omega)
                  have hnn0 : -1000 ≤ -r4 := by omega
                  go_wp2_with fail
                  have hgk := hgk.out
                  go_roundg (W - (c + 1))
                  case measure => omega
                  case rel => exact ⟨c + 1, _, _, rfl, by omega, by go_num, by go_num, by go_num, hnx1, by omega, by omega, hOf, hGf⟩
                · have hhd : decide (high ≤ -r4) = true := decide_eq_true hhi2
                  have hbr := Lib.hid (hnx1.out.brk hhi2 hlo hlh (show c + 1 ≤ W from hlt))
                  have hcn : decide (((c : Nat) : Int) < 0) = false := decide_eq_false (by omega)
                  go_wp2_with fail
                  go_ret2
                  exact ⟨⟨_, _, rfl, by rw [hmm.out]; exact hbr.out.1, hbr.out.2.1, hbr.out.2.2⟩, hOf.out, hGf.out⟩
              · have hnx1 : Hid (AbI (mxO val (c + 1)) low high best wh) := by have := hnx.out; rwa [if_neg (by omega), if_neg (by omega)] at this
                have hbd : decide (best < -r4) = false := decide_eq_false (by omega)
                have hhd : decide (high ≤ best) = false := decide_eq_false (by omega)
                go_wp2_with fail
                have hgk := hgk.out
                go_roundg (W - (c + 1))
                case measure => omega
                case rel => exact ⟨c + 1, best, wh, rfl, by omega, by go_num, rfl, rfl, hnx1, hbh, hb0, hOf, hGf⟩
            · have hmx : Hid (max low best = low) := by show _ = _; omega
              have hlb2 : ¬ low < best := by omega
              have HI := ih.out (ply + 1) cs2 w3 (-high) (-low) W3 (by have := hd.out; omega) hl2.out (by omega) (by omega) (by omega) (by omega) hwl3 hO3
              rw [show ((ply + 1 : Nat) : Int) = (ply : Int) + 1 from by simp] at HI
              have hst := mxO_step hv
              replace HI := Lib.hid HI; replace hst := Lib.hid hst; replace hw3 := Lib.hid hw3; replace hO3 := Lib.hid hO3
              clear hv hvc hc3 hf3
              go_wp2_with fail
              refine HI.out.mono ?_
              rintro e W4 ⟨⟨r4, wh4, rfl, hab, hr1, hr2⟩, hO4, hG4⟩
              have hnx := Lib.hid (hI.out.next (n := -r4) (v := -(mm wb W H f (ply + 1) cs2 w3)) (c := c) hbh hlo (by omega) (.inl (by rw [Int.neg_neg, Int.neg_neg, hmx.out]; exact hab)))
              rw [← hst.out] at hnx
              have hc3 := hO4.cell han
              have hf3 := hO4.free a
              have hG5 := grown_trans hG3.out hG4
              have hwl4 := (hG5.block wl (lt_of_heap hwl'.out) (by simpa using hne)).trans hwl'.out
              have hOf : Hid (Own 3 B (W4.setCell ⟨g, a, none⟩ (.int .i64 0)) (some ⟨g, 0, none⟩) n gc (asI cs)) := by
                have := hO4.set a 0
                show Own _ _ _ _ _ _ _
                rw [← hback.out, asI_set]; exact this
              have hGf := Lib.hid (grown_set hG5 a (.int .i64 0))
              generalize (asI cs2)[a]?.getD 0 = old at hc3
              clear HI hab c0 c1 c2 c3 hO4 hG4 hG5
              obtain ⟨c0, c1, c2, c3⟩ := wcells hwl4
              rcases Int.lt_or_le best (-r4) with hbn | hbn
              · have hnx1 : Hid (AbI (mxO val (c + 1)) low high (-r4) (c : Nat)) := by have := hnx.out; rwa [if_pos hbn, if_pos hbn] at this
                have hbd : decide (best < -r4) = true := decide_eq_true hbn
                rcases Int.lt_or_le (-r4) high with hhi2 | hhi2
                · have hhd : decide (high ≤ -r4) = false := decide_eq_false (by omega)
                  have hnn0 : -1000 ≤ -r4 := by omega
                  go_wp2_with fail
                  have hgk := hgk.out
                  go_roundg (W - (c + 1))
                  case measure => omega
                  case rel => exact ⟨c + 1, _, _, rfl, by omega, by go_num, by go_num, by go_num, hnx1, by omega, by omega, hOf, hGf⟩
                · have hhd : decide (high ≤ -r4) = true := decide_eq_true hhi2
                  have hbr := Lib.hid (hnx1.out.brk hhi2 hlo hlh (show c + 1 ≤ W from hlt))
                  have hcn : decide (((c : Nat) : Int) < 0) = false := decide_eq_false (by omega)
                  go_wp2_with fail
                  go_ret2
                  exact ⟨⟨_, _, rfl, by rw [hmm.out]; exact hbr.out.1, hbr.out.2.1, hbr.out.2.2⟩, hOf.out, hGf.out⟩
              · have hnx1 : Hid (AbI (mxO val (c + 1)) low high best wh) := by have := hnx.out; rwa [if_neg (by omega), if_neg (by omega)] at this
                have hbd : decide (best < -r4) = false := decide_eq_false (by omega)
                have hhd : decide (high ≤ best) = false := decide_eq_false (by omega)
                go_wp2_with fail
                have hgk := hgk.out
                go_roundg (W - (c + 1))
                case measure => omega
                case rel => exact ⟨c + 1, best, wh, rfl, by omega, by go_num, rfl, rfl, hnx1, hbh, hb0, hOf, hGf⟩
      · obtain rfl : c = W := by omega
        rcases hI.out.fin with ⟨hw0, hz⟩ | ⟨hw0, hab, hb1, hb2⟩
        · have hwd : decide (wh < 0) = true := decide_eq_true hw0
          replace hz := Lib.hid hz
          go_wp2_with fail
          go_ret2
          exact ⟨⟨_, _, rfl, by rw [hmm.out, hz.out]; exact AB.same _ _ _, by omega, by omega⟩, hO1.out, hG1.out⟩
        · have hwd : decide (wh < 0) = false := decide_eq_false (by omega)
          replace hab := Lib.hid hab
          go_wp2_with fail
          go_ret2
          exact ⟨⟨_, _, rfl, by rw [hmm.out]; exact hab.out, hb1, hb2⟩, hO1.out, hG1.out⟩
end Go.Proofs.Ytfoojdkbonmmgaa
