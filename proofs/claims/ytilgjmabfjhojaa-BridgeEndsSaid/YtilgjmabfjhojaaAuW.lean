/- What (*bridge.auction).over and .call compute; conditions: the auction's struct is known whole, its numbers are within an auction's bounds, the call is 0 to 37. -/
import Derived.Test.YtilgjmabfjhojaaPick
import Derived.Test.YtilgjmabfjhojaaGen
import Derived.Test.YtilgjmabfjhojaaBridgeSpec
namespace Go.Proofs.Ytilgjmabfjhojaa
open Go.RowKit

def auCells (s : Au) : List Value :=
  .int .i64 s.bid :: .int .i64 s.bidder :: .int .i64 s.doubled :: .int .i64 s.last :: .int .i64 s.passes :: (s.first.map (Value.int .i64) ++ [.int .i64 s.calls])
/-- block b is the auction s. -/
def AuB (s : Au) (b : Nat) (w : World) : Prop := w.heap[b]? = some (.cells (auCells s).toArray 40 (0, 0)) ∧ s.first.length = 10
section
variable {s : Au} {b : Nat} {w w' : World}
theorem AuB.c0 (h : AuB s b w) : w.cell? ⟨b, 0, none⟩ = some (.int .i64 s.bid) := wcell h.1 0
theorem AuB.c1 (h : AuB s b w) : w.cell? ⟨b, 1, none⟩ = some (.int .i64 s.bidder) := wcell h.1 1
theorem AuB.c2 (h : AuB s b w) : w.cell? ⟨b, 2, none⟩ = some (.int .i64 s.doubled) := wcell h.1 2
theorem AuB.c3 (h : AuB s b w) : w.cell? ⟨b, 3, none⟩ = some (.int .i64 s.last) := wcell h.1 3
theorem AuB.c4 (h : AuB s b w) : w.cell? ⟨b, 4, none⟩ = some (.int .i64 s.passes) := wcell h.1 4
theorem AuB.c5 (h : AuB s b w) (i : Nat) (hi : i < 10) : w.cell? ⟨b, 5 + i, none⟩ = some (.int .i64 (s.first[i]?.getD 0)) := by
  rw [wcell h.1, Nat.add_comm]
  have hl := h.2
  show (s.first.map (Value.int .i64) ++ [.int .i64 (s.calls : Int)])[i]? = _
  rw [List.getElem?_append_left (by simp [hl, hi])]
  simp [hl, hi]
theorem AuB.c15 (h : AuB s b w) : w.cell? ⟨b, 15, none⟩ = some (.int .i64 s.calls) := by
  rw [wcell h.1]
  have hl := h.2
  show (s.first.map (Value.int .i64) ++ [.int .i64 (s.calls : Int)])[10]? = _
  rw [List.getElem?_append_right (by simp [hl])]
  simp [hl]
theorem AuB.free (h : AuB s b w) (i : Nat) : w.frozen? ⟨b, i, none⟩ = false := wfree h.1 i
theorem AuB.lt (h : AuB s b w) : b < w.heap.size := lt_of_heap h.1
theorem AuB.below {B : Nat} (h : AuB s b w) (hb : Below B w w') (hB : b < B) : AuB s b w' := ⟨(hb.block b hB).trans h.1, h.2⟩
theorem AuB.put (h : AuB s b w) (i : Nat) (v : Value) (t : Au) (ht : (auCells s).set i v = auCells t) (hl : t.first.length = 10) : AuB t b (w.setCell ⟨b, i, none⟩ v) := by
  refine ⟨?_, hl⟩
  rw [wset h.1, ← ht]
  simp
theorem AuB.bid (h : AuB s b w) (v : Int) : AuB { s with bid := v } b (w.setCell ⟨b, 0, none⟩ (.int .i64 v)) := h.put 0 _ _ rfl h.2
theorem AuB.bidder (h : AuB s b w) (v : Nat) : AuB { s with bidder := v } b (w.setCell ⟨b, 1, none⟩ (.int .i64 v)) := h.put 1 _ _ rfl h.2
theorem AuB.doubled (h : AuB s b w) (v : Nat) (vI : Int) (hv : vI = v) : AuB { s with doubled := v } b (w.setCell ⟨b, 2, none⟩ (.int .i64 vI)) := by subst hv; exact h.put 2 _ _ rfl h.2
theorem AuB.last (h : AuB s b w) (v : Nat) : AuB { s with last := v } b (w.setCell ⟨b, 3, none⟩ (.int .i64 v)) := h.put 3 _ _ rfl h.2
theorem AuB.passes (h : AuB s b w) (v : Nat) (vI : Int) (hv : vI = v) : AuB { s with passes := v } b (w.setCell ⟨b, 4, none⟩ (.int .i64 vI)) := by subst hv; exact h.put 4 _ _ rfl h.2
theorem AuB.calls (h : AuB s b w) (v : Nat) (vI : Int) (hv : vI = v) : AuB { s with calls := v } b (w.setCell ⟨b, 15, none⟩ (.int .i64 vI)) := by
  subst hv
  refine h.put 15 _ _ ?_ h.2
  have hl := h.2
  show _ :: _ :: _ :: _ :: _ :: ((s.first.map (Value.int .i64) ++ [Value.int .i64 (s.calls : Int)]).set 10 _) = _ :: _ :: _ :: _ :: _ :: _
  rw [List.set_append_right _ _ (by simp [hl])]
  simp [hl]
theorem AuB.first (h : AuB s b w) (i : Nat) (hi : i < 10) (v : Int) : AuB { s with first := s.first.set i v } b (w.setCell ⟨b, 5 + i, none⟩ (.int .i64 v)) := by
  rw [Nat.add_comm]
  refine h.put (i + 5) _ _ ?_ (by simpa using h.2)
  have hl := h.2
  show _ :: _ :: _ :: _ :: _ :: ((s.first.map (Value.int .i64) ++ [Value.int .i64 (s.calls : Int)]).set i _) = _ :: _ :: _ :: _ :: _ :: _
  rw [List.set_append_left _ _ (by simp [hl, hi])]
  simp
end

set_option maxHeartbeats 1000000 in
theorem over_any (b : Nat) (s : Au) (w : World) (h : AuB s b w) : Calls Try.prog 11 #[.pointer (some ⟨b, 0, none⟩)] w fun e w' => e = .returned (.bool s.over) ∧ w = w' := by
  have c0 := h.c0
  have c4 := h.c4
  have ho : Hid (s.over = (decide (s.passes = 4) || (decide (0 ≤ s.bid) && decide (s.passes = 3)))) := rfl
  clear h
  generalize s.passes = p at *
  generalize s.bid = bd at *
  generalize s.over = o at *
  by_cases h4 : p = 4
  · subst h4
    have ho2 : Hid (o = true) := by show _ = _; rw [ho.out]; rfl
    go_enter Try.func11, Try.ntmps11
    go_wp2
    go_ret
    exact ⟨ret_bool ho2.out.symm, rfl⟩
  · have g4 : ((p : Int) == 4) = false := by simp; omega
    by_cases hb : 0 ≤ bd
    · have ho2 : Hid (o = decide (p = 3)) := by show _ = _; rw [ho.out]; simp [h4, hb]
      replace h4 := Lib.hid h4
      by_cases h3 : p = 3
      · subst h3
        go_enter Try.func11, Try.ntmps11
        go_wp2
        go_ret
        exact ⟨ret_bool (by rw [ho2.out]; rfl), rfl⟩
      · have g3 : ((p : Int) == 3) = false := by simp; omega
        replace h3 := Lib.hid h3
        go_enter Try.func11, Try.ntmps11
        go_wp2
        go_ret
        exact ⟨ret_bool (by rw [ho2.out]; simp [h3.out]), rfl⟩
    · have ho2 : Hid (o = false) := by show _ = _; rw [ho.out]; simp [h4, hb]
      replace h4 := Lib.hid h4
      have hb' : decide (0 ≤ bd) = false := by simpa using hb
      go_enter Try.func11, Try.ntmps11
      go_wp2
      go_ret
      exact ⟨ret_bool ho2.out.symm, rfl⟩

theorem and1 (a l : Nat) (ha : a < 4) (hl : l < 4) : bits BinOp.and IntKind.i64 ((a : Int) - (l : Int)) 1 = (((a + l) % 2 : Nat) : Int) := by
  rcases (show a = 0 ∨ a = 1 ∨ a = 2 ∨ a = 3 from by omega) with rfl | rfl | rfl | rfl <;> rcases (show l = 0 ∨ l = 1 ∨ l = 2 ∨ l = 3 from by omega) with rfl | rfl | rfl | rfl <;> decide
theorem and2 (a : Nat) (ha : a < 4) : bits BinOp.and IntKind.i64 (a : Int) 1 = ((a % 2 : Nat) : Int) := by
  rcases (show a = 0 ∨ a = 1 ∨ a = 2 ∨ a = 3 from by omega) with rfl | rfl | rfl | rfl <;> decide

def CallPost (s : Au) (b : Nat) (c : Int) (w : World) (e : Ending) (w' : World) : Prop :=
  match s.call c with
  | none => e = .returned (.bool false) ∧ Below b w w'
  | some t => e = .returned (.bool true) ∧ AuB t b w' ∧ Below b w w'
theorem CallPost.no {s : Au} {b : Nat} {c : Int} {w w' : World} {e : Ending} (h : s.call c = none) (he : e = .returned (.bool false)) (hB : Below b w w') : CallPost s b c w e w' := by
  unfold CallPost; rw [h]; exact ⟨he, hB⟩
theorem CallPost.yes {s t : Au} {b : Nat} {c : Int} {w w' : World} {e : Ending} (h : s.call c = some t) (he : e = .returned (.bool true)) (hA : AuB t b w') (hB : Below b w w') : CallPost s b c w e w' := by
  unfold CallPost; rw [h]; exact ⟨he, hA, hB⟩

set_option maxHeartbeats 4000000 in
theorem call_any (b : Nat) (s : Au) (c : Int) (w : World) (h : AuB s b w) (hi : AuInv s) (hn : s.calls ≤ 1000000) (hc0 : 0 ≤ c) (hc : c ≤ 37) :
    Calls Try.prog 12 #[.pointer (some ⟨b, 0, none⟩), .int .i64 c] w (CallPost s b c w) := by
  have c0 := h.c0
  have c1 := h.c1
  have c2 := h.c2
  have c3 := h.c3
  have c4 := h.c4
  have c15 := h.c15
  have f0 := h.free 0
  have f1 := h.free 1
  have f2 := h.free 2
  have f3 := h.free 3
  have f4 := h.free 4
  have f15 := h.free 15
  have b1 := hi.b1
  have b2 := hi.b2
  have b3 := hi.d
  have b4 := hi.l
  have b5 := hi.p
  have hw := s.who_lt
  have hwho : (s.calls : Int) % 4 = (s.who : Int) := by unfold Au.who; omega
  have ha := and1 s.who s.last hw (by omega)
  have hoth : Hid (s.other = (decide (0 ≤ s.bid) && decide ((s.who + s.last) % 2 = 1))) := rfl
  have hcall : Hid (s.call c = if c = 0 then some s.pass
    else if c = 1 then (if s.other = true ∧ s.doubled = 0 then some (s.dbl 1) else none)
    else if c = 2 then (if s.other = true ∧ s.doubled = 1 then some (s.dbl 2) else none)
    else if c - 3 ≤ s.bid then none else some (s.raise (c - 3))) := rfl
  have hm2 : (s.who + s.last) % 2 < 2 := Nat.mod_lt _ (by omega)
  have hpass : Hid (AuB s.pass b ((w.setCell ⟨b, 4, none⟩ (.int .i64 ((s.passes : Int) + 1))).setCell ⟨b, 15, none⟩ (.int .i64 ((s.calls : Int) + 1)))) :=
    (h.passes (s.passes + 1) ((s.passes : Int) + 1) (by simp)).calls (s.calls + 1) ((s.calls : Int) + 1) (by simp)
  have hdbl1 : Hid (AuB (s.dbl 1) b ((((w.setCell ⟨b, 2, none⟩ (.int .i64 1)).setCell ⟨b, 3, none⟩ (.int .i64 s.who)).setCell ⟨b, 4, none⟩ (.int .i64 0)).setCell ⟨b, 15, none⟩ (.int .i64 ((s.calls : Int) + 1)))) :=
    (((h.doubled 1 1 rfl).last s.who).passes 0 0 rfl).calls (s.calls + 1) ((s.calls : Int) + 1) (by simp)
  have hdbl2 : Hid (AuB (s.dbl 2) b ((((w.setCell ⟨b, 2, none⟩ (.int .i64 2)).setCell ⟨b, 3, none⟩ (.int .i64 s.who)).setCell ⟨b, 4, none⟩ (.int .i64 0)).setCell ⟨b, 15, none⟩ (.int .i64 ((s.calls : Int) + 1)))) :=
    (((h.doubled 2 2 rfl).last s.who).passes 0 0 rfl).calls (s.calls + 1) ((s.calls : Int) + 1) (by simp)
  generalize hM : (s.who + s.last) % 2 = m at *
  replace hM := Lib.hid hM
  generalize hbid : s.bid = bid at *
  generalize hdo : s.doubled = dbl at *
  generalize hpa : s.passes = pas at *
  generalize hla : s.last = las at *
  generalize hcl : s.calls = cal at *
  generalize hwh : s.who = who at *
  generalize hot : s.other = oth at *
  replace hbid := Lib.hid hbid; replace hdo := Lib.hid hdo; replace hpa := Lib.hid hpa; replace hla := Lib.hid hla; replace hcl := Lib.hid hcl; replace hwh := Lib.hid hwh
  replace h := Lib.hid h; replace hi := Lib.hid hi; replace hot := Lib.hid hot
  have hB2 : Hid (∀ u v : Value, ∀ i j, Below b w ((w.setCell ⟨b, i, none⟩ u).setCell ⟨b, j, none⟩ v)) := fun u v i j => ((Below.refl b w).setCell (Nat.le_refl _) _).setCell (Nat.le_refl _) _
  have hB4 : Hid (∀ u v x y : Value, ∀ i j k l, Below b w ((((w.setCell ⟨b, i, none⟩ u).setCell ⟨b, j, none⟩ v).setCell ⟨b, k, none⟩ x).setCell ⟨b, l, none⟩ y)) := fun u v x y i j k l => ((((Below.refl b w).setCell (Nat.le_refl _) _).setCell (Nat.le_refl _) _).setCell (Nat.le_refl _) _).setCell (Nat.le_refl _) _
  have hraise : Hid (∀ nb : Nat, AuB { s with bid := nb, bidder := who, doubled := 0 } b (((w.setCell ⟨b, 0, none⟩ (.int .i64 nb)).setCell ⟨b, 1, none⟩ (.int .i64 who)).setCell ⟨b, 2, none⟩ (.int .i64 0))) := fun nb => by
    have := ((h.out.bid nb).bidder who).doubled 0 0 rfl
    exact this
  have hB3 : Hid (∀ u v x : Value, ∀ i j k, Below b w (((w.setCell ⟨b, i, none⟩ u).setCell ⟨b, j, none⟩ v).setCell ⟨b, k, none⟩ x)) := fun u v x i j k => (((Below.refl b w).setCell (Nat.le_refl _) _).setCell (Nat.le_refl _) _).setCell (Nat.le_refl _) _
  have hB0 : Hid (Below b w w) := Below.refl _ _
  rcases (show (bid < 0 ∧ oth = false) ∨ (0 ≤ bid ∧ m = 1 ∧ oth = true) ∨ (0 ≤ bid ∧ m = 0 ∧ oth = false) from by
      rcases (show bid < 0 ∨ 0 ≤ bid from by omega) with g | g
      · exact .inl ⟨g, by rw [hoth.out]; simp; omega⟩
      · rcases (show m = 0 ∨ m = 1 from by omega) with e | e
        · exact .inr (.inr ⟨g, e, by rw [hoth.out, e]; simp⟩)
        · exact .inr (.inl ⟨g, e, by rw [hoth.out, e]; simp [g]⟩)) with ⟨g, rfl⟩ | ⟨g, rfl, rfl⟩ | ⟨g, rfl, rfl⟩
  · have hb' : decide (0 ≤ bid) = false := by simp; omega
    by_cases z0 : c = 0
    · subst z0
      have hr : s.call 0 = some s.pass := by rw [hcall.out, if_pos rfl]
      replace hr := Lib.hid hr
      go_enter Try.func12, Try.ntmps12
      go_wp2
      go_ret
      exact CallPost.yes hr.out rfl hpass.out (hB2.out _ _ _ _)
    · have y0 : (c == 0) = false := by simpa using z0
      by_cases z1 : c = 1
      · subst z1
        have hr : s.call 1 = none := by rw [hcall.out, if_neg (by omega), if_pos rfl, if_neg (by rintro ⟨h, _⟩; cases h)]
        replace hr := Lib.hid hr
        go_enter Try.func12, Try.ntmps12
        go_wp2
        go_ret
        exact CallPost.no hr.out rfl hB0.out
      · have y1 : (c == 1) = false := by simpa using z1
        by_cases z2 : c = 2
        · subst z2
          have hr : s.call 2 = none := by rw [hcall.out, if_neg (by omega), if_neg (by omega), if_pos rfl, if_neg (by rintro ⟨h, _⟩; cases h)]
          replace hr := Lib.hid hr
          go_enter Try.func12, Try.ntmps12
          go_wp2
          go_ret
          exact CallPost.no hr.out rfl hB0.out
        · have y2 : (c == 2) = false := by simpa using z2
          by_cases z3 : c - 3 ≤ bid
          · have hr : s.call c = none := by rw [hcall.out, if_neg z0, if_neg z1, if_neg z2, if_pos z3]
            replace hr := Lib.hid hr
            replace z0 := Lib.hid z0; replace z1 := Lib.hid z1; replace z2 := Lib.hid z2
            go_enter Try.func12, Try.ntmps12
            go_wp2
            go_ret
            exact CallPost.no hr.out rfl hB0.out
          · obtain ⟨nb, rfl⟩ : ∃ nb : Nat, c = (nb : Int) + 3 := ⟨(c - 3).toNat, by omega⟩
            replace z0 := Lib.hid z0; replace z1 := Lib.hid z1; replace z2 := Lib.hid z2
            have hb2 := and2 who hw
            have hH := hraise.out nb
            have hHB := hB3.out (.int .i64 nb) (.int .i64 who) (.int .i64 0) 0 1 2
            replace hH := Lib.hid hH; replace hHB := Lib.hid hHB
            go_enter Try.func12, Try.ntmps12
            go_wp2
            generalize ((w.setCell ⟨b, 0, none⟩ (.int .i64 (nb : Int))).setCell ⟨b, 1, none⟩ (.int .i64 (who : Int))).setCell ⟨b, 2, none⟩ (.int .i64 0) = W3 at *
            have d0 := hH.out.c0
            obtain ⟨sl, hsl⟩ : ∃ sl, sl = who % 2 * 5 + nb % 5 := ⟨_, rfl⟩
            have hsl10 : sl < 10 := by omega
            have hse : s.slot nb = sl := by
              unfold Au.slot
              rw [hwh.out, hsl]
              have : ((nb : Int) % 5).toNat = nb % 5 := by omega
              rw [this]
            have e5 : 5 + who % 2 * 5 + nb % 5 = 5 + sl := by omega
            have d5 := hH.out.c5 sl hsl10
            have g5 := hH.out.free (5 + sl)
            have d3 := hH.out.c3
            have d4 := hH.out.c4
            have d15 := hH.out.c15
            have g3 := hH.out.free 3
            have g4 := hH.out.free 4
            have g15 := hH.out.free 15
            rw [← e5] at d5 g5
            simp only at d0 d3 d4 d5 d15
            have hra : s.call ((nb : Int) + 3) = some (s.raise nb) := by
              have e33 : (nb : Int) + 3 - 3 = nb := by omega
              rw [hcall.out, e33, if_neg z0.out, if_neg z1.out, if_neg z2.out, if_neg (by omega)]
            have hrs : s.raise nb = { bid := nb, bidder := who, doubled := 0, last := who, passes := 0, first := if s.first[sl]?.getD 0 < 0 then s.first.set sl who else s.first, calls := cal + 1 } := by
              unfold Au.raise; rw [hse, hwh.out, hcl.out]
            generalize hf : s.first[sl]?.getD 0 = fv at *
            rw [hcl.out] at d15
            replace hsl := Lib.hid hsl; replace hse := Lib.hid hse; replace e5 := Lib.hid e5; replace hra := Lib.hid hra; replace hrs := Lib.hid hrs; replace hf := Lib.hid hf
            clear c0 c1 c2 c3 c4 c15 f0 f1 f2 f3 f4 f15 hcall
            go_quiet (fail)
            have hH4 : Hid (AuB { s with bid := nb, bidder := who, doubled := 0 } b (W3.drewN nq)) := ⟨hH.out.1, hH.out.2⟩
            have hHB4 : Hid (Below b w (W3.drewN nq)) := below_drewN hHB.out _
            by_cases hneg : fv < 0
            · have hfin := Lib.hid ((((hH4.out.first sl hsl10 who).last who).passes 0 0 rfl).calls (cal + 1) ((cal : Int) + 1) (by simp))
              rw [← e5.out] at hfin
              have hB := Lib.hid ((((hHB4.out.setCell (p := ⟨b, 5 + who % 2 * 5 + nb % 5, none⟩) (Nat.le_refl _) (.int .i64 who)).setCell (p := ⟨b, 3, none⟩) (Nat.le_refl _) (.int .i64 who)).setCell (p := ⟨b, 4, none⟩) (Nat.le_refl _) (.int .i64 0)).setCell (p := ⟨b, 15, none⟩) (Nat.le_refl _) (.int .i64 ((cal : Int) + 1)))
              go_wp2
              go_ret
              exact CallPost.yes hra.out rfl (by rw [hrs.out, if_pos hneg]; exact hfin.out) hB.out
            · have hfin := Lib.hid (((hH4.out.last who).passes 0 0 rfl).calls (cal + 1) ((cal : Int) + 1) (by simp))
              have hB := Lib.hid (((hHB4.out.setCell (p := ⟨b, 3, none⟩) (Nat.le_refl _) (.int .i64 who)).setCell (p := ⟨b, 4, none⟩) (Nat.le_refl _) (.int .i64 0)).setCell (p := ⟨b, 15, none⟩) (Nat.le_refl _) (.int .i64 ((cal : Int) + 1)))
              go_wp2
              go_ret
              exact CallPost.yes hra.out rfl (by rw [hrs.out, if_neg (by omega)]; exact hfin.out) hB.out
  · by_cases z0 : c = 0
    · subst z0
      have hr : s.call 0 = some s.pass := by rw [hcall.out, if_pos rfl]
      replace hr := Lib.hid hr
      go_enter Try.func12, Try.ntmps12
      go_wp2
      go_ret
      exact CallPost.yes hr.out rfl hpass.out (hB2.out _ _ _ _)
    · have y0 : (c == 0) = false := by simpa using z0
      by_cases z1 : c = 1
      · subst z1
        by_cases d0 : dbl = 0
        · subst d0
          have hr : s.call 1 = some (s.dbl 1) := by rw [hcall.out, if_neg (by omega), if_pos rfl, if_pos ⟨rfl, rfl⟩]
          replace hr := Lib.hid hr
          go_enter Try.func12, Try.ntmps12
          go_wp2
          go_ret
          exact CallPost.yes hr.out rfl hdbl1.out (hB4.out _ _ _ _ _ _ _ _)
        · have e0 : ((dbl : Int) != 0) = true := by simp; omega
          have hr : s.call 1 = none := by rw [hcall.out, if_neg (by omega), if_pos rfl, if_neg (by rintro ⟨_, h⟩; exact d0 h)]
          replace hr := Lib.hid hr
          replace d0 := Lib.hid d0
          go_enter Try.func12, Try.ntmps12
          go_wp2
          go_ret
          exact CallPost.no hr.out rfl hB0.out
      · have y1 : (c == 1) = false := by simpa using z1
        by_cases z2 : c = 2
        · subst z2
          by_cases d0 : dbl = 1
          · subst d0
            have hr : s.call 2 = some (s.dbl 2) := by rw [hcall.out, if_neg (by omega), if_neg (by omega), if_pos rfl, if_pos ⟨rfl, rfl⟩]
            replace hr := Lib.hid hr
            go_enter Try.func12, Try.ntmps12
            go_wp2
            go_ret
            exact CallPost.yes hr.out rfl hdbl2.out (hB4.out _ _ _ _ _ _ _ _)
          · have e0 : ((dbl : Int) != 1) = true := by simp; omega
            have hr : s.call 2 = none := by rw [hcall.out, if_neg (by omega), if_neg (by omega), if_pos rfl, if_neg (by rintro ⟨_, h⟩; exact d0 h)]
            replace hr := Lib.hid hr
            replace d0 := Lib.hid d0
            go_enter Try.func12, Try.ntmps12
            go_wp2
            go_ret
            exact CallPost.no hr.out rfl hB0.out
        · have y2 : (c == 2) = false := by simpa using z2
          by_cases z3 : c - 3 ≤ bid
          · have hr : s.call c = none := by rw [hcall.out, if_neg z0, if_neg z1, if_neg z2, if_pos z3]
            replace hr := Lib.hid hr
            replace z0 := Lib.hid z0; replace z1 := Lib.hid z1; replace z2 := Lib.hid z2
            go_enter Try.func12, Try.ntmps12
            go_wp2
            go_ret
            exact CallPost.no hr.out rfl hB0.out
          · obtain ⟨nb, rfl⟩ : ∃ nb : Nat, c = (nb : Int) + 3 := ⟨(c - 3).toNat, by omega⟩
            replace z0 := Lib.hid z0; replace z1 := Lib.hid z1; replace z2 := Lib.hid z2
            have hb2 := and2 who hw
            have hH := hraise.out nb
            have hHB := hB3.out (.int .i64 nb) (.int .i64 who) (.int .i64 0) 0 1 2
            replace hH := Lib.hid hH; replace hHB := Lib.hid hHB
            go_enter Try.func12, Try.ntmps12
            go_wp2
            generalize ((w.setCell ⟨b, 0, none⟩ (.int .i64 (nb : Int))).setCell ⟨b, 1, none⟩ (.int .i64 (who : Int))).setCell ⟨b, 2, none⟩ (.int .i64 0) = W3 at *
            have d0 := hH.out.c0
            obtain ⟨sl, hsl⟩ : ∃ sl, sl = who % 2 * 5 + nb % 5 := ⟨_, rfl⟩
            have hsl10 : sl < 10 := by omega
            have hse : s.slot nb = sl := by
              unfold Au.slot
              rw [hwh.out, hsl]
              have : ((nb : Int) % 5).toNat = nb % 5 := by omega
              rw [this]
            have e5 : 5 + who % 2 * 5 + nb % 5 = 5 + sl := by omega
            have d5 := hH.out.c5 sl hsl10
            have g5 := hH.out.free (5 + sl)
            have d3 := hH.out.c3
            have d4 := hH.out.c4
            have d15 := hH.out.c15
            have g3 := hH.out.free 3
            have g4 := hH.out.free 4
            have g15 := hH.out.free 15
            rw [← e5] at d5 g5
            simp only at d0 d3 d4 d5 d15
            have hra : s.call ((nb : Int) + 3) = some (s.raise nb) := by
              have e33 : (nb : Int) + 3 - 3 = nb := by omega
              rw [hcall.out, e33, if_neg z0.out, if_neg z1.out, if_neg z2.out, if_neg (by omega)]
            have hrs : s.raise nb = { bid := nb, bidder := who, doubled := 0, last := who, passes := 0, first := if s.first[sl]?.getD 0 < 0 then s.first.set sl who else s.first, calls := cal + 1 } := by
              unfold Au.raise; rw [hse, hwh.out, hcl.out]
            generalize hf : s.first[sl]?.getD 0 = fv at *
            rw [hcl.out] at d15
            replace hsl := Lib.hid hsl; replace hse := Lib.hid hse; replace e5 := Lib.hid e5; replace hra := Lib.hid hra; replace hrs := Lib.hid hrs; replace hf := Lib.hid hf
            clear c0 c1 c2 c3 c4 c15 f0 f1 f2 f3 f4 f15 hcall
            go_quiet (fail)
            have hH4 : Hid (AuB { s with bid := nb, bidder := who, doubled := 0 } b (W3.drewN nq)) := ⟨hH.out.1, hH.out.2⟩
            have hHB4 : Hid (Below b w (W3.drewN nq)) := below_drewN hHB.out _
            by_cases hneg : fv < 0
            · have hfin := Lib.hid ((((hH4.out.first sl hsl10 who).last who).passes 0 0 rfl).calls (cal + 1) ((cal : Int) + 1) (by simp))
              rw [← e5.out] at hfin
              have hB := Lib.hid ((((hHB4.out.setCell (p := ⟨b, 5 + who % 2 * 5 + nb % 5, none⟩) (Nat.le_refl _) (.int .i64 who)).setCell (p := ⟨b, 3, none⟩) (Nat.le_refl _) (.int .i64 who)).setCell (p := ⟨b, 4, none⟩) (Nat.le_refl _) (.int .i64 0)).setCell (p := ⟨b, 15, none⟩) (Nat.le_refl _) (.int .i64 ((cal : Int) + 1)))
              go_wp2
              go_ret
              exact CallPost.yes hra.out rfl (by rw [hrs.out, if_pos hneg]; exact hfin.out) hB.out
            · have hfin := Lib.hid (((hH4.out.last who).passes 0 0 rfl).calls (cal + 1) ((cal : Int) + 1) (by simp))
              have hB := Lib.hid (((hHB4.out.setCell (p := ⟨b, 3, none⟩) (Nat.le_refl _) (.int .i64 who)).setCell (p := ⟨b, 4, none⟩) (Nat.le_refl _) (.int .i64 0)).setCell (p := ⟨b, 15, none⟩) (Nat.le_refl _) (.int .i64 ((cal : Int) + 1)))
              go_wp2
              go_ret
              exact CallPost.yes hra.out rfl (by rw [hrs.out, if_neg (by omega)]; exact hfin.out) hB.out
  · by_cases z0 : c = 0
    · subst z0
      have hr : s.call 0 = some s.pass := by rw [hcall.out, if_pos rfl]
      replace hr := Lib.hid hr
      go_enter Try.func12, Try.ntmps12
      go_wp2
      go_ret
      exact CallPost.yes hr.out rfl hpass.out (hB2.out _ _ _ _)
    · have y0 : (c == 0) = false := by simpa using z0
      by_cases z1 : c = 1
      · subst z1
        have hr : s.call 1 = none := by rw [hcall.out, if_neg (by omega), if_pos rfl, if_neg (by rintro ⟨h, _⟩; cases h)]
        replace hr := Lib.hid hr
        go_enter Try.func12, Try.ntmps12
        go_wp2
        go_ret
        exact CallPost.no hr.out rfl hB0.out
      · have y1 : (c == 1) = false := by simpa using z1
        by_cases z2 : c = 2
        · subst z2
          have hr : s.call 2 = none := by rw [hcall.out, if_neg (by omega), if_neg (by omega), if_pos rfl, if_neg (by rintro ⟨h, _⟩; cases h)]
          replace hr := Lib.hid hr
          go_enter Try.func12, Try.ntmps12
          go_wp2
          go_ret
          exact CallPost.no hr.out rfl hB0.out
        · have y2 : (c == 2) = false := by simpa using z2
          by_cases z3 : c - 3 ≤ bid
          · have hr : s.call c = none := by rw [hcall.out, if_neg z0, if_neg z1, if_neg z2, if_pos z3]
            replace hr := Lib.hid hr
            replace z0 := Lib.hid z0; replace z1 := Lib.hid z1; replace z2 := Lib.hid z2
            go_enter Try.func12, Try.ntmps12
            go_wp2
            go_ret
            exact CallPost.no hr.out rfl hB0.out
          · obtain ⟨nb, rfl⟩ : ∃ nb : Nat, c = (nb : Int) + 3 := ⟨(c - 3).toNat, by omega⟩
            replace z0 := Lib.hid z0; replace z1 := Lib.hid z1; replace z2 := Lib.hid z2
            have hb2 := and2 who hw
            have hH := hraise.out nb
            have hHB := hB3.out (.int .i64 nb) (.int .i64 who) (.int .i64 0) 0 1 2
            replace hH := Lib.hid hH; replace hHB := Lib.hid hHB
            go_enter Try.func12, Try.ntmps12
            go_wp2
            generalize ((w.setCell ⟨b, 0, none⟩ (.int .i64 (nb : Int))).setCell ⟨b, 1, none⟩ (.int .i64 (who : Int))).setCell ⟨b, 2, none⟩ (.int .i64 0) = W3 at *
            have d0 := hH.out.c0
            obtain ⟨sl, hsl⟩ : ∃ sl, sl = who % 2 * 5 + nb % 5 := ⟨_, rfl⟩
            have hsl10 : sl < 10 := by omega
            have hse : s.slot nb = sl := by
              unfold Au.slot
              rw [hwh.out, hsl]
              have : ((nb : Int) % 5).toNat = nb % 5 := by omega
              rw [this]
            have e5 : 5 + who % 2 * 5 + nb % 5 = 5 + sl := by omega
            have d5 := hH.out.c5 sl hsl10
            have g5 := hH.out.free (5 + sl)
            have d3 := hH.out.c3
            have d4 := hH.out.c4
            have d15 := hH.out.c15
            have g3 := hH.out.free 3
            have g4 := hH.out.free 4
            have g15 := hH.out.free 15
            rw [← e5] at d5 g5
            simp only at d0 d3 d4 d5 d15
            have hra : s.call ((nb : Int) + 3) = some (s.raise nb) := by
              have e33 : (nb : Int) + 3 - 3 = nb := by omega
              rw [hcall.out, e33, if_neg z0.out, if_neg z1.out, if_neg z2.out, if_neg (by omega)]
            have hrs : s.raise nb = { bid := nb, bidder := who, doubled := 0, last := who, passes := 0, first := if s.first[sl]?.getD 0 < 0 then s.first.set sl who else s.first, calls := cal + 1 } := by
              unfold Au.raise; rw [hse, hwh.out, hcl.out]
            generalize hf : s.first[sl]?.getD 0 = fv at *
            rw [hcl.out] at d15
            replace hsl := Lib.hid hsl; replace hse := Lib.hid hse; replace e5 := Lib.hid e5; replace hra := Lib.hid hra; replace hrs := Lib.hid hrs; replace hf := Lib.hid hf
            clear c0 c1 c2 c3 c4 c15 f0 f1 f2 f3 f4 f15 hcall
            go_quiet (fail)
            have hH4 : Hid (AuB { s with bid := nb, bidder := who, doubled := 0 } b (W3.drewN nq)) := ⟨hH.out.1, hH.out.2⟩
            have hHB4 : Hid (Below b w (W3.drewN nq)) := below_drewN hHB.out _
            by_cases hneg : fv < 0
            · have hfin := Lib.hid ((((hH4.out.first sl hsl10 who).last who).passes 0 0 rfl).calls (cal + 1) ((cal : Int) + 1) (by simp))
              rw [← e5.out] at hfin
              have hB := Lib.hid ((((hHB4.out.setCell (p := ⟨b, 5 + who % 2 * 5 + nb % 5, none⟩) (Nat.le_refl _) (.int .i64 who)).setCell (p := ⟨b, 3, none⟩) (Nat.le_refl _) (.int .i64 who)).setCell (p := ⟨b, 4, none⟩) (Nat.le_refl _) (.int .i64 0)).setCell (p := ⟨b, 15, none⟩) (Nat.le_refl _) (.int .i64 ((cal : Int) + 1)))
              go_wp2
              go_ret
              exact CallPost.yes hra.out rfl (by rw [hrs.out, if_pos hneg]; exact hfin.out) hB.out
            · have hfin := Lib.hid (((hH4.out.last who).passes 0 0 rfl).calls (cal + 1) ((cal : Int) + 1) (by simp))
              have hB := Lib.hid (((hHB4.out.setCell (p := ⟨b, 3, none⟩) (Nat.le_refl _) (.int .i64 who)).setCell (p := ⟨b, 4, none⟩) (Nat.le_refl _) (.int .i64 0)).setCell (p := ⟨b, 15, none⟩) (Nat.le_refl _) (.int .i64 ((cal : Int) + 1)))
              go_wp2
              go_ret
              exact CallPost.yes hra.out rfl (by rw [hrs.out, if_neg (by omega)]; exact hfin.out) hB.out
end Go.Proofs.Ytilgjmabfjhojaa
