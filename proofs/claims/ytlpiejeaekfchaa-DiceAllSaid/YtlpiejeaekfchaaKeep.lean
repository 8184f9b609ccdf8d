/- What dice.ways, dice.Keep and its closure compute, told by a plain function (shareS) that says where the call would panic; conditions: small numbers. -/
import Derived.Test.YtlpiejeaekfchaaSums
namespace Go.Proofs.Ytlpiejeaekfchaa
open Go.RowKit

def loopX (body : Nat → Int → List Int → Option (List Int)) (left : Nat) : Nat → Nat → Int → List Int → Option (List Int)
  | 0, _, _, out => some out
  | f + 1, x, c, out => match body x c out with
    | none => none
    | some out' => loopX body left f (x + 1) (wrap64 ((wrap64 (c * ((left : Int) - x))).tdiv (x + 1))) out'
def shareS (kk : Nat) : Nat → Nat → Nat → Int → Int → List Int → Option (List Int)
  | 0, left, _, sum, many, out =>
    if left = 0 then (if 0 ≤ sum - kk ∧ sum - kk < out.length then some (out.set (sum - kk).toNat (wrap64 (out[(sum - kk).toNat]?.getD 0 + many))) else none) else some out
  | s + 1, left, kept, sum, many, out =>
    loopX (fun x c o => shareS kk s (left - x) (kept + min x (kk - kept)) (wrap64 (sum + wrap64 (((min x (kk - kept) : Nat) : Int) * ((s + 1 : Nat) : Int)))) (wrap64 (many * c)) o) left (left + 1) 0 1 out

theorem grown_trans {a b c : World} {row : Option Nat} (h : a.grownBy b row) (k : b.grownBy c row) : a.grownBy c row :=
  ⟨k.os.trans h.os, k.tape.trans h.tape, k.output.trans h.output, Nat.le_trans h.size k.size, fun i hi hne => (k.block i (Nat.lt_of_lt_of_le hi h.size) hne).trans (h.block i hi hne)⟩
theorem grown_set (a w : World) (g i : Nat) (u : Value) (h : a.grownBy w (some g)) : a.grownBy (w.setCell ⟨g, i, none⟩ u) (some g) :=
  ⟨h.os, h.tape, h.output, by simpa [World.setCell] using h.size, fun k hk hne => (Below.heap_setCell w _ u k (by rintro rfl; exact hne rfl)).trans (h.block k hk hne)⟩

/-- the boxes of what the closure captured. -/
def Boxes (w : World) (kk m ob kb sb g : Nat) : Prop :=
  w.heap[kb]? = some (.cells #[.int .i64 kk] 3 (0, 0)) ∧ w.heap[ob]? = some (.cells #[.slice (some ⟨g, 0, none⟩) m m] 22 (0, 0)) ∧
  w.heap[sb]? = some (.cells #[.func (.func 12) #[] #[.pointer (some ⟨ob, 0, none⟩), .pointer (some ⟨kb, 0, none⟩), .pointer (some ⟨sb, 0, none⟩)]] 34 (0, 0)) ∧ kb ≠ g ∧ ob ≠ g ∧ sb ≠ g
theorem lt_of_heap {w : World} {b : Nat} {o : Obj} (h : w.heap[b]? = some o) : b < w.heap.size :=
  Nat.lt_of_not_le fun hge => by rw [Array.getElem?_eq_none hge] at h; cases h
theorem Boxes.grown {w w' : World} {kk m ob kb sb g : Nat} (h : Boxes w kk m ob kb sb g) (hg : w.grownBy w' (some g)) : Boxes w' kk m ob kb sb g := by
  obtain ⟨h1, h2, h3, n1, n2, n3⟩ := h
  exact ⟨(hg.block kb (lt_of_heap h1) (by simpa using n1)).trans h1, (hg.block ob (lt_of_heap h2) (by simpa using n2)).trans h2, (hg.block sb (lt_of_heap h3) (by simpa using n3)).trans h3, n1, n2, n3⟩

set_option maxHeartbeats 1000000 in
theorem share_any (kk m ob kb sb g : Nat) (hkk : kk ≤ 10) (hm : m ≤ 1000) : ∀ (s left kept : Nat) (sum many : Int) (out out' : List Int) (w : World), s ≤ 20 → left ≤ 10 → kept ≤ kk →
    Hid (shareS kk s left kept sum many out = some out') → Hid (Boxes w kk m ob kb sb g) → Hid (Nums w g 3 out) → Hid (out.length = m) → ∀ (sI leftI keptI sumI : Int), Hid (sI = s) → Hid (leftI = left) → Hid (keptI = kept) → Hid (sum = sumI) →
    Calls Try.prog 12 #[.int .i64 sI, .int .i64 leftI, .int .i64 keptI, .int .i64 sumI, .int .i64 many, .pointer (some ⟨ob, 0, none⟩), .pointer (some ⟨kb, 0, none⟩), .pointer (some ⟨sb, 0, none⟩)] w fun e w' =>
      e = .returned (.tuple #[]) ∧ Nums w' g 3 out' ∧ out'.length = m ∧ w.grownBy w' (some g) := by
  intro s
  induction s with
  | zero =>
    intro left kept sum many out out' w hs hl hk hsh hb hN hlen sI leftI keptI sumI es el ek eu
    have es := es.out; have el := el.out; have ek := ek.out; have eu := eu.out
    subst es el ek eu
    by_cases h0 : left = 0
    · subst h0
      have hsh := hsh.out
      simp only [shareS, if_true] at hsh
      by_cases hin : 0 ≤ sum - kk ∧ sum - kk < out.length
      · rw [if_pos hin] at hsh
        rw [hlen.out] at hin
        obtain ⟨i, hi⟩ : ∃ i : Nat, sum = kk + i := ⟨(sum - kk).toNat, by omega⟩
        subst hi
        have hil : i < m := by omega
        have hc := hN.out.cell (i := i) (by rw [hlen.out]; exact hil)
        have hf := hN.out.free i
        have hck := cell_of_one hb.out.1
        have hco := cell_of_one hb.out.2.1
        have ho : out' = out.set i (wrap64 (out[i]?.getD 0 + many)) := by
          have : ((kk : Int) + i - kk).toNat = i := by omega
          rw [this] at hsh; exact (Option.some.inj hsh).symm
        replace ho := Lib.hid ho
        clear hsh hin
        go_enter Try.func12, Try.ntmps12
        go_wp2
        refine bodyPost_ret (results_none rfl _ _ _) rfl ⟨rfl, ?_, ?_, grown_set _ _ _ _ _ (World.grownBy.refl _ _)⟩
        · rw [ho.out]; exact hN.out.set i _
        · rw [ho.out]; simpa using hlen.out
      · rw [if_neg hin] at hsh; cases hsh
    · have hsh := hsh.out
      simp only [shareS, if_neg h0] at hsh
      have ho : out' = out := (Option.some.inj hsh).symm
      subst ho
      clear hsh
      go_enter Try.func12, Try.ntmps12
      go_wp2
      refine bodyPost_ret (results_none rfl _ _ _) rfl ⟨rfl, hN.out, hlen.out, World.grownBy.refl _ _⟩
  | succ s ih =>
    intro left kept sum many out out' w hs hl hk hsh hb hN hlen sI leftI keptI sumI es el ek eu
    have es := es.out; have el := el.out; have ek := ek.out; have eu := eu.out
    subst es el ek eu
    go_enter Try.func12, Try.ntmps12
    go_wp2
    go_loopg [13, 14] (left + 1) (fun k c x W => ∃ xn : Nat, ∃ cc : Int, ∃ o1 : List Int, xn ≤ left + 1 ∧ k = left + 1 - xn ∧ x = .int .i64 xn ∧ c = .int .i64 cc ∧
      loopX (fun x c o => shareS kk s (left - x) (kept + min x (kk - kept)) (wrap64 (sum + wrap64 (((min x (kk - kept) : Nat) : Int) * ((s + 1 : Nat) : Int)))) (wrap64 (many * c)) o) left k xn cc o1 = some out' ∧ Nums W g 3 o1 ∧ o1.length = m ∧ w.grownBy W (some g))
    case atStart => exact ⟨0, 1, out, by omega, by omega, rfl, rfl, hsh.out, hN.out, hlen.out, World.grownBy.refl _ _⟩
    case round =>
      obtain ⟨xn, cc, o1, hx, hgk, rfl, rfl, hl1, hN1, hl1', hg1⟩ := hrel
      replace hN1 := Lib.hid hN1; replace hl1' := Lib.hid hl1'
      by_cases hlt : xn ≤ left
      · have hgk' : gk = (left - xn) + 1 := by omega
        subst hgk'
        rw [loopX] at hl1
        generalize hbody : shareS kk s (left - xn) (kept + min xn (kk - kept)) (wrap64 (sum + wrap64 (((min xn (kk - kept) : Nat) : Int) * ((s + 1 : Nat) : Int)))) (wrap64 (many * cc)) o1 = r at hl1
        cases r with
        | none => cases hl1
        | some o2 =>
          replace hbody := Lib.hid hbody
          replace hl1 := Lib.hid hl1
          have hb1 := Lib.hid (hb.out.grown hg1)
          have hck := cell_of_one hb1.out.1
          have hcs := cell_of_one hb1.out.2.2.1
          replace hg1 := Lib.hid hg1
          replace hgk := Lib.hid hgk
          have IH := Lib.hid (ih (left - xn) (kept + min xn (kk - kept)) _ _ o1 o2 wr (by omega) (by omega) (by omega) hbody hb1 hN1 hl1')
          clear hsh hb hN hlen ih
          by_cases hmn : xn ≤ kk - kept
          · have hmn' : ¬ ((kk : Int) - kept < xn) := by omega
            have hmin : Hid ((min xn (kk - kept) : Nat) = xn) := by show _ = _; omega
            go_wp2_with fail
            refine (IH.out _ _ _ _ (Lib.hid (by omega)) (Lib.hid (by omega)) (Lib.hid (by have := hmin.out; omega)) (Lib.hid (by rw [hmin.out, show ((s + 1 : Nat) : Int) = (s : Int) + 1 from by omega]; try rw [show ((kk - kept : Nat) : Int) = (kk : Int) - kept from by omega]))).mono ?_
            rintro e w' ⟨rfl, hN2, hl2, hg2⟩
            replace hN2 := Lib.hid hN2; replace hl2 := Lib.hid hl2
            have hck2 := cell_of_one (hb1.out.grown hg2).1
            replace hg2 := Lib.hid hg2
            go_wp2
            go_roundg (left - xn)
            case measure => omega
            case rel => exact ⟨xn + 1, _, o2, by omega, by omega, by go_num, rfl, hl1.out, hN2.out, hl2.out, grown_trans hg1.out hg2.out⟩
          · have hmn' : (kk : Int) - kept < xn := by omega
            have hmin : Hid ((min xn (kk - kept) : Nat) = kk - kept) := by show _ = _; omega
            go_wp2_with fail
            refine (IH.out _ _ _ _ (Lib.hid (by omega)) (Lib.hid (by omega)) (Lib.hid (by have := hmin.out; omega)) (Lib.hid (by rw [hmin.out, show ((s + 1 : Nat) : Int) = (s : Int) + 1 from by omega]; try rw [show ((kk - kept : Nat) : Int) = (kk : Int) - kept from by omega]))).mono ?_
            rintro e w' ⟨rfl, hN2, hl2, hg2⟩
            replace hN2 := Lib.hid hN2; replace hl2 := Lib.hid hl2
            have hck2 := cell_of_one (hb1.out.grown hg2).1
            replace hg2 := Lib.hid hg2
            go_wp2
            go_roundg (left - xn)
            case measure => omega
            case rel => exact ⟨xn + 1, _, o2, by omega, by omega, by go_num, rfl, hl1.out, hN2.out, hl2.out, grown_trans hg1.out hg2.out⟩
      · have hgk' : gk = 0 := by omega
        subst hgk'
        simp only [loopX] at hl1
        obtain rfl := Option.some.inj hl1
        replace hg1 := Lib.hid hg1
        go_wp2
        go_end0
        exact ⟨rfl, hN1.out, hl1'.out, hg1.out⟩
end Go.Proofs.Ytlpiejeaekfchaa
