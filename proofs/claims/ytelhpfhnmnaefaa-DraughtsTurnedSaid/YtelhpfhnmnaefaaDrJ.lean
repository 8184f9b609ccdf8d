/- What jumps tells: all ways that go on from a way; conditions: the play's block lies as Py tells, the fuel is more than there is to leap. -/
import Derived.Test.YtelhpfhnmnaefaaDrC
namespace Go.Proofs.Ytelhpfhnmnaefaa
open Go.RowKit

def armJ (b : List Int) (s piece : Int) (f : Nat) (way over : List Nat) (d : Nat) : List (List Nat) :=
  (stp b s way over d).elim [] fun r => if piece = 1 ∧ lastS s r.2 = true then [way ++ [r.2]] else jumpsS b s piece f (way ++ [r.2]) (over ++ [r.1])
def accJ (b : List Int) (s piece : Int) (f : Nat) (way over : List Nat) (k : Nat) : List (List Nat) := ((dirsS piece s).take k).flatMap (armJ b s piece f way over)
def onJ (b : List Int) (s piece : Int) (way over : List Nat) (k : Nat) : Bool := ((dirsS piece s).take k).any fun d => (stp b s way over d).isSome
theorem stp_no1 {b : List Int} {s : Int} {way over : List Nat} {d : Nat} (h : nxt (lst way) d = 0 ∨ 0 ≤ atS b s (nxt (lst way) d) ∨ nxt (lst way) d ∈ over) : stp b s way over d = none := if_pos h
theorem stp_no2 {b : List Int} {s : Int} {way over : List Nat} {d : Nat} (h : nxt (nxt (lst way) d) d = 0 ∨ (atS b s (nxt (nxt (lst way) d) d) ≠ 0 ∧ nxt (nxt (lst way) d) d ≠ fst way)) : stp b s way over d = none := by
  unfold stp
  simp only
  by_cases h1 : nxt (lst way) d = 0 ∨ 0 ≤ atS b s (nxt (lst way) d) ∨ nxt (lst way) d ∈ over
  · rw [if_pos h1]
  · rw [if_neg h1, if_pos h]
theorem stp_yes {b : List Int} {s : Int} {way over : List Nat} {d : Nat} (h1 : ¬ (nxt (lst way) d = 0 ∨ 0 ≤ atS b s (nxt (lst way) d) ∨ nxt (lst way) d ∈ over)) (h2 : ¬ (nxt (nxt (lst way) d) d = 0 ∨ (atS b s (nxt (nxt (lst way) d) d) ≠ 0 ∧ nxt (nxt (lst way) d) d ≠ fst way))) :
    stp b s way over d = some (nxt (lst way) d, nxt (nxt (lst way) d) d) := by
  unfold stp
  simp only
  rw [if_neg h1, if_neg h2]
section
variable {b : List Int} {s piece : Int} {f : Nat} {way over : List Nat} {k d : Nat}
theorem acc_next (hd : (dirsS piece s)[k]? = some d) : accJ b s piece f way over (k + 1) = accJ b s piece f way over k ++ armJ b s piece f way over d ∧ onJ b s piece way over (k + 1) = (onJ b s piece way over k || (stp b s way over d).isSome) := by
  unfold accJ onJ
  rw [List.take_add_one, hd]
  simp
theorem acc_len : (accJ b s piece f way over k).length ≤ k * 4 ^ f := by
  unfold accJ
  have hp : 1 ≤ 4 ^ f := Nat.one_le_pow _ _ (by omega)
  have h1 : ∀ d ∈ (dirsS piece s).take k, (armJ b s piece f way over d).length ≤ 4 ^ f := by
    intro d _
    unfold armJ
    cases stp b s way over d with
    | none => simp
    | some r =>
      simp only [Option.elim_some]
      split
      · simpa using hp
      · exact jumps_len b s piece f _ _
  have h2 := flat_le _ h1
  have h3 : ((dirsS piece s).take k).length ≤ k := by simp; omega
  exact Nat.le_trans h2 (Nat.mul_le_mul_right _ h3)
theorem jumps_acc : jumpsS b s piece (f + 1) way over = accJ b s piece f way over (dirsS piece s).length ++ if onJ b s piece way over (dirsS piece s).length = false ∧ 1 < way.length then [way] else [] := by
  unfold accJ onJ
  rw [List.take_length]
  have e : ((dirsS piece s).all fun d => (stp b s way over d).isNone) = !((dirsS piece s).any fun d => (stp b s way over d).isSome) := by
    rw [List.not_any_eq_all_not]
    congr 1
    funext d
    cases stp b s way over d <;> rfl
  show _ ++ (if ((dirsS piece s).all fun d => (stp b s way over d).isNone) = true ∧ 1 < way.length then [way] else []) = _
  rw [e]
  simp
  rfl
end
theorem asI_at' (l : List Nat) (j : Nat) : (asI l)[j]?.getD 0 = ((l[j]?.getD 0 : Nat) : Int) := asI_at l j
/-- the blocks of a slice lie in the world. -/
def Sz (W : World) (p : Option Addr) : Prop := ∀ a, p = some a → a.block < W.heap.size
theorem Sz.mono {W W' : World} {p : Option Addr} (h : Sz W p) (hs : W.heap.size ≤ W'.heap.size) : Sz W' p := fun a ha => Nat.lt_of_lt_of_le (h a ha) hs
theorem row_lt {B : Nat} {W : World} {q : Option Addr} {n c : Nat} {L : List (List Int)} (h : OwnRows 22 B W q n c L) : Sz W q := fun a ha => by
  obtain ⟨vs, hC, _⟩ := h
  exact (hC.block a ha).2
theorem Sf.new {B : Nat} {q p : Option Addr} {W : World} (hq : Sz W q) (hp : ∀ a, p = some a → W.heap.size ≤ a.block) (hB : B ≤ W.heap.size) : Sf B q p := fun a ha => by
  have h1 := hp a ha
  refine ⟨by omega, fun e => ?_⟩
  cases q with
  | none => cases e
  | some x => simp at e; have := hq x rfl; omega

/-- what jumps is asked. -/
def JAt (pb g cb B : Nat) (b : List Int) (s piece : Int) (f : Nat) : Prop :=
  ∀ (way over : List Nat) (p : Option Addr) (n c1 : Nat) (m : Option Addr) (mo c2 : Nat) (q : Option Addr) (c : Nat) (L : List (List Int)) (W : World),
    Py pb g cb B b s q c L W → IntsIn W p n (asI way) → IntsIn W m mo (asI over) → Sf B q p → Sf B q m → Sz W p → Sz W m → way ≠ [] → InB way → InB over → E b s over < f → n ≤ 40 → mo ≤ 40 → n + f ≤ 40 → mo + f ≤ 40 → L.length + 4 ^ f ≤ 100000000000 →
    Calls Try.prog 15 #[.pointer (some ⟨pb, 0, none⟩), .slice p n c1, .int .i64 piece, .slice m mo c2] W fun e W' => e = .returned (.tuple #[]) ∧ ∃ q' c', Py pb g cb B b s q' c' (L ++ (jumpsS b s piece f way over).map asI) W' ∧ Ch pb q q' W W'

set_option maxRecDepth 20000 in
set_option maxHeartbeats 16000000 in
theorem jumps_step (pb g cb B : Nat) (b : List Int) (s piece : Int) (f : Nat) (ih : JAt pb g cb B b s piece f) : JAt pb g cb B b s piece (f + 1) := by
  intro way over p n c1 m mo c2 q c L W hP hIp hIm hSp hSm hZp hZm hne hBw hBo hE hn40 hm40 hnf hmf hLen
  have hlw : way.length = n := by have := hIp.len; rwa [asI_len] at this
  have hlo : over.length = mo := by have := hIm.len; rwa [asI_len] at this
  have hn1 : 1 ≤ n := by rw [← hlw]; exact List.length_pos_iff.2 hne
  obtain ⟨bw, ow, rfl, hbw, hcw⟩ := hIp.at hn1
  have cl := hcw (n - 1) (by omega)
  rw [asI_at'] at cl
  have elst : lst way = way[n - 1]?.getD 0 := by unfold lst; rw [hlw]
  rw [← elst] at cl
  have hin : (n : Int) - 1 = ((n - 1 : Nat) : Int) := by omega
  clear hcw
  have hlst := hBw _ (lst_mem hne)
  have hfst := hBw _ (fst_mem hne)
  have HD := dirs_any pb g cb B b s q c L W hP piece
  have hdl := dirs_len piece s
  have hp4 : 4 ^ (f + 1) = 4 * 4 ^ f := by rw [Nat.pow_succ]; omega
  rw [hp4] at hLen
  have hp1 : 1 ≤ 4 ^ f := Nat.one_le_pow _ _ (by omega)
  obtain ⟨F, hF⟩ : ∃ F, 4 ^ f = F := ⟨_, rfl⟩
  rw [hF] at hLen hp1
  obtain ⟨DD, hDD⟩ : ∃ DD, (dirsS piece s).length = DD := ⟨_, rfl⟩
  have hdlt : ∀ k d, (dirsS piece s)[k]? = some d → d < 4 := fun k d h => dirs_lt (List.mem_of_getElem? h)
  have hjump := jumps_acc (b := b) (s := s) (piece := piece) (f := f) (way := way) (over := over)
  rw [hDD] at HD hdl hjump
  replace hjump := Lib.hid hjump; replace elst := Lib.hid elst; replace ih := Lib.hid ih; replace HD := Lib.hid HD; replace hDD := Lib.hid hDD; replace hdlt := Lib.hid hdlt; replace hF := Lib.hid hF; replace hP := Lib.hid hP
  replace hIp := Lib.hid hIp; replace hIm := Lib.hid hIm; replace hSp := Lib.hid hSp; replace hSm := Lib.hid hSm; replace hZp := Lib.hid hZp; replace hZm := Lib.hid hZm; replace hBw := Lib.hid hBw; replace hBo := Lib.hid hBo; replace hlw := Lib.hid hlw; replace hlo := Lib.hid hlo; replace hE := Lib.hid hE; replace hp4 := Lib.hid hp4; replace hne := Lib.hid hne
  generalize hat : lst way = at_ at *
  replace hat := Lib.hid hat
  go_enter Try.func15, Try.ntmps15
  go_wp2_with fail
  refine HD.out.mono ?_
  rintro e W1 ⟨⟨da, dc, rfl, hId, hdge, hdlt1⟩, hB1⟩
  have hSd : Sf B q (some da) := Sf.new (row_lt hP.out.rw) (fun a ha => by cases ha; exact hdge) hP.out.sz
  have hP1 := hP.out.below hB1
  replace hId := Lib.hid hId; replace hSd := Lib.hid hSd; replace hP1 := Lib.hid hP1; replace hB1 := Lib.hid hB1
  clear cl HD
  go_wp2_with fail
  go_loopg [9, 25] DD (fun gk onv kv W' => ∃ (k : Nat) (q' : Option Addr) (c' : Nat), k ≤ DD ∧ gk = DD - k ∧ kv = .int .i64 k ∧ onv = .bool (onJ b s piece way over k) ∧ Py pb g cb B b s q' c' (L ++ (accJ b s piece f way over k).map asI) W' ∧ Ch pb q q' W1 W')
  case atStart =>
    refine ⟨0, q, c, Nat.zero_le _, rfl, rfl, rfl, ?_, Ch.refl _ _ _⟩
    have e0 : accJ b s piece f way over 0 = [] := rfl
    rw [e0]
    simpa using hP1.out
  case round =>
    obtain ⟨k, q1, k1, hk, hgk, rfl, rfl, hPk, hCk⟩ := hrel
    obtain ⟨W2, rfl⟩ : ∃ W2 : World, W2 = wr := ⟨_, rfl⟩
    replace hgk := Lib.hid hgk
    have hC2 : Ch pb q q1 W W2 := (Ch.of_below hB1.out).trans hCk
    have hpB := hP.out.ne.1
    have hIp2 := hIp.out.ch hSp.out hpB hC2 hZp.out
    have hIm2 := hIm.out.ch hSm.out hpB hC2 hZm.out
    have hSp2 := hSp.out.ch hC2 hZp.out
    have hSm2 := hSm.out.ch hC2 hZm.out
    have hZp2 := hZp.out.mono hC2.size
    have hZm2 := hZm.out.mono hC2.size
    have hId2 := hId.out.ch hSd.out hpB hCk (fun a ha => by cases ha; exact hdlt1)
    by_cases hlt : k < DD
    · obtain ⟨d, hkd⟩ : ∃ d, (dirsS piece s)[k]? = some d := ⟨(dirsS piece s)[k]'(by rw [hDD.out]; exact hlt), List.getElem?_eq_getElem _⟩
      have hd4 := hdlt.out k d hkd
      obtain ⟨hac, hon⟩ := acc_next (b := b) (f := f) (way := way) (over := over) hkd
      obtain ⟨bd, od, hde, _, hcd⟩ := hId2.at (by omega)
      have kd := hcd k hlt
      rw [asI_at', hkd, Option.getD_some] at kd
      cases hde
      clear hcd
      obtain ⟨mid, hmid⟩ : ∃ mid, nxt at_ d = mid := ⟨_, rfl⟩
      have HN := next_any at_ d hlst.1 hlst.2 hd4 W2
      have hmle := nxt_le ⟨at_, by omega⟩ ⟨d, hd4⟩ hlst.1
      simp only at hmle
      rw [hmid] at HN hmle
      obtain ⟨Lk, hLk⟩ : ∃ Lk, L ++ (accJ b s piece f way over k).map asI = Lk := ⟨_, rfl⟩
      rw [hLk] at hPk
      have hno1 := fun h => stp_no1 (b := b) (s := s) (way := way) (over := over) (d := d) h
      have hno2 := fun h => stp_no2 (b := b) (s := s) (way := way) (over := over) (d := d) h
      have hyes := fun h1 h2 => stp_yes (b := b) (s := s) (way := way) (over := over) (d := d) h1 h2
      rw [hat.out, hmid] at hno1 hno2 hyes
      have hskip : stp b s way over d = none → L ++ (accJ b s piece f way over (k + 1)).map asI = Lk ∧ onJ b s piece way over (k + 1) = onJ b s piece way over k := fun h => by
        rw [hac, hon, h]
        unfold armJ
        rw [h]
        simpa using hLk
      obtain ⟨ok, hok⟩ : ∃ ok, onJ b s piece way over k = ok := ⟨_, rfl⟩
      rw [hok] at hskip hon
      rw [hok]
      replace hskip := Lib.hid hskip; replace hon := Lib.hid hon; replace hac := Lib.hid hac; replace hkd := Lib.hid hkd; replace hmid := Lib.hid hmid; replace hLk := Lib.hid hLk; replace hok := Lib.hid hok; replace hno1 := Lib.hid hno1; replace hno2 := Lib.hid hno2; replace hyes := Lib.hid hyes
      replace hPk := Lib.hid hPk; replace hCk := Lib.hid hCk; replace hC2 := Lib.hid hC2; replace hIp2 := Lib.hid hIp2; replace hIm2 := Lib.hid hIm2; replace hSp2 := Lib.hid hSp2; replace hSm2 := Lib.hid hSm2; replace hZp2 := Lib.hid hZp2; replace hZm2 := Lib.hid hZm2; replace hId2 := Lib.hid hId2; replace HN := Lib.hid HN
      by_cases hm0 : mid = 0
      · have hz0 : ((mid : Int) == 0) = true := by simp [hm0]
        obtain ⟨e1, e2⟩ := hskip.out (hno1.out (.inl hm0))
        replace e1 := Lib.hid e1; replace e2 := Lib.hid e2; replace hm0 := Lib.hid hm0
        go_wp2_with fail
        refine HN.out.mono ?_
        rintro e w' ⟨rfl, rfl⟩
        go_wp2_with fail
        have hgk := hgk.out
        go_roundg (DD - (k + 1))
        case measure => omega
        case rel => exact ⟨k + 1, q1, k1, by omega, rfl, by go_num, by rw [e2.out], by rw [e1.out]; exact hPk.out, hCk.out⟩
      · have hz0 : ((mid : Int) == 0) = false := by simp; omega
        have HA := Lib.hid (at_any pb g cb B b s q1 k1 Lk W2 hPk.out mid hmle)
        obtain ⟨am, ham⟩ : ∃ am, atS b s mid = am := ⟨_, rfl⟩
        rw [ham] at HA
        by_cases ha0 : 0 ≤ am
        · obtain ⟨e1, e2⟩ := hskip.out (hno1.out (.inr (.inl (by rw [ham]; exact ha0))))
          replace e1 := Lib.hid e1; replace e2 := Lib.hid e2; replace ham := Lib.hid ham; replace hm0 := Lib.hid hm0
          go_wp2_with fail
          refine HN.out.mono ?_
          rintro e w' ⟨rfl, rfl⟩
          go_wp2_with fail
          refine HA.out.mono ?_
          rintro e W3 ⟨rfl, hB3⟩
          replace hB3 := Lib.hid hB3
          go_wp2_with fail
          have hgk := hgk.out
          go_roundg (DD - (k + 1))
          case measure => omega
          case rel => exact ⟨k + 1, q1, k1, by omega, rfl, by go_num, by rw [e2.out], by rw [e1.out]; exact hPk.out.below hB3.out, hCk.out.below hB3.out⟩
        · have HC := Lib.hid (fun W3 hW3 => contains_any m mo c2 over mid W3 (by omega) hW3)
          obtain ⟨inn, hinn⟩ : ∃ inn, decide (mid ∈ over) = inn := ⟨_, rfl⟩
          rw [hinn] at HC
          cases inn with
          | true =>
            obtain ⟨e1, e2⟩ := hskip.out (hno1.out (.inr (.inr (of_decide_eq_true hinn))))
            replace e1 := Lib.hid e1; replace e2 := Lib.hid e2; replace ham := Lib.hid ham; replace hm0 := Lib.hid hm0; replace hinn := Lib.hid hinn
            go_wp2_with fail
            refine HN.out.mono ?_
            rintro e w' ⟨rfl, rfl⟩
            go_wp2_with fail
            refine HA.out.mono ?_
            rintro e W3 ⟨rfl, hB3⟩
            have HC3 := Lib.hid (HC.out W3 (hIm2.out.below hB3))
            replace hB3 := Lib.hid hB3
            go_wp2_with fail
            refine HC3.out.mono ?_
            rintro e w' ⟨rfl, rfl⟩
            go_wp2_with fail
            have hgk := hgk.out
            go_roundg (DD - (k + 1))
            case measure => omega
            case rel => exact ⟨k + 1, q1, k1, by omega, rfl, by go_num, by rw [e2.out], by rw [e1.out]; exact hPk.out.below hB3.out, hCk.out.below hB3.out⟩
          | false =>
            have hn1 : Hid (¬ (mid = 0 ∨ 0 ≤ atS b s mid ∨ mid ∈ over)) := by
              show ¬ _
              rw [ham]
              rintro (h | h | h)
              · exact hm0 h
              · exact ha0 h
              · exact absurd h (of_decide_eq_false hinn)
            have hm1 : 1 ≤ mid := Nat.pos_of_ne_zero hm0
            have HT := Lib.hid (fun W3 => next_any mid d hm1 hmle hd4 W3)
            have htle := nxt_le ⟨mid, by omega⟩ ⟨d, hd4⟩ hm1
            simp only at htle
            obtain ⟨to_, hto⟩ : ∃ to_, nxt mid d = to_ := ⟨_, rfl⟩
            rw [hto] at HT htle
            rw [hto] at hno2 hyes
            have hEl : Hid (E b s (over ++ [mid]) < f) := by
              have h1 := E_less (b := b) (s := s) (over := over) hmle (by rw [ham]; omega) (of_decide_eq_false hinn)
              have h2 := hE.out
              show _ < _
              omega
            replace ham := Lib.hid ham; replace hm0 := Lib.hid hm0; replace hinn := Lib.hid hinn; replace hto := Lib.hid hto
            have ha0' : am < 0 := by omega
            clear ha0
            by_cases ht0 : to_ = 0
            · have hzt : ((to_ : Int) == 0) = true := by simp [ht0]
              obtain ⟨e1, e2⟩ := hskip.out (hno2.out (.inl ht0))
              replace e1 := Lib.hid e1; replace e2 := Lib.hid e2; replace ht0 := Lib.hid ht0
              go_wp2_with fail
              refine HN.out.mono ?_
              rintro e w' ⟨rfl, rfl⟩
              go_wp2_with fail
              refine HA.out.mono ?_
              rintro e W3 ⟨rfl, hB3⟩
              have HC3 := Lib.hid (HC.out W3 (hIm2.out.below hB3))
              replace hB3 := Lib.hid hB3
              go_wp2_with fail
              refine HC3.out.mono ?_
              rintro e w' ⟨rfl, rfl⟩
              go_wp2_with fail
              refine (HT.out _).mono ?_
              rintro e w' ⟨rfl, rfl⟩
              go_wp2_with fail
              have hgk := hgk.out
              go_roundg (DD - (k + 1))
              case measure => omega
              case rel => exact ⟨k + 1, q1, k1, by omega, rfl, by go_num, by rw [e2.out], by rw [e1.out]; exact hPk.out.below hB3.out, hCk.out.below hB3.out⟩
            · have hzt : ((to_ : Int) == 0) = false := by simp; omega
              have ht1 : 1 ≤ to_ := Nat.pos_of_ne_zero ht0
              obtain ⟨at2, hat2⟩ : ∃ at2, atS b s to_ = at2 := ⟨_, rfl⟩
              have HB := Lib.hid (fun W3 (hW3 : Below W2.heap.size W2 W3) => at_any pb g cb B b s q1 k1 Lk W3 (hPk.out.below hW3) to_ htle)
              rw [hat2] at HB
              obtain ⟨fs, hfs⟩ : ∃ fs, fst way = fs := ⟨_, rfl⟩
              have hcf : Hid (∀ X, Below W2.heap.size W2 X → X.cell? ⟨bw, ow, none⟩ = some (.int .i64 (fs : Int))) := fun X hX => by
                obtain ⟨b', o', e', _, hc'⟩ := (hIp2.out.below hX).at (by omega)
                cases e'
                have := hc' 0 (by omega)
                rw [asI_at', Nat.add_zero] at this
                rw [← hfs]
                exact this
              rw [hat2, hfs] at hno2 hyes
              by_cases hbad : at2 ≠ 0 ∧ to_ ≠ fs
              · have hzb : (at2 != 0) = true := by simpa using hbad.1
                have hzc : ((to_ : Int) != (fs : Int)) = true := by have := hbad.2; simp; omega
                obtain ⟨e1, e2⟩ := hskip.out (hno2.out (.inr hbad))
                replace e1 := Lib.hid e1; replace e2 := Lib.hid e2; replace hat2 := Lib.hid hat2; replace hfs := Lib.hid hfs; replace hbad := Lib.hid hbad
                go_wp2_with fail
                refine HN.out.mono ?_
                rintro e w' ⟨rfl, rfl⟩
                go_wp2_with fail
                refine HA.out.mono ?_
                rintro e W3 ⟨rfl, hB3⟩
                have HC3 := Lib.hid (HC.out W3 (hIm2.out.below hB3))
                have HB3 := Lib.hid (HB.out W3 hB3)
                replace hB3 := Lib.hid hB3
                go_wp2_with fail
                refine HC3.out.mono ?_
                rintro e w' ⟨rfl, rfl⟩
                go_wp2_with fail
                refine (HT.out _).mono ?_
                rintro e w' ⟨rfl, rfl⟩
                go_wp2_with fail
                refine HB3.out.mono ?_
                rintro e W4 ⟨rfl, hB4⟩
                have hB24 := hB3.out.trans (hB4.mono hB3.out.size)
                have cf := hcf.out W4 hB24
                replace hB4 := Lib.hid hB4; replace hB24 := Lib.hid hB24
                go_wp2_with fail
                have hgk := hgk.out
                go_roundg (DD - (k + 1))
                case measure => omega
                case rel => exact ⟨k + 1, q1, k1, by omega, rfl, by go_num, by rw [e2.out], by rw [e1.out]; exact hPk.out.below hB24.out, hCk.out.below hB24.out⟩
              · have hst := hyes.out hn1.out (by rintro (h | h); exact ht0 h; exact hbad h)
                have harm : L ++ (accJ b s piece f way over (k + 1)).map asI = Lk ++ (if piece = 1 ∧ lastS s to_ = true then [way ++ [to_]] else jumpsS b s piece f (way ++ [to_]) (over ++ [mid])).map asI ∧ onJ b s piece way over (k + 1) = true := by
                  rw [hac.out, hon.out, hst, List.map_append, ← List.append_assoc, hLk.out]
                  unfold armJ
                  rw [hst]
                  simp
                have haccl := acc_len (b := b) (s := s) (piece := piece) (f := f) (way := way) (over := over) (k := k)
                rw [hF.out] at haccl
                have hLkl : Lk.length ≤ L.length + 3 * F := by
                  rw [← hLk.out]
                  simp only [List.length_append, List.length_map]
                  have : k * F ≤ 3 * F := Nat.mul_le_mul_right _ (by omega)
                  omega
                replace harm := Lib.hid harm; replace hst := Lib.hid hst; replace hat2 := Lib.hid hat2; replace haccl := Lib.hid haccl
                clear hno1 hno2 hyes hskip hon hac
                go_wp2_with fail
                refine HN.out.mono ?_
                rintro e w' ⟨rfl, rfl⟩
                go_wp2_with fail
                refine HA.out.mono ?_
                rintro e W3 ⟨rfl, hB3⟩
                have HC3 := Lib.hid (HC.out W3 (hIm2.out.below hB3))
                have HB3 := Lib.hid (HB.out W3 hB3)
                replace hB3 := Lib.hid hB3
                go_wp2_with fail
                refine HC3.out.mono ?_
                rintro e w' ⟨rfl, rfl⟩
                go_wp2_with fail
                refine (HT.out _).mono ?_
                rintro e w' ⟨rfl, rfl⟩
                go_upto_region 8 with fail
                go_cut [62] (fun v X => v = .bool false ∧ Below W2.heap.size W2 X)
                case first =>
                  by_cases h20 : at2 = 0
                  · have hzb : (at2 != 0) = false := by simpa using h20
                    replace h20 := Lib.hid h20; replace hbad := Lib.hid hbad
                    go_wp2_with fail
                    refine HB3.out.mono ?_
                    rintro e W4 ⟨rfl, hB4⟩
                    have hB24 := Lib.hid (hB3.out.trans (hB4.mono hB3.out.size))
                    replace hB4 := Lib.hid hB4
                    go_wp2_with fail
                    go_meet
                    exact ⟨rfl, hB24.out⟩
                  · have hzb : (at2 != 0) = true := by simpa using h20
                    have htf : to_ = fs := by
                      apply Decidable.byContradiction
                      intro h
                      exact hbad ⟨h20, h⟩
                    have hzc : ((to_ : Int) != (fs : Int)) = false := by rw [htf]; simp
                    replace h20 := Lib.hid h20; replace hbad := Lib.hid hbad; replace htf := Lib.hid htf
                    go_wp2_with fail
                    refine HB3.out.mono ?_
                    rintro e W4 ⟨rfl, hB4⟩
                    have hB24 := hB3.out.trans (hB4.mono hB3.out.size)
                    have cf := hcf.out W4 hB24
                    replace hB4 := Lib.hid hB4; replace hB24 := Lib.hid hB24
                    go_wp2_with fail
                    go_meet
                    exact ⟨rfl, hB24.out⟩
                case rest =>
                  obtain ⟨rfl, hB4⟩ := hcut
                  obtain ⟨W4, rfl⟩ : ∃ W4 : World, W4 = wc := ⟨_, rfl⟩
                  clear HB HB3 HC HC3 HT HN HA hcf kd
                  have hP4 := hPk.out.below hB4
                  have hC4 := hC2.out.below hB4
                  have hIp4 := hIp2.out.below hB4
                  have hIm4 := hIm2.out.below hB4
                  have hZm4 := hZm2.out.mono hB4.size
                  have HCl := Lib.hid (clone_any (some ⟨bw, ow, none⟩) n c1 (asI way) W4 (by omega) hIp4)
                  have hBsz := hP4.sz
                  have hqz := row_lt hP4.rw
                  replace hP4 := Lib.hid hP4; replace hC4 := Lib.hid hC4; replace hIp4 := Lib.hid hIp4; replace hIm4 := Lib.hid hIm4; replace hB4 := Lib.hid hB4; replace hZm4 := Lib.hid hZm4; replace hqz := Lib.hid hqz; replace hbad := Lib.hid hbad
                  have HL := Lib.hid (fun W6 (hW6 : Below W4.heap.size W4 W6) => last_any pb g cb B b s q1 k1 Lk W6 (hP4.out.below hW6) to_ htle)
                  go_wp2_with fail
                  refine HCl.out.mono ?_
                  rintro e W5 ⟨p5, c5, rfl, hO5, hB5⟩
                  clear HCl
                  have hp5 := hO5.block
                  replace hO5 := Lib.hid hO5; replace hp5 := Lib.hid hp5
                  have hB5s := hB5.size
                  replace hB5 := Lib.hid hB5
                  go_upto_region 11 with (at_builtin; refine wp_append1 intG W5 rfl _ _ rfl W4.heap.size p5 n c5 (asI way) rfl hO5.out (to_ : Int) rfl (by omega) hB5s ?_; intro p6 c6 W6 hO6 hg6 hor6 hz6; replace hO6 := Lib.hid hO6; replace hg6 := Lib.hid hg6; replace hor6 := Lib.hid hor6)
                  have hB6 : Below W4.heap.size W4 W6 := hB5.out.grown hg6.out hB5s (fun x hx => by
                    cases p5 with
                    | none => cases hx
                    | some a => simp at hx; have := (hp5.out a rfl).1; omega)
                  have hO6' := hO6.out
                  have easI : asI way ++ [(to_ : Int)] = asI (way ++ [to_]) := by rw [asI_app]; rfl
                  rw [easI] at hO6'
                  have hI6 := hO6'.in
                  have hp6 := hO6'.block
                  have hP6 := hP4.out.below hB6
                  have hC6 := hC4.out.below hB6
                  have hSp6 : Sf B q1 p6 := Sf.new hqz.out (fun a ha => (hp6 a ha).1) hBsz
                  have hZp6 : Sz W6 p6 := fun a ha => (hp6 a ha).2
                  have HL6 := Lib.hid (HL.out W6 hB6)
                  have hlens : W4.heap.size ≤ W6.heap.size := hB6.size
                  replace hO6' := Lib.hid hO6'; replace hI6 := Lib.hid hI6; replace hp6 := Lib.hid hp6; replace hP6 := Lib.hid hP6; replace hC6 := Lib.hid hC6; replace hSp6 := Lib.hid hSp6; replace hZp6 := Lib.hid hZp6; replace hB6 := Lib.hid hB6; replace easI := Lib.hid easI
                  clear HL hO6 hg6 hor6 hO5 hp5
                  by_cases hT : piece = 1 ∧ lastS s to_ = true
                  · have hz1 : (piece == 1) = true := by simp [hT.1]
                    have hls := hT.2
                    rw [hls] at HL6
                    have harm2 := harm.out
                    rw [if_pos hT] at harm2
                    have q2 := hP6.out.c2
                    have hnr := hP6.out.rw
                    have hne6 : ∀ a, p6 = some a → q1.map (·.block) ≠ some a.block ∧ B ≤ a.block ∧ a.block < W6.heap.size := fun a ha => ⟨(hSp6.out a ha).2, (hSp6.out a ha).1, hZp6.out a ha⟩
                    have hBs6 : B ≤ W6.heap.size := by omega
                    replace hT := Lib.hid hT; replace hls := Lib.hid hls; replace harm2 := Lib.hid harm2; replace hnr := Lib.hid hnr; replace hne6 := Lib.hid hne6
                    clear harm
                    go_wp2_with fail
                    refine HL6.out.mono ?_
                    rintro e w' ⟨rfl, rfl⟩
                    go_wp2_with (at_builtin; refine wp_appendRowW elRow W6 rfl _ _ rfl B q1 Lk.length k1 Lk rfl hnr.out p6 (n + 1) c6 (asI (way ++ [to_])) hI6.out hne6.out rfl (by omega) hBs6 ?_; intro q7 k7 W7 hO7 hg7 hor7; obtain ⟨hP7, hC7, d0, d1⟩ := hP6.out.told hO7 hg7 hor7; replace hP7 := Lib.hid hP7; replace hC7 := Lib.hid hC7; replace hO7 := Lib.hid hO7; replace hg7 := Lib.hid hg7; replace hor7 := Lib.hid hor7)
                    have hgk := hgk.out
                    go_roundg (DD - (k + 1))
                    case measure => omega
                    case rel =>
                      refine ⟨k + 1, q7, k7, by omega, rfl, by go_num, by rw [harm2.out.2], ?_, ?_⟩
                      · rw [harm2.out.1]; exact hP7.out
                      · exact (hCk.out.below hB4.out).trans ((Ch.of_below hB6.out).trans hC7.out)
                  · have harm2 := harm.out
                    rw [if_neg hT] at harm2
                    replace harm2 := Lib.hid harm2
                    clear harm
                    go_cut [74] (fun v X => v = .bool false ∧ X = W6)
                    case first =>
                      by_cases hz : piece = 1
                      · have hz1 : (piece == 1) = true := by simp [hz]
                        have hls : lastS s to_ = false := by
                          cases h : lastS s to_ with
                          | false => rfl
                          | true => exact absurd ⟨hz, h⟩ hT
                        rw [hls] at HL6
                        replace hz := Lib.hid hz; replace hT := Lib.hid hT; replace hls := Lib.hid hls
                        go_wp2_with fail
                        refine HL6.out.mono ?_
                        rintro e w' ⟨rfl, rfl⟩
                        go_wp2_with fail
                        go_meet
                        exact ⟨rfl, rfl⟩
                      · have hz1 : (piece == 1) = false := by simp [hz]
                        replace hz := Lib.hid hz; replace hT := Lib.hid hT
                        go_wp2_with fail
                        go_meet
                        exact ⟨rfl, rfl⟩
                    case rest =>
                      obtain ⟨rfl, hw0⟩ := hcut
                      obtain rfl := hw0.symm
                      clear hw0 HL6
                      have HCo := Lib.hid (clone_any m mo c2 (asI over) W6 (by omega) (hIm4.out.below hB6.out))
                      replace hT := Lib.hid hT
                      go_wp2_with fail
                      refine HCo.out.mono ?_
                      rintro e W7 ⟨p7, c7, rfl, hO7, hB7⟩
                      clear HCo
                      have hp7 := hO7.block
                      have hB7s := hB7.size
                      replace hO7 := Lib.hid hO7; replace hp7 := Lib.hid hp7; replace hB7 := Lib.hid hB7
                      go_wp2_with (at_builtin; refine wp_append1 intG W7 rfl _ _ rfl W6.heap.size p7 mo c7 (asI over) rfl hO7.out (mid : Int) rfl (by omega) hB7s ?_; intro p8 c8 W8 hO8 hg8 hor8 hz8; replace hO8 := Lib.hid hO8; replace hg8 := Lib.hid hg8; replace hor8 := Lib.hid hor8)
                      have hB8 : Below W6.heap.size W6 W8 := hB7.out.grown hg8.out hB7s (fun x hx => by
                        cases p7 with
                        | none => cases hx
                        | some a => simp at hx; have := (hp7.out a rfl).1; omega)
                      have hO8' := hO8.out
                      have eo : asI over ++ [(mid : Int)] = asI (over ++ [mid]) := by rw [asI_app]; rfl
                      rw [eo] at hO8'
                      have hp8 := hO8'.block
                      have hR := ih.out (way ++ [to_]) (over ++ [mid]) p6 (n + 1) c6 p8 (mo + 1) c8 q1 k1 Lk W8 (hP6.out.below hB8) (hI6.out.below hB8) hO8'.in hSp6.out
                        (Sf.new (row_lt hP6.out.rw) (fun a ha => (hp8 a ha).1) (by omega)) (hZp6.out.mono hB8.size) (fun a ha => (hp8 a ha).2) (by simp) (inB_app hBw.out ht1 htle) (inB_app hBo.out hm1 hmle) hEl.out (by omega) (by omega) (by omega) (by omega) (by rw [hF.out]; omega)
                      replace hR := Lib.hid hR; replace hO8' := Lib.hid hO8'; replace hp8 := Lib.hid hp8; replace hB8 := Lib.hid hB8; replace eo := Lib.hid eo
                      refine hR.out.mono ?_
                      rintro e W9 ⟨rfl, q9, k9, hP9, hC9⟩
                      replace hP9 := Lib.hid hP9; replace hC9 := Lib.hid hC9
                      go_wp2_with fail
                      have hgk := hgk.out
                      go_roundg (DD - (k + 1))
                      case measure => omega
                      case rel =>
                        refine ⟨k + 1, q9, k9, by omega, rfl, by go_num, by rw [harm2.out.2], ?_, ?_⟩
                        · rw [harm2.out.1]; exact hP9.out
                        · exact (hCk.out.below hB4.out).trans ((Ch.of_below hB6.out).trans ((Ch.of_below hB8.out).trans hC9.out))
    · obtain rfl : DD = k := by omega
      have hj := hjump.out
      obtain ⟨Lk, hLk⟩ : ∃ Lk, L ++ (accJ b s piece f way over DD).map asI = Lk := ⟨_, rfl⟩
      rw [hLk] at hPk
      have haccl := acc_len (b := b) (s := s) (piece := piece) (f := f) (way := way) (over := over) (k := DD)
      rw [hF.out] at haccl
      have hLkl : Lk.length ≤ L.length + 4 * F := by
        rw [← hLk]
        simp only [List.length_append, List.length_map]
        have : DD * F ≤ 4 * F := Nat.mul_le_mul_right _ hdl
        omega
      obtain ⟨ok, hok⟩ : ∃ ok, onJ b s piece way over DD = ok := ⟨_, rfl⟩
      rw [hok] at hj ⊢
      have hfin : L ++ (jumpsS b s piece (f + 1) way over).map asI = Lk ++ (if ok = false ∧ 1 < way.length then [way] else []).map asI := by
        rw [hj, List.map_append, ← List.append_assoc, hLk]
      replace hj := Lib.hid hj; replace hok := Lib.hid hok; replace hLk := Lib.hid hLk; replace haccl := Lib.hid haccl
      replace hPk := Lib.hid hPk; replace hCk := Lib.hid hCk; replace hC2 := Lib.hid hC2; replace hIp2 := Lib.hid hIp2; replace hIm2 := Lib.hid hIm2; replace hSp2 := Lib.hid hSp2; replace hSm2 := Lib.hid hSm2; replace hZp2 := Lib.hid hZp2; replace hZm2 := Lib.hid hZm2; replace hId2 := Lib.hid hId2
      cases ok with
      | true =>
        rw [if_neg (by simp)] at hfin
        have hfin2 : Hid (L ++ (jumpsS b s piece (f + 1) way over).map asI = Lk) := by show _ = _; rw [hfin]; simp
        clear hfin
        go_wp2_with fail
        go_end0
        rw [hfin2.out]
        first | exact ⟨rfl, q1, k1, hPk.out, hC2.out⟩ | exact ⟨rfl, q1, ⟨k1, hPk.out⟩, hC2.out⟩
      | false =>
        by_cases h1n : 1 < n
        · rw [if_pos ⟨rfl, by rw [hlw.out]; exact h1n⟩] at hfin
          have hfin2 : Hid (L ++ (jumpsS b s piece (f + 1) way over).map asI = Lk ++ [asI way]) := by show _ = _; rw [hfin]; rfl
          have h1ni : (1 : Int) < (n : Int) := by omega
          have q2 := hPk.out.c2
          have hnr := hPk.out.rw
          have hBs := hPk.out.sz
          have hne6 : ∀ a : Addr, (some ⟨bw, ow, none⟩ : Option Addr) = some a → q1.map (·.block) ≠ some a.block ∧ B ≤ a.block ∧ a.block < W2.heap.size := fun a ha => ⟨(hSp2.out a ha).2, (hSp2.out a ha).1, hZp2.out a ha⟩
          replace hnr := Lib.hid hnr; replace hne6 := Lib.hid hne6
          clear hfin
          go_wp2_with (at_builtin; refine wp_appendRowW elRow W2 rfl _ _ rfl B q1 Lk.length k1 Lk rfl hnr.out (some ⟨bw, ow, none⟩) n c1 (asI way) hIp2.out hne6.out rfl (by omega) hBs ?_; intro q7 k7 W7 hO7 hg7 hor7; obtain ⟨hP7, hC7, d0, d1⟩ := hPk.out.told hO7 hg7 hor7; replace hP7 := Lib.hid hP7; replace hC7 := Lib.hid hC7; replace hO7 := Lib.hid hO7; replace hg7 := Lib.hid hg7; replace hor7 := Lib.hid hor7)
          go_end0
          rw [hfin2.out]
          first | exact ⟨rfl, q7, k7, hP7.out, hC2.out.trans hC7.out⟩ | exact ⟨rfl, q7, ⟨k7, hP7.out⟩, hC2.out.trans hC7.out⟩
        · rw [if_neg (by rw [hlw.out]; exact fun h => h1n h.2)] at hfin
          have hfin2 : Hid (L ++ (jumpsS b s piece (f + 1) way over).map asI = Lk) := by show _ = _; rw [hfin]; simp
          have h1ni : ¬ (1 : Int) < (n : Int) := by omega
          clear hfin
          go_wp2_with fail
          go_end0
          rw [hfin2.out]
          first | exact ⟨rfl, q1, k1, hPk.out, hC2.out⟩ | exact ⟨rfl, q1, ⟨k1, hPk.out⟩, hC2.out⟩

theorem jumps_any (pb g cb B : Nat) (b : List Int) (s piece : Int) : ∀ f, JAt pb g cb B b s piece f
  | 0 => fun _ _ _ _ _ _ _ _ _ _ _ _ _ _ _ _ _ _ _ _ _ _ hE => absurd hE (Nat.not_lt_zero _)
  | f + 1 => jumps_step pb g cb B b s piece f (jumps_any pb g cb B b s piece f)
end Go.Proofs.Ytelhpfhnmnaefaa
