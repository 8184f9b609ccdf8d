/- What moves computes: all ways in order; conditions: the play's block lies as Py tells, nothing told yet, at most twelve to leap. -/
import Derived.Test.YtelhpfhnmnaefaaDrV
import Derived.Shelf.SlSortCmp.NoneTotal
namespace Go.Proofs.Ytelhpfhnmnaefaa
open Go.RowKit

set_option maxHeartbeats 1000000 in
theorem compact_small (q : Option Addr) (n c : Nat) (W : World) (hn : n < 2) :
    Calls Try.prog 20 #[.slice q n c, .func (.func 21) #[] #[]] W fun e W' => e = .returned (.slice q n c) ∧ W = W' := by
  have g2 : (n : Int) < 2 := by omega
  go_enter Try.func20, Try.ntmps20
  go_wp2_with fail
  go_ret
  exact ⟨rfl, rfl⟩
theorem compact_all (g n c : Nat) (F : Nat → List Nat) (W0 : World) (hn1 : 1 ≤ n) (hn : n ≤ 1000000000000) (hnc : n ≤ c) (hR : RowF g n F W0) :
    Calls Try.prog 20 #[.slice (some ⟨g, 0, none⟩) n c, .func (.func 21) #[] #[]] W0 fun e W' => e = .returned (.slice (some ⟨g, 0, none⟩) (cpN F n).length c) ∧ RowL g (cpN F n) W' ∧ Ob g W0 W' := by
  by_cases h : n = 1
  · subst h
    refine (compact_small (some ⟨g, 0, none⟩) 1 c W0 (by omega)).mono fun e W' ⟨he, hw⟩ => ?_
    subst hw
    exact ⟨he, hR.list (Nat.le_refl _) rfl, Ob.refl _ _⟩
  · exact compact_any g n c F W0 (by omega) hn hnc hR
/-- the row of ways as the sort wants it. -/
theorem Py.rowF {pb g cb B : Nat} {b : List Int} {s : Int} {q : Option Addr} {c : Nat} {ls : List (List Nat)} {W : World} (h : Py pb g cb B b s q c (ls.map asI) W) (hl : ∀ l ∈ ls, l.length ≤ 1000000) (hn : 0 < ls.length) :
    ∃ gq, q = some ⟨gq, 0, none⟩ ∧ B ≤ gq ∧ gq < W.heap.size ∧ ls.length ≤ c ∧ RowF gq ls.length (fun i => ls[i]?.getD []) W := by
  obtain ⟨vs, hC, hlen, hr⟩ := h.rw
  rw [List.length_map] at hC
  obtain ⟨gq, rfl, hB, hlt, hc⟩ := hC.where hn
  refine ⟨gq, rfl, hB, hlt, hc, fun i hi => ?_, fun i _ => hC.free i⟩
  obtain ⟨p, m, c', hv, hx, hne⟩ := hr i (asI ls[i]) (by simp [hi])
  have hm : m = ls[i].length := by have := hx.len; rw [asI_len] at this; exact this.symm
  refine ⟨p, m, c', ?_, ?_, by rw [hm]; exact hl _ (List.getElem_mem hi), fun a ha e => (hne a ha).1 (by rw [← e]; rfl)⟩
  · rw [hC.cell (by omega)]; exact hv
  · rw [List.getElem?_eq_getElem hi]; exact hx

/-- '.slice q' holds the ways R. -/
def WaysIn (W : World) (q : Option Addr) (R : List (List Nat)) : Prop :=
  ∀ i l, R[i]? = some l → ∃ (g : Nat) (p : Option Addr) (m c : Nat), q = some ⟨g, 0, none⟩ ∧ g < W.heap.size ∧ W.cell? ⟨g, i, none⟩ = some (.slice p m c) ∧ IntsIn W p m (asI l)
theorem WaysIn.below {W W' : World} {q : Option Addr} {R : List (List Nat)} (h : WaysIn W q R) (hb : Below W.heap.size W W') : WaysIn W' q R := fun i l hi => by
  obtain ⟨g, p, m, c, h1, h2, h3, h4⟩ := h i l hi
  exact ⟨g, p, m, c, h1, Nat.lt_of_lt_of_le h2 hb.size, (hb.cell (p := ⟨g, i, none⟩) h2).trans h3, h4.below hb⟩

/-- the same, the new block by its number. -/
theorem wp_appendRowS {P : Program} {T E : TypeId} (hT : ElT P T E (.slice none 0 0) 1 24) {ops : Array Oper} {rest : List Oper} {o : Oper} {a : Act} {Q : Exit → Act → World → Prop} (w0 : World)
    (hg : o.guard = none) (s x : Operand) (hop : o.op = Op.call { callee := Callee.builtin Builtin.append, args := #[s, x], argTypes := #[T, T] })
    (B : Nat) (q : Option Addr) (n c : Nat) (ls : List (List Int)) (hs : a.eval s = .slice q n c) (own : OwnRows E B w0 q n c ls) (p : Option Addr) (m c' : Nat) (l : List Int) (hl : IntsIn w0 p m l)
    (hne : ∀ a, p = some a → q.map (·.block) ≠ some a.block ∧ B ≤ a.block ∧ a.block < w0.heap.size) (sz : Nat) (hsz : sz = w0.heap.size)
    (hx : a.eval x = .slice (some ⟨sz, 0, none⟩) 1 1)
    (hn : n < 1099511627776) (hB : B ≤ w0.heap.size)
    (hK : ∀ q' c2 w', OwnRows E B w' q' (n + 1) c2 (ls ++ [l]) → w0.grownBy w' (q.map (·.block)) → (q'.map (·.block) = q.map (·.block) ∨ ∀ a, q' = some a → w0.heap.size ≤ a.block) →
      wpList P ops Q rest (a.put o.dst (.slice q' (n + 1) c2)) w') :
    wpList P ops Q (o :: rest) a (w0.alloc (.cells #[.slice p m c'] E)) := by
  subst hsz
  exact wp_appendRowW hT w0 hg s x hop B q n c ls hs own p m c' l hl hne hx hn hB hK

set_option maxRecDepth 20000 in
set_option maxHeartbeats 16000000 in
theorem moves_any (pb g cb B c0 : Nat) (b : List Int) (s : Int) (W0 : World) (hP0 : Py pb g cb B b s none c0 [] W0) (hE : E b s [] < 13) :
    Calls Try.prog 11 #[.pointer (some ⟨pb, 0, none⟩)] W0 fun e W' => ∃ R q c, e = .returned (.slice q R.length c) ∧ Ways b s R ∧ WaysIn W' q R ∧ Ch pb none q W0 W' ∧ ∃ q' n' c', W'.heap[pb]? = some (.cells #[.slice (some ⟨g, 0, none⟩) 33 cb, .int .i64 s, .slice q' n' c'] 41 (0, 0)) := by
  have hatb := fun p => atS_bd hP0.sg hP0.bv p
  replace hatb := Lib.hid hatb
  replace hE := Lib.hid hE; replace hP0 := Lib.hid hP0
  go_enter Try.func11, Try.ntmps11
  go_wp2_with fail
  go_loopg [3] 32 (fun gk pv W' => ∃ (k : Nat) (q' : Option Addr) (c' : Nat), k ≤ 32 ∧ gk = 32 - k ∧ pv = .int .i64 ((k : Int) + 1) ∧ Py pb g cb B b s q' c' ((accL b s k).map asI) W' ∧ Ch pb none q' W0 W')
  case atStart => exact ⟨0, none, c0, by omega, rfl, rfl, hP0.out, Ch.refl _ _ _⟩
  case round =>
    obtain ⟨k, q1, k1, hk, hgk, rfl, hPk, hCk⟩ := hrel
    obtain ⟨W1, rfl⟩ : ∃ W1 : World, W1 = wr := ⟨_, rfl⟩
    replace hgk := Lib.hid hgk
    clear hP0
    by_cases hlt : k < 32
    · have hki : ((k + 1 : Nat) : Int) = (k : Int) + 1 := by omega
      have hnx := accL_next (b := b) (s := s) hlt
      have HA := at_any pb g cb B b s q1 k1 _ W1 hPk (k + 1) (by omega)
      have HJ := leap_round pb g cb B b s q1 k1 k hlt W1 hE.out hPk
      have hab := hatb.out (k + 1)
      by_cases ha : 0 < atS b s (k + 1)
      · have HA2 := fun W (hW : Below W1.heap.size W1 W) => at_any pb g cb B b s q1 k1 _ W (hPk.below hW) (k + 1) (by omega)
        replace HJ := HJ ha
        generalize atS b s (k + 1) = am at *
        rw [hki] at HA HA2
        replace HA := Lib.hid HA; replace HA2 := Lib.hid HA2; replace HJ := Lib.hid HJ; replace hPk := Lib.hid hPk; replace hCk := Lib.hid hCk; replace hnx := Lib.hid hnx; replace hki := Lib.hid hki
        go_wp2_with fail
        refine HA.out.mono ?_
        rintro e W2 ⟨rfl, hB2⟩
        have hB3 : Below W1.heap.size W1 (W2.alloc (.cells #[.int .i64 ((k : Int) + 1)] 3)) := hB2.alloc hB2.size _
        have HA3 := Lib.hid (HA2.out _ hB3)
        have hI3 : IntsIn (W2.alloc (.cells #[.int .i64 ((k : Int) + 1)] 3)) (some ⟨W2.heap.size, 0, none⟩) 1 (asI [k + 1]) := IntsIn.new W2 _ 3 _ 1 _ rfl (by simp [asI]) rfl
        have hs2 := hB2.size
        have hsz3 : (W2.alloc (.cells #[.int .i64 ((k : Int) + 1)] 3)).heap.size = W2.heap.size + 1 := by simp
        replace hB3 := Lib.hid hB3; replace hI3 := Lib.hid hI3; replace hB2 := Lib.hid hB2; replace hsz3 := Lib.hid hsz3
        go_wp2_with fail
        refine HA3.out.mono ?_
        rintro e W4 ⟨rfl, hB4⟩
        have hB14 := hB3.out.trans (hB4.mono hB3.out.size)
        have hs4 := hB4.size
        rw [hsz3.out] at hs4
        have HJ4 := Lib.hid (HJ.out W4 W2.heap.size hB14 hs2 (by omega) (hI3.out.below hB4))
        replace hB4 := Lib.hid hB4; replace hB14 := Lib.hid hB14
        go_wp2_with fail
        refine HJ4.out.mono ?_
        rintro e W5 ⟨rfl, q5, c5, hP5, hC5⟩
        replace hP5 := Lib.hid hP5; replace hC5 := Lib.hid hC5
        go_wp2_with fail
        have hgk := hgk.out
        go_roundg (32 - (k + 1))
        case measure => omega
        case rel => exact ⟨k + 1, q5, c5, by omega, rfl, by go_num, hP5.out, hCk.out.trans hC5.out⟩
      · rw [leaps_none ha, List.append_nil] at hnx
        generalize atS b s (k + 1) = am at *
        rw [hki] at HA
        clear HJ
        replace HA := Lib.hid HA; replace hPk := Lib.hid hPk; replace hCk := Lib.hid hCk; replace hnx := Lib.hid hnx; replace hki := Lib.hid hki
        go_wp2_with fail
        refine HA.out.mono ?_
        rintro e W2 ⟨rfl, hB2⟩
        replace hB2 := Lib.hid hB2
        go_wp2_with fail
        have hgk := hgk.out
        go_roundg (32 - (k + 1))
        case measure => omega
        case rel => exact ⟨k + 1, q1, k1, by omega, rfl, by go_num, by rw [hnx.out]; exact hPk.out.below hB2.out, hCk.out.below hB2.out⟩
    · have hk32 : k = 32 := by omega
      have hki32 : ¬ ((k : Int) + 1 ≤ 32) := by omega
      have hoa := out_acc b s
      rw [← hk32] at hoa
      obtain ⟨L1, hL1⟩ : ∃ L1, (accL b s k).map asI = L1 := ⟨_, rfl⟩
      have hl1 : L1.length = (accL b s k).length := by rw [← hL1]; simp
      rw [← hl1] at hoa
      rw [hk32] at hoa
      replace hk32 := Lib.hid hk32
      rw [hL1] at hPk
      have q2 := hPk.c2
      replace hoa := Lib.hid hoa; replace hL1 := Lib.hid hL1; replace hPk := Lib.hid hPk; replace hCk := Lib.hid hCk; replace hl1 := Lib.hid hl1
      go_upto_if 29 with fail
      go_cut [] (fun X => Told pb g cb B b s W0 X)
      case first =>
        by_cases hz : L1.length = 0
        · have hzb : ((L1.length : Int) == 0) = true := by simp [hz]
          have hoa2 := hoa.out
          rw [if_pos hz] at hoa2
          have hL0 : L1 = [] := List.eq_nil_of_length_eq_zero hz
          rw [hzb]
          have hP0' : Hid (Py pb g cb B b s q1 k1 ((accT b s 0).map asI) W1) := by have := hPk.out; rw [hL0] at this; exact this
          replace hoa2 := Lib.hid hoa2; replace hz := Lib.hid hz; replace hL0 := Lib.hid hL0
          clear hoa hl1 hPk
          go_wp2_with fail
          go_loopg [4] 32 (fun gk pv W' => ∃ (k : Nat) (q' : Option Addr) (c' : Nat), k ≤ 32 ∧ gk = 32 - k ∧ pv = .int .i64 ((k : Int) + 1) ∧ Py pb g cb B b s q' c' ((accT b s k).map asI) W' ∧ Ch pb none q' W0 W')
          case atStart => exact ⟨0, q1, k1, by omega, rfl, rfl, hP0'.out, hCk.out⟩
          case round =>
            obtain ⟨k, q3, k3, hk3, hgk3, rfl, hP3, hC3⟩ := hrel
            obtain ⟨W2, rfl⟩ : ∃ W2 : World, W2 = wr := ⟨_, rfl⟩
            replace hgk3 := Lib.hid hgk3
            clear hP0' q2 hCk
            by_cases hlt3 : k < 32
            · have hki : ((k + 1 : Nat) : Int) = (k : Int) + 1 := by omega
              have hnx := accT_next (b := b) (s := s) hlt3
              have HA := at_any pb g cb B b s q3 k3 _ W2 hP3 (k + 1) (by omega)
              have hab := hatb.out (k + 1)
              by_cases ha : 0 < atS b s (k + 1)
              · rw [steps_accD ha] at hnx
                obtain ⟨DD, hDD⟩ : ∃ DD, (dirsS (atS b s (k + 1)) s).length = DD := ⟨_, rfl⟩
                have HD := fun W (hW : Below W2.heap.size W2 W) => dirs_any pb g cb B b s q3 k3 _ W (hP3.below hW) (atS b s (k + 1))
                rw [hDD] at hnx HD
                have hdl := dirs_len (atS b s (k + 1)) s
                rw [hDD] at hdl
                have hdget : Hid (∀ j, j < DD → ∃ d, (dirsS (atS b s (k + 1)) s)[j]? = some d ∧ d < 4) := fun j hj =>
                  ⟨(dirsS (atS b s (k + 1)) s)[j]'(by rw [hDD]; exact hj), List.getElem?_eq_getElem _, dirs_lt (List.getElem_mem _)⟩
                obtain ⟨am, ham⟩ : ∃ am, atS b s (k + 1) = am := ⟨_, rfl⟩
                rw [ham] at HA HD hab ha
                rw [hki] at HA
                replace HA := Lib.hid HA; replace HD := Lib.hid HD; replace hnx := Lib.hid hnx; replace hki := Lib.hid hki; replace hDD := Lib.hid hDD; replace ham := Lib.hid ham; replace hP3 := Lib.hid hP3; replace hC3 := Lib.hid hC3
                go_wp2_with fail
                refine HA.out.mono ?_
                rintro e W3 ⟨rfl, hB3⟩
                have HD3 := Lib.hid (HD.out W3 hB3)
                replace hB3 := Lib.hid hB3
                go_wp2_with fail
                refine HD3.out.mono ?_
                rintro e W4 ⟨⟨da, dc, rfl, hId, hdge, hdlt⟩, hB4⟩
                have hB24 := hB3.out.trans (hB4.mono hB3.out.size)
                have hP4 := hP3.out.below hB24
                have hSd : Sf B q3 (some da) := Sf.new (W := W3) (fun x hx => Nat.lt_of_lt_of_le (row_lt hP3.out.rw x hx) hB3.out.size) (fun x hx => by cases hx; exact hdge) (Nat.le_trans hP3.out.sz hB3.out.size)
                replace hId := Lib.hid hId; replace hSd := Lib.hid hSd; replace hP4 := Lib.hid hP4; replace hB4 := Lib.hid hB4; replace hB24 := Lib.hid hB24
                clear HA HD HD3
                go_wp2_with fail
                go_loopg [43] DD (fun gj jv W' => ∃ (j : Nat) (q' : Option Addr) (c' : Nat), j ≤ DD ∧ gj = DD - j ∧ jv = .int .i64 j ∧ Py pb g cb B b s q' c' ((accT b s k ++ accD b s (k + 1) j).map asI) W' ∧ Ch pb q3 q' W4 W')
                case atStart => exact ⟨0, q3, k3, by omega, rfl, rfl, by simpa [accD] using hP4.out, Ch.refl _ _ _⟩
                case round =>
                  obtain ⟨j, q5, k5, hj5, hgj, rfl, hP5, hC5⟩ := hrel
                  obtain ⟨W5, rfl⟩ : ∃ W5 : World, W5 = wr := ⟨_, rfl⟩
                  replace hgj := Lib.hid hgj
                  by_cases hltj : j < DD
                  · obtain ⟨d, hd, hd4⟩ := hdget.out j hltj
                    have hnd := accD_next (b := b) (s := s) (p := k + 1) hd
                    have hId5 := hId.out.ch hSd.out hP5.ne.1 hC5 (fun x hx => by cases hx; exact hdlt)
                    have hd2 := hd
                    rw [ham.out] at hd2
                    obtain ⟨bd, od, hde, _, hcd⟩ := hId5.at (by omega)
                    have kd := hcd j hltj
                    rw [asI_at', hd2, Option.getD_some] at kd
                    cases hde
                    clear hcd hd2
                    obtain ⟨to_, hto⟩ : ∃ to_, nxt (k + 1) d = to_ := ⟨_, rfl⟩
                    have HN := next_any (k + 1) d (by omega) (by omega) hd4 W5
                    have htle := nxt_le ⟨k + 1, by omega⟩ ⟨d, hd4⟩ (by simp only; omega)
                    simp only at htle
                    rw [hto] at HN htle
                    rw [hki.out] at HN
                    obtain ⟨Lk, hLk⟩ : ∃ Lk, (accT b s k ++ accD b s (k + 1) j).map asI = Lk := ⟨_, rfl⟩
                    rw [hLk] at hP5
                    have hLl : Lk.length ≤ 1000 := by
                      rw [← hLk]
                      have h1 := accT_len b s k
                      have h2 := accD_len b s (k + 1) j
                      simp only [List.length_map, List.length_append]
                      omega
                    have hnn : Hid (accD b s (k + 1) (j + 1) = accD b s (k + 1) j ++ if to_ ≠ 0 ∧ atS b s to_ = 0 then [[k + 1, to_]] else []) := by
                      show _ = _
                      rw [hnd]; unfold stepD; rw [hto]
                    replace hnd := Lib.hid hnd; replace hto := Lib.hid hto; replace hd := Lib.hid hd; replace hId5 := Lib.hid hId5
                    by_cases ht0 : to_ = 0
                    · have hzt : ¬ (0 : Int) < (to_ : Int) := by omega
                      have hsk : Hid ((accT b s k ++ accD b s (k + 1) (j + 1)).map asI = Lk) := by
                        show _ = _
                        rw [hnn.out, if_neg (fun h => h.1 ht0), List.append_nil]; exact hLk
                      replace HN := Lib.hid HN; replace hP5 := Lib.hid hP5; replace hC5 := Lib.hid hC5; replace hLk := Lib.hid hLk; replace ht0 := Lib.hid ht0
                      go_wp2_with fail
                      refine HN.out.mono ?_
                      rintro e w' ⟨rfl, rfl⟩
                      go_wp2_with fail
                      have hgj := hgj.out
                      go_roundg (DD - (j + 1))
                      case measure => omega
                      case rel => exact ⟨j + 1, q5, k5, by omega, rfl, by go_num, by rw [hsk.out]; exact hP5.out, hC5.out⟩
                    · have hzt : (0 : Int) < (to_ : Int) := by omega
                      have HB := at_any pb g cb B b s q5 k5 Lk W5 hP5 to_ htle
                      obtain ⟨at2, hat2⟩ : ∃ at2, atS b s to_ = at2 := ⟨_, rfl⟩
                      rw [hat2] at HB
                      by_cases h20 : at2 = 0
                      · have hzb : (at2 == 0) = true := by simp [h20]
                        have hsk : Hid ((accT b s k ++ accD b s (k + 1) (j + 1)).map asI = Lk ++ [asI [k + 1, to_]]) := by
                          show _ = _
                          rw [hnn.out, if_pos ⟨ht0, by rw [hat2]; exact h20⟩, ← List.append_assoc, List.map_append, hLk]; rfl
                        replace HN := Lib.hid HN; replace HB := Lib.hid HB; replace hP5 := Lib.hid hP5; replace hC5 := Lib.hid hC5; replace hLk := Lib.hid hLk; replace ht0 := Lib.hid ht0; replace h20 := Lib.hid h20; replace hat2 := Lib.hid hat2
                        go_wp2_with fail
                        refine HN.out.mono ?_
                        rintro e w' ⟨rfl, rfl⟩
                        go_wp2_with fail
                        refine HB.out.mono ?_
                        rintro e W6 ⟨rfl, hB6⟩
                        have hP6 := hP5.out.below hB6
                        have q6c := hP6.c2
                        have hal : Below W6.heap.size W6 (W6.alloc (.cells #[.int .i64 ((k : Int) + 1), .int .i64 (to_ : Int)] 3)) := (Below.refl _ _).alloc (Nat.le_refl _) _
                        have hP7 := hP6.below hal
                        have hI7 : IntsIn (W6.alloc (.cells #[.int .i64 ((k : Int) + 1), .int .i64 (to_ : Int)] 3)) (some ⟨W6.heap.size, 0, none⟩) 2 (asI [k + 1, to_]) := IntsIn.new W6 _ 3 _ 2 _ rfl (by simp [asI]) rfl
                        have hne7 : ∀ a : Addr, (some ⟨W6.heap.size, 0, none⟩ : Option Addr) = some a → q5.map (·.block) ≠ some a.block ∧ B ≤ a.block ∧ a.block < (W6.alloc (.cells #[.int .i64 ((k : Int) + 1), .int .i64 (to_ : Int)] 3)).heap.size := fun a ha => by
                          cases ha
                          have hsf : Sf B q5 (some ⟨W6.heap.size, 0, none⟩) := Sf.new (row_lt hP6.rw) (fun x hx => by cases hx; exact Nat.le_refl _) hP6.sz
                          exact ⟨(hsf _ rfl).2, (hsf _ rfl).1, by simp⟩
                        have hnr := hP7.rw
                        have hBs7 := hP7.sz
                        have c7 := hP7.c2
                        have hsz7 : (W6.alloc (.cells #[.int .i64 ((k : Int) + 1), .int .i64 (to_ : Int)] 3)).heap.size = W6.heap.size + 1 := by simp
                        replace hP6 := Lib.hid hP6; replace hP7 := Lib.hid hP7; replace hI7 := Lib.hid hI7; replace hne7 := Lib.hid hne7; replace hnr := Lib.hid hnr; replace hB6 := Lib.hid hB6; replace hal := Lib.hid hal
                        go_wp2_with (at_builtin; refine wp_appendRowS elRow (W6.alloc (.cells #[.int .i64 ((k : Int) + 1), .int .i64 (to_ : Int)] 3)) rfl _ _ rfl B q5 Lk.length k5 Lk rfl hnr.out (some ⟨W6.heap.size, 0, none⟩) 2 2 (asI [k + 1, to_]) hI7.out hne7.out (W6.heap.size + 1) hsz7.symm rfl (by omega) hBs7 ?_; intro q8 k8 W8 hO8 hg8 hor8; obtain ⟨hP8, hC8, d0, d1⟩ := hP7.out.told hO8 hg8 hor8; replace hP8 := Lib.hid hP8; replace hC8 := Lib.hid hC8; replace hO8 := Lib.hid hO8; replace hg8 := Lib.hid hg8; replace hor8 := Lib.hid hor8)
                        have hgj := hgj.out
                        go_roundg (DD - (j + 1))
                        case measure => omega
                        case rel => exact ⟨j + 1, q8, k8, by omega, rfl, by go_num, by rw [hsk.out]; exact hP8.out, (hC5.out.below hB6.out).trans ((Ch.of_below hal.out).trans hC8.out)⟩
                      · have hzb : (at2 == 0) = false := by simpa using h20
                        have hsk : Hid ((accT b s k ++ accD b s (k + 1) (j + 1)).map asI = Lk) := by
                          show _ = _
                          rw [hnn.out, if_neg (fun h => h20 (by rw [← hat2]; exact h.2)), List.append_nil]; exact hLk
                        replace HN := Lib.hid HN; replace HB := Lib.hid HB; replace hP5 := Lib.hid hP5; replace hC5 := Lib.hid hC5; replace hLk := Lib.hid hLk; replace ht0 := Lib.hid ht0; replace h20 := Lib.hid h20; replace hat2 := Lib.hid hat2
                        go_wp2_with fail
                        refine HN.out.mono ?_
                        rintro e w' ⟨rfl, rfl⟩
                        go_wp2_with fail
                        refine HB.out.mono ?_
                        rintro e W6 ⟨rfl, hB6⟩
                        replace hB6 := Lib.hid hB6
                        go_wp2_with fail
                        have hgj := hgj.out
                        go_roundg (DD - (j + 1))
                        case measure => omega
                        case rel => exact ⟨j + 1, q5, k5, by omega, rfl, by go_num, by rw [hsk.out]; exact hP5.out.below hB6.out, hC5.out.below hB6.out⟩
                  · obtain rfl : DD = j := by omega
                    have hfin : Hid (Py pb g cb B b s q5 k5 ((accT b s (k + 1)).map asI) W5) := by
                      show Py _ _ _ _ _ _ _ _ _ _
                      rw [hnx.out]; exact hP5
                    replace hP5 := Lib.hid hP5; replace hC5 := Lib.hid hC5
                    go_wp2_with fail
                    have hgk3 := hgk3.out
                    go_roundg (32 - (k + 1))
                    case measure => omega
                    case rel => exact ⟨k + 1, q5, k5, by omega, rfl, by go_num, hfin.out, (hC3.out.below hB24.out).trans hC5.out⟩
              · rw [steps_none ha, List.append_nil] at hnx
                generalize atS b s (k + 1) = am at *
                rw [hki] at HA
                replace HA := Lib.hid HA; replace hP3 := Lib.hid hP3; replace hC3 := Lib.hid hC3; replace hnx := Lib.hid hnx; replace hki := Lib.hid hki
                go_wp2_with fail
                refine HA.out.mono ?_
                rintro e W3 ⟨rfl, hB3⟩
                replace hB3 := Lib.hid hB3
                go_wp2_with fail
                have hgk3 := hgk3.out
                go_roundg (32 - (k + 1))
                case measure => omega
                case rel => exact ⟨k + 1, q3, k3, by omega, rfl, by go_num, by rw [hnx.out]; exact hP3.out.below hB3.out, hC3.out.below hB3.out⟩
            · have hk33 : k = 32 := by omega
              have hki33 : ¬ ((k : Int) + 1 ≤ 32) := by omega
              have hT : Hid (Told pb g cb B b s W0 W2) := ⟨q3, k3, by rw [hoa2.out, ← hk33]; exact hP3, hC3⟩
              replace hk33 := Lib.hid hk33
              replace hP3 := Lib.hid hP3; replace hC3 := Lib.hid hC3
              go_wp2_with fail
              go_meet
              exact hT.out
        · have hzb : ((L1.length : Int) == 0) = false := beq_eq_false_iff_ne.2 (by omega)
          have hoa2 := hoa.out
          rw [if_neg hz] at hoa2
          have hT : Hid (Told pb g cb B b s W0 W1) := ⟨q1, k1, by rw [hoa2, ← hk32.out, hL1.out]; exact hPk.out, hCk.out⟩
          replace hz := Lib.hid hz; replace hoa2 := Lib.hid hoa2
          go_wp2_with fail
          go_meet
          exact hT.out
      case rest =>
        obtain ⟨⟨q3, c3, hP3, hC3⟩⟩ := hcut
        obtain ⟨W2, rfl⟩ : ∃ W2 : World, W2 = wc := ⟨_, rfl⟩
        have hol : (outS b s).length ≤ 3000000000 := by
          rw [out_acc]
          have h1 := accL_len b s 32
          have h2 := accT_len b s 32
          split <;> omega
        have d2 := hP3.c2
        rw [List.length_map] at d2
        obtain ⟨n, hn⟩ : ∃ n, (outS b s).length = n := ⟨_, rfl⟩
        rw [hn] at d2 hol
        clear q2 hoa hl1 hL1 hPk hCk
        rcases Nat.eq_zero_or_pos n with h0 | h0
        · subst h0
          have hnil : outS b s = [] := List.eq_nil_of_length_eq_zero hn
          have HS := AnyF.slices_SortFunc_none { Sh.laysSlF6_f18 with } q3 c3 (.func (.func 19) #[] #[]) W2
          have HS' : Hid (Calls Try.prog 18 #[.slice q3 0 c3, .func (.func 19) #[] #[]] W2 fun e w' => e = .returned (.tuple #[]) ∧ w' = W2) := HS
          have HC0 := Lib.hid (compact_small q3 0 c3 W2 (by omega))
          have hW : Hid (Ways b s [] ∧ WaysIn W2 q3 [] ∧ Ch pb none q3 W0 W2 ∧ ∃ q' n' c', W2.heap[pb]? = some (.cells #[.slice (some ⟨g, 0, none⟩) 33 cb, .int .i64 s, .slice q' n' c'] 41 (0, 0))) :=
            ⟨⟨List.Pairwise.nil, fun x => by rw [hnil]⟩, fun i l hi => by simp at hi, hC3, ⟨_, _, _, hP3.hd⟩⟩
          replace hP3 := Lib.hid hP3; replace hC3 := Lib.hid hC3; replace hn := Lib.hid hn; replace hnil := Lib.hid hnil
          clear HS
          go_wp2_with fail
          refine HS'.out.mono ?_
          rintro e w' ⟨rfl, rfl⟩
          go_wp2_with fail
          refine HC0.out.mono ?_
          rintro e w' ⟨rfl, rfl⟩
          go_wp2_with fail
          go_ret
          exact ⟨[], q3, c3, rfl, hW.out⟩
        · obtain ⟨gq, rfl, hBq, hgq, hnc, hRF⟩ := hP3.rowF (fun l hl => by have := out_way hl; omega) (by omega)
          rw [hn] at hRF hnc
          have hne := hP3.ne
          have HS := Lib.hid (sort_any gq n c3 _ W2 (by omega) hgq hRF)
          have hmem : ∀ x, (∃ i, i < n ∧ (fun i => (outS b s)[i]?.getD []) i = x) ↔ x ∈ outS b s := fun x => by
            constructor
            · rintro ⟨i, hi, rfl⟩
              show (outS b s)[i]?.getD [] ∈ _
              rw [List.getElem?_eq_getElem (by omega)]
              exact List.getElem_mem _
            · intro hx
              obtain ⟨i, hi, e⟩ := List.mem_iff_getElem.1 hx
              exact ⟨i, by omega, by show (outS b s)[i]?.getD [] = x; rw [List.getElem?_eq_getElem hi]; exact e⟩
          have hqge : W0.heap.size ≤ gq := by
            rcases hC3.row with e | e
            · cases e
            · exact e _ rfl
          have hpb := lt_of_heap hP3.hd
          replace hP3 := Lib.hid hP3; replace hC3 := Lib.hid hC3; replace hn := Lib.hid hn; replace hRF := Lib.hid hRF; replace hmem := Lib.hid hmem
          go_wp2_with fail
          refine HS.out.mono ?_
          rintro e W3 ⟨rfl, hO3, F', hRF3, hsort, hmem3⟩
          have HC3 := Lib.hid (compact_all gq n c3 F' W3 h0 (by omega) hnc hRF3)
          have hd3 := (hO3.block pb hpb (by omega)).trans hP3.out.hd
          rw [List.length_map, hn.out] at hd3
          have d3 := wcell (cs := [_, _, _]) hd3 2
          have hW : Hid (Ways b s (cpN F' n)) := by
            obtain ⟨n', rfl⟩ : ∃ n', n = n' + 1 := ⟨n - 1, by omega⟩
            obtain ⟨k1, k2⟩ := cpN_spec F' n' (fun i j hij hj => hsort i j hij hj)
            exact ⟨k1, fun x => by rw [k2 x, hmem3 x, ← hmem.out x]⟩
          replace hO3 := Lib.hid hO3; replace hRF3 := Lib.hid hRF3; replace hd3 := Lib.hid hd3; replace hsort := Lib.hid hsort; replace hmem3 := Lib.hid hmem3
          clear d2
          go_wp2_with fail
          refine HC3.out.mono ?_
          rintro e W4 ⟨rfl, hL4, hO4⟩
          have hO24 := hO3.out.trans hO4
          have hfin : Hid (WaysIn W4 (some ⟨gq, 0, none⟩) (cpN F' n) ∧ Ch pb none (some ⟨gq, 0, none⟩) W0 W4 ∧ ∃ q' n' c', W4.heap[pb]? = some (.cells #[.slice (some ⟨g, 0, none⟩) 33 cb, .int .i64 s, .slice q' n' c'] 41 (0, 0))) := by
            refine ⟨fun i l hi => ?_, ?_, _, _, _, (hO4.block pb (lt_of_heap hd3.out) (by omega)).trans hd3.out⟩
            · obtain ⟨p, m, c, k1, k2, _, _⟩ := hL4 i l hi
              exact ⟨gq, p, m, c, rfl, Nat.lt_of_lt_of_le hgq hO24.size, k1, k2⟩
            · exact ⟨hO24.os.trans hC3.out.os, hO24.tape.trans hC3.out.tape, hO24.output.trans hC3.out.output, Nat.le_trans hC3.out.size hO24.size, fun k hk h1 h2 => (hO24.block k (Nat.lt_of_lt_of_le hk hC3.out.size) (by omega)).trans (hC3.out.block k hk h1 h2), .inr fun a ha => by cases ha; exact hqge⟩
          replace hL4 := Lib.hid hL4; replace hO4 := Lib.hid hO4; replace hO24 := Lib.hid hO24
          go_wp2_with fail
          go_ret
          exact ⟨cpN F' n, _, c3, rfl, hW.out, hfin.out⟩
end Go.Proofs.Ytelhpfhnmnaefaa
