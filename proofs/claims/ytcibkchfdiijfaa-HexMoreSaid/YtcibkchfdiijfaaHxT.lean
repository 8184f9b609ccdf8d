import Derived.Test.YtcibkchfdiijfaaHxP
import Derived.Test.YtcibkchfdiijfaaHxW
/- hex.joined walks: who has joined his sides; conditions: a board of 1 to 10 by as many, of signs 0 to 2. -/
namespace Go.Proofs.Ytcibkchfdiijfaa
open Go.RowKit Go.Shelf

theorem grown_bel {A B C : World} {p : Option Addr} {H : Nat} (h : Below H A B) (k : B.grownBy C (p.map (·.block))) (hp : ∀ a, p = some a → H ≤ a.block) (hA : H ≤ A.heap.size) : Below H A C :=
  ⟨k.os.trans h.os, k.tape.trans h.tape, k.output.trans h.output, Nat.le_trans h.size k.size, fun i hi => (k.block i (by have := h.size; omega) (fun e => by
    cases p with
    | none => cases e
    | some a => simp at e; have := hp a rfl; omega)).trans (h.block i hi)⟩

section
set_option maxRecDepth 100000 in
set_option maxHeartbeats 4000000 in
theorem joined_any (n : Nat) (gp : Option Addr) (gc : Nat) (s : List Nat) (w : World) (hn1 : 1 ≤ n) (hn : n ≤ 10) (hs : s.length = n * n) (hx : IntsIn w gp (n * n) (asI s)) (hs2 : ∀ j, st s j ≤ 2) :
    Calls Try.prog 14 #[.agg #[.int .i64 (n : Int), .int .i64 (n : Int), .slice gp (n * n : Nat) gc]] w fun e w' => ∃ (j : Nat) (q : Option Addr) (l c : Nat), e = .returned (.tuple #[.int .i64 (j : Int), .slice q l c]) ∧ JoinI n s j ∧ (j ≠ 0 → n ≤ l) ∧ l ≤ 10000 ∧ Below w.heap.size w w' := by
  obtain ⟨N, hN⟩ : ∃ N, N = n * n := ⟨_, rfl⟩
  rw [← hN] at hx hs ⊢
  have hN100 : N ≤ 100 := by rw [hN]; exact Nat.mul_le_mul hn hn
  replace hN := Lib.hid hN; replace hx := Lib.hid hx; replace hs2 := Lib.hid hs2; replace hs := Lib.hid hs
  go_enter Try.func14, Try.ntmps14
  go_wp2_with fail
  go_loopg [4] 2 (fun g v W => ∃ x Wb : Nat, 1 ≤ x ∧ x ≤ 3 ∧ g = 3 - x ∧ v = .pointer (some ⟨Wb, 0, none⟩) ∧ W.heap[Wb]? = some (.cells #[.int .i64 (x : Int)] 3 (0, 0)) ∧ w.heap.size < Wb ∧ W.heap[w.heap.size]? = some (.cells #[.int .i64 (n : Int), .int .i64 (n : Int), .slice gp N gc] 24 (0, 0)) ∧ Hid (Below w.heap.size w W) ∧ Hid (2 ≤ x → ¬ J1 (fun a => st s a = 1) n) ∧ Hid (3 ≤ x → ¬ J2 (fun a => st s a = 2) n))
  case atStart =>
    obtain ⟨a1, a2⟩ := heap2 w (.cells #[.int .i64 (n : Int), .int .i64 (n : Int), .slice gp N gc] 24) (.cells #[.int .i64 1] 3)
    exact ⟨1, w.heap.size + 1, by omega, by omega, rfl, rfl, a2, by omega, a1, below2 _ _ _, fun h => by omega, fun h => by omega⟩
  case round =>
    obtain ⟨x, Wb, hx1, hx3, hgk, rfl, hwb, hWb, hgb, hB, hno1, hno2⟩ := hrel
    replace hgk := Lib.hid hgk
    have cx := wcell (cs := [_]) hwb 0
    have cg0 := wcell (cs := [_, _, _]) hgb 0
    have cg1 := wcell (cs := [_, _, _]) hgb 1
    have cg2 := wcell (cs := [_, _, _]) hgb 2
    simp only [List.getElem?_cons_zero, List.getElem?_cons_succ] at cx cg0 cg1 cg2
    have hWl := lt_of_heap hwb
    have hGl := lt_of_heap hgb
    by_cases hlt : x ≤ 2
    · have dle : decide ((x : Int) ≤ 2) = true := decide_eq_true (by omega)
      have HG := Lib.hid (groups_any n x gp gc s wr hn1 hn (by rw [hs.out, hN.out]) (by rw [← hN.out]; exact hx.out.below (hB.out.mono (Nat.le_refl _))) hs2.out)
      rw [← hN.out] at HG
      go_wp2_with (go_at_call 22; (with_reducible refine HG.out.mono ?_); rintro e W1 ⟨q, l, c, L, rfl, hRows, hWhF, hlN, hB1⟩; replace hRows := Lib.hid hRows; replace hWhF := Lib.hid hWhF; replace hB1 := Lib.hid hB1)
      have hLl : Hid (L.length = l) := by show _ = _; have := hRows.out.len; simpa using this
      have hWall : Hid (∀ G ∈ L, Grp n (fun a => st s a = x) G) := by obtain ⟨f, h1, _⟩ := hWhF.out; exact h1.1
      have hgb1 := (hB1.out.block _ hGl).trans hgb
      have hwb1 := (hB1.out.block _ hWl).trans hwb
      go_loopg [17, 5] l (fun g iv rv W => ∃ (i m c p : _), i ≤ l ∧ g = l - i ∧ iv = .int .i64 (i : Int) ∧ rv = .slice p m c ∧ Hid (Own 3 W1.heap.size W p m c (asI (accL n x L i))) ∧ Hid (Below W1.heap.size W1 W))
      case atStart => exact ⟨0, 0, 0, none, Nat.zero_le _, rfl, rfl, rfl, by rw [accL_zero]; exact Own.nil _ _ _, Below.refl _ _⟩
      case round =>
        clear cx cg0 cg1 cg2
        obtain ⟨i, m, c2, p, hi, hgk2, rfl, rfl, hOwn, hBi⟩ := hrel
        replace hgk2 := Lib.hid hgk2
        obtain ⟨W2, rfl⟩ : ∃ W2 : World, W2 = wr := ⟨_, rfl⟩
        by_cases hli : i < l
        · have hiL : i < L.length := by rw [hLl.out]; exact hli
          obtain ⟨G, hGe⟩ : ∃ G, L[i]? = some G := ⟨L[i], List.getElem?_eq_getElem hiL⟩
          obtain ⟨b, o, pp, mm, cc, rfl, _, hbl, hbc, hbi, hbp⟩ := hRows.out.in i (asI G) (by simp [hGe])
          have cr := (hBi.out.cell (p := ⟨b, o + i, none⟩) hbl).trans hbc
          have hGr := hWall.out G (List.mem_of_getElem? hGe)
          have hGlen : G.length = mm := by have := hbi.len; rwa [asI_len] at this
          have hmm : mm ≤ 100 := by have := hGr.len; rw [← hN.out] at this; omega
          have hB3 : Below W2.heap.size W2 (W2.alloc (.cells #[.slice pp mm cc] 22)) := (Below.refl _ W2).alloc (Nat.le_refl _) _
          have hB13 : Below W1.heap.size W1 (W2.alloc (.cells #[.slice pp mm cc] 22)) := hBi.out.trans (hB3.mono hBi.out.size)
          have hsz : w.heap.size < W1.heap.size := Nat.lt_of_lt_of_le hGl hB1.out.size
          have hszW : Wb < W1.heap.size := Nat.lt_of_lt_of_le hWl hB1.out.size
          have HS : ∀ (k : Nat) (W3 : World), Below (W2.heap.size + 1) (W2.alloc (.cells #[.slice pp mm cc] 22)) W3 → Calls Try.prog 23 #[.int .i64 (k : Int), .pointer (some ⟨W2.heap.size, 0, none⟩), .pointer (some ⟨w.heap.size, 0, none⟩), .pointer (some ⟨Wb, 0, none⟩)] W3 fun e w' => e = .returned (.bool (G.any fun a => alongS n x a == k)) ∧ Below W3.heap.size W3 w' := by
            intro k W3 hB4
            have hs4 := hB4.size
            simp only [World.size_alloc] at hs4
            have hB5 : Below W1.heap.size W1 W3 := hB13.trans (hB4.mono (by have := hBi.out.size; omega))
            exact side_any n x k mm w.heap.size Wb W2.heap.size cc pp G W3 hn1 hn (fun a ha => (hGr.ok a ha).1) (by omega) (hbi.below hB5) (by have := hB5.size; omega) (by have := hB5.size; omega)
              ((hB4.cell (p := ⟨W2.heap.size, 0, none⟩) (by simp)).trans (wcell (cs := [_]) (heap_alloc_new W2 (.cells #[.slice pp mm cc] 22)) 0)) ((hB5.cell (p := ⟨w.heap.size, 0, none⟩) hsz).trans (wcell (cs := [_, _, _]) hgb1 0)) ((hB5.cell (p := ⟨Wb, 0, none⟩) hszW).trans (wcell (cs := [_]) hwb1 0))
          have H0 := HS 0
          rw [show ((0 : Nat) : Int) = 0 from rfl] at H0
          replace H0 := Lib.hid H0
          have H1 := Lib.hid (HS (n - 1))
          have e1 : ((n - 1 : Nat) : Int) = (n : Int) - 1 := by omega
          rw [e1] at H1
          have hacc := accL_succ (n := n) (who := x) hGe
          have hgd : good n x G = ((G.any fun a => alongS n x a == 0) && (G.any fun a => alongS n x a == n - 1)) := rfl
          generalize hA0 : (G.any fun a => alongS n x a == 0) = A0 at *
          generalize hA1 : (G.any fun a => alongS n x a == n - 1) = A1 at *
          have hm1 : m ≤ i * 100 := by
            have h1 := accL_len (who := x) hWall.out i
            have h2 := hOwn.out.len
            rw [asI_len] at h2
            have h3 : n * n ≤ 100 := by rw [← hN.out]; exact hN100
            have := Nat.mul_le_mul_left i h3
            omega
          have hi100 : i < 100 := by omega
          have hm2 : m ≤ 10000 := by omega
          have hQ0 : ∀ W3, Below (W2.heap.size + 1) (W2.alloc (.cells #[.slice pp mm cc] 22)) W3 → W3.cell? ⟨W2.heap.size, 0, none⟩ = some (.slice pp mm cc) := fun W3 hB4 => (hB4.cell (p := ⟨W2.heap.size, 0, none⟩) (by simp)).trans (wcell (cs := [_]) (heap_alloc_new W2 (.cells #[.slice pp mm cc] 22)) 0)
          have hG0 : ∀ W3, Below (W2.heap.size + 1) (W2.alloc (.cells #[.slice pp mm cc] 22)) W3 → W3.cell? ⟨w.heap.size, 0, none⟩ = some (.int .i64 (n : Int)) := fun W3 hB4 => ((hB13.trans (hB4.mono (by have := hBi.out.size; omega))).cell (p := ⟨w.heap.size, 0, none⟩) hsz).trans (wcell (cs := [_, _, _]) hgb1 0)
          have hW13 : ∀ W3, Below (W2.heap.size + 1) (W2.alloc (.cells #[.slice pp mm cc] 22)) W3 → Below W1.heap.size W1 W3 := fun W3 hB4 => hB13.trans (hB4.mono (by have := hBi.out.size; omega))
          have hO13 : ∀ W3, Below (W2.heap.size + 1) (W2.alloc (.cells #[.slice pp mm cc] 22)) W3 → Own 3 W1.heap.size W3 p m c2 (asI (accL n x L i)) := fun W3 hB4 => OwnC.below (k := 1) (hOwn.out.alloc _) hB4 (by simp)
          have hI13 : ∀ W3, Below (W2.heap.size + 1) (W2.alloc (.cells #[.slice pp mm cc] 22)) W3 → IntsIn W3 pp mm (asI G) := fun W3 hB4 => hbi.below (hW13 W3 hB4)
          replace hQ0 := Lib.hid hQ0; replace hG0 := Lib.hid hG0; replace hW13 := Lib.hid hW13; replace hO13 := Lib.hid hO13; replace hI13 := Lib.hid hI13
          have hgood : 0 < mm ∨ (A0 && A1) = false := by
            rcases Nat.eq_zero_or_pos mm with h | h
            · right
              have : G = [] := List.eq_nil_of_length_eq_zero (by omega)
              subst this
              rw [← hA0]; simp
            · exact .inl h
          have hsW : Hid (W2.heap.size + 1 = (W2.alloc (.cells #[.slice pp mm cc] 22)).heap.size) := by show _ = _; simp
          have hszi := hBi.out.size
          clear hB3 hB13 HS hA0 hA1
          replace hacc := Lib.hid hacc; replace hgd := Lib.hid hgd; replace hbi := Lib.hid hbi; replace hbp := Lib.hid hbp; replace hGr := Lib.hid hGr; replace hGe := Lib.hid hGe; replace hGlen := Lib.hid hGlen; replace hgood := Lib.hid hgood
          have HF := @Lib.hid
          by_cases hA : A0 = true
          · subst hA
            cases A1 with
            | true =>
              have hmm0 : 0 < mm := hgood.out.resolve_right (by simp)
              obtain ⟨b2, o2, rfl, _, _⟩ := hbi.out.at hmm0
              have hac : Hid (accL n x L (i + 1) = accL n x L i ++ G) := by show _ = _; rw [hacc.out, if_pos (by rw [hgd.out]; rfl)]
              go_wp2_with (first
                | (go_at_call 23; first | ((with_reducible refine (H0.out _ (Below.refl _ _)).mono ?_); rintro e W3 ⟨rfl, hB4⟩; rw [← hsW.out] at hB4; have cG := hG0.out W3 hB4; replace hB4 := Lib.hid hB4) | ((with_reducible refine (H1.out _ hB4.out).mono ?_); rintro e W4 ⟨rfl, hB5⟩; have hB6 := hB4.out.trans (hB5.mono (by have := hB4.out.size; rw [← hsW.out] at this; exact this)); have cQ := hQ0.out W4 hB6; replace hB5 := Lib.hid hB5; replace hB6 := Lib.hid hB6))
                | (refine wp_appendL intG W4 rfl _ _ rfl W1.heap.size p m c2 (asI (accL n x L i)) rfl (hO13.out W4 hB6.out) ⟨b2, o2, none⟩ mm cc (asI G) rfl (hI13.out W4 hB6.out) (by omega) (hW13.out W4 hB6.out).size ?_; intro p3 c3 W5 hO5 hg5 hor5 hz5; replace hO5 := Lib.hid hO5; replace hg5 := Lib.hid hg5; replace hor5 := Lib.hid hor5))
              have hgk2 := hgk2.out
              go_roundg (l - (i + 1))
              case measure => omega
              case rel =>
                refine ⟨i + 1, _, _, _, by omega, rfl, by go_num, rfl, ?_, ?_⟩
                · show Own _ _ _ _ _ _ _
                  rw [hac.out, asI_app]; exact hO5.out
                · exact grown_bel (hW13.out W4 hB6.out) hg5.out (fun a ha => ((hO13.out W4 hB6.out).block a ha).1) (Nat.le_refl _)
            | false =>
              have hac : Hid (accL n x L (i + 1) = accL n x L i) := by show _ = _; rw [hacc.out, if_neg (by rw [hgd.out]; simp), List.append_nil]
              go_wp2_with (go_at_call 23; first | ((with_reducible refine (H0.out _ (Below.refl _ _)).mono ?_); rintro e W3 ⟨rfl, hB4⟩; rw [← hsW.out] at hB4; have cG := hG0.out W3 hB4; replace hB4 := Lib.hid hB4) | ((with_reducible refine (H1.out _ hB4.out).mono ?_); rintro e W4 ⟨rfl, hB5⟩; have hB6 := hB4.out.trans (hB5.mono (by have := hB4.out.size; rw [← hsW.out] at this; exact this)); replace hB5 := Lib.hid hB5; replace hB6 := Lib.hid hB6))
              have hgk2 := hgk2.out
              go_roundg (l - (i + 1))
              case measure => omega
              case rel =>
                refine ⟨i + 1, _, _, _, by omega, rfl, by go_num, rfl, ?_, hW13.out W4 hB6.out⟩
                show Own _ _ _ _ _ _ _
                rw [hac.out]; exact hO13.out W4 hB6.out
          · obtain rfl : A0 = false := by cases A0 with
              | false => rfl
              | true => exact absurd rfl hA
            have hac : Hid (accL n x L (i + 1) = accL n x L i) := by show _ = _; rw [hacc.out, if_neg (by rw [hgd.out]; simp), List.append_nil]
            go_wp2_with (go_at_call 23; ((with_reducible refine (H0.out _ (Below.refl _ _)).mono ?_); rintro e W3 ⟨rfl, hB4⟩; rw [← hsW.out] at hB4; replace hB4 := Lib.hid hB4))
            have hgk2 := hgk2.out
            go_roundg (l - (i + 1))
            case measure => omega
            case rel =>
              refine ⟨i + 1, _, _, _, by omega, rfl, by go_num, rfl, ?_, hW13.out W3 hB4.out⟩
              show Own _ _ _ _ _ _ _
              rw [hac.out]; exact hO13.out W3 hB4.out
        · obtain rfl : i = l := by omega
          obtain ⟨f, hWh, hf⟩ := hWhF.out
          obtain ⟨r1, r2⟩ := accL_all (who := x) hWh (by rw [← hN.out]; exact hf)
          rw [hLl.out] at r1 r2
          have hml := hOwn.out.len
          rw [asI_len] at hml
          have hszW : Wb < W1.heap.size := Nat.lt_of_lt_of_le hWl hB1.out.size
          have hwb2 := (hBi.out.block _ hszW).trans hwb1
          have hgb2 := (hBi.out.block _ (Nat.lt_of_lt_of_le hGl hB1.out.size)).trans hgb1
          have hBw := hB.out.trans ((hB1.out.mono hB.out.size).trans (hBi.out.mono (Nat.le_trans hB.out.size hB1.out.size)))
          have cw := wcell (cs := [_]) hwb2 0
          have hm1 : m ≤ i * 100 := by
            have h1 := accL_len (who := x) hWall.out i
            have h3 : n * n ≤ 100 := by rw [← hN.out]; exact hN100
            have := Nat.mul_le_mul_left i h3
            omega
          have hm2 : m ≤ 10000 := by omega
          simp only [List.getElem?_cons_zero] at cw
          clear hWh hf hml
          by_cases hJ : JW n x (fun a => st s a = x)
          · have hnm := r1 hJ
            have hml : n ≤ m := by have := hOwn.out.len; rw [asI_len] at this; omega
            have d0 : decide (0 < m) = true := decide_eq_true (by omega)
            have HSo := Lib.hid (sort_any p m c2 W1.heap.size (accL n x L i) W2 (by omega) hOwn.out)
            have hob : Hid (∀ a, p = some a → W1.heap.size ≤ a.block) := fun a ha => (hOwn.out.block a ha).1
            have hJo : Hid (JoinI n s x) := by
              show JoinI n s x
              rcases (show x = 1 ∨ x = 2 by omega) with rfl | rfl
              · exact .inl ⟨rfl, hJ⟩
              · exact .inr (.inl ⟨rfl, hno1.out (by omega), hJ⟩)
            replace hBw := Lib.hid hBw; replace hwb2 := Lib.hid hwb2; replace hgb2 := Lib.hid hgb2; replace hml := Lib.hid hml
            clear r1 r2 hnm hJ
            have hpne : Hid (∀ a, p = some a → a.block ≠ Wb) := fun a ha => by have := hob.out a ha; omega
            go_wp2_with (go_at_call 26; (with_reducible refine HSo.out.mono ?_); rintro e W5 ⟨rfl, H, _, _, _, hg5⟩; have cw5 := (World.cell?_of_block (a := ⟨Wb, 0, none⟩) (hg5.block Wb (lt_of_heap hwb2.out) (fun e => by cases p with | none => cases e | some a => (simp at e; exact hpne.out a rfl e.symm)))).trans cw; replace hg5 := Lib.hid hg5)
            go_ret2
            refine ⟨x, p, m, c2, rfl, hJo.out, fun _ => hml.out, hm2, ?_⟩
            exact grown_bel hBw.out hg5.out (fun a ha => by have := hob.out a ha; have := hB1.out.size; have := hB.out.size; omega) (Nat.le_refl _)
          · have hm0 : m = 0 := by have := hOwn.out.len; rw [asI_len, r2 hJ] at this; simpa using this.symm
            subst hm0
            have hb4 := heap_alloc_new W2 (.cells #[.int .i64 ((x : Int) + 1)] 3)
            have hbn : Below W2.heap.size W2 (W2.alloc (.cells #[.int .i64 ((x : Int) + 1)] 3)) := (Below.refl _ W2).alloc (Nat.le_refl _) _
            have hBw2 : Hid (Below w.heap.size w (W2.alloc (.cells #[.int .i64 ((x : Int) + 1)] 3))) := hBw.trans (hbn.mono hBw.size)
            have hgb3 : Hid ((W2.alloc (.cells #[.int .i64 ((x : Int) + 1)] 3)).heap[w.heap.size]? = some (.cells #[.int .i64 (n : Int), .int .i64 (n : Int), .slice gp N gc] 24 (0, 0))) := (hbn.block _ (lt_of_heap hgb2)).trans hgb2
            have hlt5 : w.heap.size < W2.heap.size := lt_of_heap hgb2
            have hno1' : Hid (2 ≤ x + 1 → ¬ J1 (fun a => st s a = 1) n) := fun h => by
              rcases (show x = 1 ∨ x = 2 by omega) with rfl | rfl
              · exact hJ
              · exact hno1.out (by omega)
            have hno2' : Hid (3 ≤ x + 1 → ¬ J2 (fun a => st s a = 2) n) := fun h => by
              obtain rfl : x = 2 := by omega
              exact hJ
            replace hb4 := Lib.hid hb4; replace hBw := Lib.hid hBw; replace hwb2 := Lib.hid hwb2; replace hgb2 := Lib.hid hgb2; replace hbn := Lib.hid hbn
            clear r1 r2 hJ
            go_wp2_with fail
            have hgk := hgk.out
            go_roundg (3 - (x + 1))
            case measure => omega
            case rel => exact ⟨x + 1, W2.heap.size, by omega, by omega, rfl, rfl, hb4.out, hlt5, hgb3.out, hBw2, hno1', hno2'⟩
    · obtain rfl : x = 3 := by omega
      go_wp2_with fail
      go_ret2
      exact ⟨0, none, 0, 0, rfl, .inr (.inr ⟨rfl, hno1.out (by omega), hno2.out (by omega)⟩), fun h => absurd rfl h, Nat.zero_le _, hB.out⟩
end
end Go.Proofs.Ytcibkchfdiijfaa
