/- poker.Showdown's inner function at a table of four: all fifth cards; conditions stand in each. -/
import Derived.Test.YtkakggagaplaiaaPkD
import Derived.Deep.RegionLaw
namespace Go.Proofs.Ytkakggagaplaiaa
open Go.RowKit

/-- the cards below j that are not known. -/
def frS (K : List Nat) (j : Nat) : List Nat := (List.range j).filter fun c => !K.contains c
theorem frS_succ (K : List Nat) (j : Nat) : frS K (j + 1) = if K.contains j then frS K j else frS K j ++ [j] := by
  unfold frS
  rw [List.range_succ, List.filter_append]
  cases h : K.contains j
  · rw [List.filter_cons_of_pos (by rw [h]; rfl)]; simp
  · rw [List.filter_cons_of_neg (by rw [h]; simp)]; simp
def wiS (A B T l : List Nat) : Nat := l.countP fun c => decide (xS B (T ++ [c]) < xS A (T ++ [c]))
def tiS (A B T l : List Nat) : Nat := l.countP fun c => decide (xS A (T ++ [c]) = xS B (T ++ [c]))
theorem wiS_snoc (A B T l : List Nat) (c : Nat) : wiS A B T (l ++ [c]) = wiS A B T l + if xS B (T ++ [c]) < xS A (T ++ [c]) then 1 else 0 := by
  unfold wiS; rw [List.countP_append]; simp [List.countP_cons]
theorem tiS_snoc (A B T l : List Nat) (c : Nat) : tiS A B T (l ++ [c]) = tiS A B T l + if xS A (T ++ [c]) = xS B (T ++ [c]) then 1 else 0 := by
  unfold tiS; rw [List.countP_append]; simp [List.countP_cons]
theorem frS_le (K : List Nat) (j : Nat) : (frS K j).length ≤ j := by
  unfold frS; exact Nat.le_trans (List.length_filter_le _ _) (by simp)
theorem asI_contains (K : List Nat) (j : Nat) : (asI K).contains (j : Int) = K.contains j := by
  rw [Bool.eq_iff_iff, List.contains_iff_mem, List.contains_iff_mem]
  unfold asI
  constructor
  · intro h; obtain ⟨x, hx, e⟩ := List.mem_map.1 h; obtain rfl : x = j := by omega
    exact hx
  · intro h; exact List.mem_map.2 ⟨j, h, rfl⟩
theorem containsP_any (pk ok n c : Nat) (K : List Nat) (j : Nat) (w : World) (hn : n ≤ 100) (hx : IntsIn w (some ⟨pk, ok, none⟩) n (asI K)) :
    Calls Try.prog 38 #[.slice (some ⟨pk, ok, none⟩) n c, .int .i64 (j : Nat)] w fun e w' => e = .returned (.bool (K.contains j)) ∧ w = w' := by
  have hl := hx.len
  refine (Sh.slices_Contains_int pk ok n c (asI K) (j : Nat) w (by omega) (by omega) fun i hi => ?_).mono ?_
  · obtain ⟨b, o, e, _, hc⟩ := hx.2 i (by omega)
    cases e
    rw [hc]; simp [List.getD]
  · rintro e w' ⟨rfl, rfl⟩
    rw [List.take_of_length_le (by omega), asI_contains]
    exact ⟨rfl, rfl⟩
theorem bel_a {W w5 : World} (h : Below W.drew.heap.size W.drew w5) : Below W.heap.size W w5 := ⟨h.os, h.tape, h.output, h.size, h.block⟩
theorem bel_b {W w5 : World} {o : Obj} (h : Below (W.alloc o).drew.heap.size (W.alloc o).drew w5) : Below W.heap.size W w5 :=
  ((Below.refl W.heap.size W).alloc (Nat.le_refl _) o).trans ((bel_a h).mono (by simp))
theorem bel_d {W w5 w6 : World} {p : Option Addr} {n c : Nat} {xs : List Int} (hW : Below W.heap.size W w5) (hO : Own 3 W.heap.size w5 p n c xs) (hg : w5.grownBy w6 (p.map (·.block))) : Below W.heap.size W w6 :=
  hW.grown hg hW.size fun k e => by
    cases p with
    | none => cases e
    | some a => simp at e; subst e; exact (OwnC.block (k := 1) hO a rfl).1
theorem bel_c {W w5 w6 : World} {p : Option Addr} {n c : Nat} {xs : List Int} {o : Obj} (hW : Below W.heap.size W w5) (hO : Own 3 W.heap.size w5 p n c xs) (hg : (w5.alloc o).grownBy w6 (p.map (·.block))) : Below W.heap.size W w6 :=
  bel_d (hW.alloc hW.size o) (hO.alloc o) hg
set_option maxRecDepth 100000 in
set_option maxHeartbeats 16000000 in
theorem node_any (S kb fb pa oa ca pb ob cb pk ok nk ck pt ot ct : Nat) (A B K T : List Nat) (W : World) (hS : SdI S kb fb pa oa ca pb ob cb pk ok nk ck A B K 0 0 0 W) (hnk : nk ≤ 100)
    (hk : S + 4 < kb) (hf : S + 4 < fb) (ha : pa < S) (hb : pb < S) (hK : S + 4 < pk) (hpt : pt < S) (hT : IntsIn W (some ⟨pt, ot, none⟩) 4 (asI T)) (h52a : ∀ x ∈ A, x < 52) (h52b : ∀ x ∈ B, x < 52) (h52t : ∀ x ∈ T, x < 52) :
    Calls Try.prog 36 #[.int .i64 0, .slice (some ⟨pt, ot, none⟩) 4 ct, .pointer (some ⟨S, 0, none⟩), .pointer (some ⟨S + 1, 0, none⟩), .pointer (some ⟨S + 4, 0, none⟩), .pointer (some ⟨S + 2, 0, none⟩), .pointer (some ⟨S + 3, 0, none⟩), .pointer (some ⟨kb, 0, none⟩), .pointer (some ⟨fb, 0, none⟩)] W
      fun e W' => e = .returned (.tuple #[]) ∧ SdI S kb fb pa oa ca pb ob cb pk ok nk ck A B K (wiS A B T (frS K 52)) (tiS A B T (frS K 52)) (frS K 52).length W' ∧ Thr S W W' := by
  have hptW : pt < W.heap.size := by obtain ⟨b, o, e, h, _⟩ := hT.at (by omega); cases e; exact h
  have HL : Hid (∀ (j wi ti al : Nat) (X : World) (p q c : Nat), j < 52 → SdI S kb fb pa oa ca pb ob cb pk ok nk ck A B K wi ti al X → wi + ti + al < 1000 → IntsIn X (some ⟨p, q, none⟩) 5 (asI (T ++ [j])) →
      Calls Try.prog 36 #[.int .i64 ((j : Int) + 1), .slice (some ⟨p, q, none⟩) 5 c, .pointer (some ⟨S, 0, none⟩), .pointer (some ⟨S + 1, 0, none⟩), .pointer (some ⟨S + 4, 0, none⟩), .pointer (some ⟨S + 2, 0, none⟩), .pointer (some ⟨S + 3, 0, none⟩), .pointer (some ⟨kb, 0, none⟩), .pointer (some ⟨fb, 0, none⟩)] X
        fun e W' => e = .returned (.tuple #[]) ∧ SdI S kb fb pa oa ca pb ob cb pk ok nk ck A B K (wi + if xS B (T ++ [j]) < xS A (T ++ [j]) then 1 else 0) (ti + if xS A (T ++ [j]) = xS B (T ++ [j]) then 1 else 0) (al + 1) W' ∧ Thr S X W') := fun j wi ti al X p q c hj hX hbd hi => by
    rw [show (j : Int) + 1 = ((j + 1 : Nat) : Int) from by push_cast; rfl]
    exact leaf_any S kb fb pa oa ca pb ob cb pk ok nk ck p q c (j + 1) A B K (T ++ [j]) wi ti al X hX hk hf ha hb hK hi h52a h52b (fun x hx => (List.mem_append.1 hx).elim (h52t x) fun h => by simp at h; omega) hbd
  have hfs : Hid (∀ j, frS K (j + 1) = if K.contains j then frS K j else frS K j ++ [j]) := frS_succ K
  have hfl : Hid (∀ j, (frS K j).length ≤ j) := frS_le K
  have hws : Hid (∀ l c, wiS A B T (l ++ [c]) = wiS A B T l + if xS B (T ++ [c]) < xS A (T ++ [c]) then 1 else 0) := wiS_snoc A B T
  have hts : Hid (∀ l c, tiS A B T (l ++ [c]) = tiS A B T l + if xS A (T ++ [c]) = xS B (T ++ [c]) then 1 else 0) := tiS_snoc A B T
  have hwl : Hid (∀ l, wiS A B T l ≤ l.length) := fun l => List.countP_le_length
  have htl : Hid (∀ l, tiS A B T l ≤ l.length) := fun l => List.countP_le_length
  have hf0 : frS K 0 = [] := rfl
  replace hT := Lib.hid hT
  replace hS := Lib.hid hS
  clear h52a h52b h52t
  go_enter Try.func36, Try.ntmps36
  go_wp2_with fail
  go_loopg [15] 52 (fun gk iv W' => ∃ j : Nat, j ≤ 52 ∧ gk = 52 - j ∧ iv = .int .i64 j ∧ Hid (SdI S kb fb pa oa ca pb ob cb pk ok nk ck A B K (wiS A B T (frS K j)) (tiS A B T (frS K j)) (frS K j).length W') ∧ Hid (Thr S W W'))
  case atStart => exact ⟨0, by omega, by omega, rfl, hS, Thr.refl _ _⟩
  case round =>
    clear hS
    obtain ⟨j, hj, hgk, rfl, hS, hTh⟩ := hrel
    obtain ⟨W1, rfl⟩ : ∃ W1 : World, W1 = wr := ⟨_, rfl⟩
    replace hgk := Lib.hid hgk
    by_cases hlt : j < 52
    · have ck0 := hS.out.k
      have HC := Lib.hid (containsP_any pk ok nk ck K j W1 hnk hS.out.ik)
      have hfj := Lib.hid (hfs.out j)
      cases hin : K.contains j
      · rw [hin] at HC hfj
        have hfj2 := Lib.hid (show frS K (j + 1) = frS K j ++ [j] by have := hfj.out; simpa using this)
        have cf := hS.out.f
        unfold fillV at cf
        have hcfX : Hid (∀ X, Below W1.heap.size W1 X → X.cell? ⟨fb, 0, none⟩ = _) := Lib.hid (fun X hX => (hX.cell (p := ⟨fb, 0, none⟩) hS.out.fz).trans cf)
        have cfa := fun o => hcfX.out (W1.alloc o) ((Below.refl _ _).alloc (Nat.le_refl _) o)
        have hT1 := Lib.hid (hTh.out.ints hT.out (by omega))
        have HCl : Hid (∀ X, Below W1.heap.size W1 X → Calls Try.prog 39 #[.slice (some ⟨pt, ot, none⟩) 4 ct] X fun e w' => ∃ p' c', e = .returned (.slice p' 4 c') ∧ Own 3 W1.heap.size w' p' 4 c' (asI T) ∧ Below X.heap.size X w') := fun X hX =>
          (clone_any _ 4 ct (asI T) X (by omega) (hT1.out.below hX)).mono fun e w' ⟨p', c', h1, h2, h3⟩ => ⟨p', c', h1, OwnC.mono (k := 1) h2 hX.size, h3⟩
        have hbd : wiS A B T (frS K j) + tiS A B T (frS K j) + (frS K j).length < 1000 := by
          have a1 := hwl.out (frS K j); have a2 := htl.out (frS K j); have a3 := hfl.out j; omega
        have HLf : Hid (∀ X p q c, Below W1.heap.size W1 X → IntsIn X (some ⟨p, q, none⟩) 5 (asI T ++ [(j : Int)]) → _) := Lib.hid (fun X p q c hX hi => HL.out j _ _ _ X p q c hlt (hS.out.below hX) hbd (by rw [asI_app]; exact hi))
        clear hfj hbd
        have ew : IntKind.i64.wrap ((j : Int) + 1) = (j : Int) + 1 := IntWalk.i64_in _ (by omega)
        go_wp2_with fail
        refine HC.out.mono ?_
        rintro e w' ⟨rfl, rfl⟩
        clear HC
        go_wp2_with fail
        go_region_law (first
          | (go_simp; go_at_call 39; refine (HCl.out _ ?_).mono ?_; (first | exact (Below.refl _ _).drew | exact ((Below.refl _ _).alloc (Nat.le_refl _) _).drew); rintro e w5 ⟨p5, c5, rfl, hO5, hB5⟩; have hW5 : Hid (Below W1.heap.size W1 w5) := (by first | exact bel_a hB5 | exact bel_b hB5); have cf5 := hcfX.out _ hW5.out; have cf5a := fun o => hcfX.out (w5.alloc o) (hW5.out.alloc hW5.out.size o); replace hO5 := Lib.hid hO5; replace hB5 := Lib.hid hB5)
          | (refine step_append1 intG _ (by rfl) _ _ (by rfl) W1.heap.size p5 4 c5 (asI T) (by rfl) (hO5.out.alloc _) (j : Int) w5.heap.size (by rfl) (wcell (cs := [_]) (heap_alloc_new w5 (.cells #[.int .i64 (j : Int)] 3)) 0) (by omega) (by have := hB5.out.size; simp at this ⊢; omega) ?_; intro p6 c6 w6 hO6 hg6; have hX6 := Lib.hid (bel_c hW5.out hO5.out hg6); obtain ⟨g6, rfl, _, _, _⟩ := OwnC.where (k := 1) hO6 (by omega); have hI6 := Lib.hid (Own.in hO6); have cf6 := hcfX.out _ hX6.out; clear hO6 hg6)
          | (refine step_append1 intG _ (by rfl) _ _ (by rfl) W1.heap.size p5 4 c5 (asI T) (by rfl) hO5.out (j : Int) W1.heap.size (by rfl) ((hB5.out.cell (p := ⟨W1.heap.size, 0, none⟩) (by simp)).trans (wcell (cs := [_]) (heap_alloc_new W1 (.cells #[.int .i64 (j : Int)] 3)) 0)) (by omega) (by have := hB5.out.size; simp at this ⊢; omega) ?_; intro p6 c6 w6 hO6 hg6; have hX6 := Lib.hid (bel_d hW5.out hO5.out hg6); obtain ⟨g6, rfl, _, _, _⟩ := OwnC.where (k := 1) hO6 (by omega); have hI6 := Lib.hid (Own.in hO6); have cf6 := hcfX.out _ hX6.out; clear hO6 hg6)
          | (go_simp; refine (HLf.out _ _ _ _ hX6.out hI6.out).mono ?_; rintro e w7 ⟨rfl, hS7, hT7⟩; replace hS7 := Lib.hid hS7; replace hT7 := Lib.hid hT7))
        all_goals
          have hS8 : Hid (SdI S kb fb pa oa ca pb ob cb pk ok nk ck A B K (wiS A B T (frS K (j + 1))) (tiS A B T (frS K (j + 1))) (frS K (j + 1)).length w7) := by
            rw [hfj2.out, hws.out, hts.out, List.length_append]; exact hS7.out
          have hT8 : Hid (Thr S W w7) := (hTh.out.below hX6.out).trans hT7.out
          go_wp2_with fail
          have hgk := hgk.out
          go_roundg (52 - (j + 1))
          case measure => omega
          case rel => exact ⟨j + 1, by omega, rfl, by go_num, hS8, hT8⟩
      · rw [hin] at HC hfj
        have hfj2 := Lib.hid (show frS K (j + 1) = frS K j by have := hfj.out; simpa using this)
        go_wp2_with fail
        refine HC.out.mono ?_
        rintro e w' ⟨rfl, rfl⟩
        go_wp2_with fail
        have hgk := hgk.out
        go_roundg (52 - (j + 1))
        case measure => omega
        case rel => exact ⟨j + 1, by omega, rfl, by go_num, by rw [hfj2.out]; exact hS, hTh⟩
    · obtain rfl : j = 52 := by omega
      go_wp2_with fail
      go_end0
      exact ⟨rfl, hS.out, hTh.out⟩
end Go.Proofs.Ytkakggagaplaiaa
