/- What the two loops of pegs.jumps lay; conditions: a board of 1 to 10 by 1 to 10 places. -/
import Derived.Test.YtapoimadiiheaaaSoJ
import Derived.Test.YtapoimadiiheaaaJms0
namespace Go.Proofs.Ytapoimadiiheaaa
open Go.RowKit

/-- the row of jumps so far. -/
def JSt (w W : World) (a b n c : Nat) (q : Option Addr) (v : Value) (L : List Jm) : Prop :=
  ∃ p m cc, v = .slice p m cc ∧ OwnJ (w.heap.size + 1) W p m cc L ∧ Below w.heap.size w W ∧ W.heap[w.heap.size]? = some (.cells #[.int .i64 (a : Int), .int .i64 (b : Int), .slice q n c] 24 (0, 0))
theorem JSt.alloc {w W : World} {a b n c : Nat} {q : Option Addr} {v : Value} {L : List Jm} (h : JSt w W a b n c q v L) (o : Obj) : JSt w (W.alloc o) a b n c q v L := by
  obtain ⟨p, m, cc, rfl, h1, h2, h3⟩ := h
  exact ⟨p, m, cc, rfl, OwnC.alloc h1 o, h2.alloc h2.size o, (Below.heap_alloc W o _ (lt_of_heap h3)).trans h3⟩
theorem JSt.app {w W W' : World} {a b n c : Nat} {q : Option Addr} {p p' : Option Addr} {m cc c' : Nat} {L : List Jm} {j : Jm} (h1 : OwnJ (w.heap.size + 1) W p m cc L) (h2 : Below w.heap.size w W) (h3 : W.heap[w.heap.size]? = some (.cells #[.int .i64 (a : Int), .int .i64 (b : Int), .slice q n c] 24 (0, 0)))
    (hO : OwnJ (w.heap.size + 1) W' p' (m + 1) c' (L ++ [j])) (hg : W.grownBy W' (p.map (·.block))) : JSt w W' a b n c q (.slice p' (m + 1) c') (L ++ [j]) := by
  refine ⟨p', m + 1, c', rfl, hO, h2.grown hg h2.size ?_, (hg.block _ (lt_of_heap h3) ?_).trans h3⟩
  · intro k hk
    cases p with
    | none => cases hk
    | some z => simp at hk; subst hk; have := (OwnC.block h1 z rfl).1; omega
  · exact OwnC.apart h1 _ (by omega)
theorem dvs_at {k : Nat} (hk : k < 4) (W : World) : (Instr.index 65 (.agg #[.int .i64 1, .int .i64 0, .int .i64 (-1), .int .i64 0, .int .i64 0, .int .i64 1, .int .i64 0, .int .i64 (-1)]) (.int .i64 (k : Int))).run Try.prog W = .ok (.agg #[.int .i64 (dv k).1, .int .i64 (dv k).2]) W := by
  rcases (show k = 0 ∨ k = 1 ∨ k = 2 ∨ k = 3 by omega) with rfl | rfl | rfl | rfl <;> kernel_rfl

set_option maxHeartbeats 8000000 in
set_option maxRecDepth 100000 in
theorem jumps_any (a b n c : Nat) (q : Option Addr) (s : List Nat) (w : World) (ha1 : 1 ≤ a) (ha : a ≤ 10) (hb : b ≤ 10) (hn : n = a * b) (hx : IntsIn w q n (asI s)) :
    Calls Try.prog 23 #[.agg #[.int .i64 (a : Int), .int .i64 (b : Int), .slice q n c]] w fun e w' => ∃ p m cc J, e = .returned (.slice p m cc) ∧ m ≤ 400 ∧ JIn (w.heap.size + 1) w' p m J ∧ J.Perm (allJ a b s n) ∧ Below w.heap.size w w' := by
  have hn100 : n ≤ 100 := by rw [hn]; exact Nat.mul_le_mul ha hb
  have ha0 : ¬ a = 0 := by omega
  replace hn := Lib.hid hn
  have hB0 : Below w.heap.size w (w.alloc (.cells #[.int .i64 (a : Int), .int .i64 (b : Int), .slice q n c] 24)) := (Below.refl _ _).alloc (Nat.le_refl _) _
  have e0 := heap_alloc_new w (.cells #[.int .i64 (a : Int), .int .i64 (b : Int), .slice q n c] 24)
  have hJ0 : Hid (JSt w (w.alloc (.cells #[.int .i64 (a : Int), .int .i64 (b : Int), .slice q n c] 24)) a b n c q (.slice none 0 0) (allJ a b s 0)) := ⟨none, 0, 0, rfl, OwnC.nil _ _ _ _, hB0, e0⟩
  have d2 : (w.alloc (.cells #[.int .i64 (a : Int), .int .i64 (b : Int), .slice q n c] 24)).cell? ⟨w.heap.size, 2, none⟩ = some (.slice q n c) := wcell (cs := [_, _, _]) e0 2
  have hx' := Lib.hid hx
  clear hB0 e0 hx
  go_enter Try.func23, Try.ntmps23
  go_wp2_with fail
  go_loopg [3, 15] n (fun gk lv iv W' => ∃ i : Nat, i ≤ n ∧ gk = n - i ∧ iv = .int .i64 i ∧ JSt w W' a b n c q lv (allJ a b s i))
  case atStart => exact ⟨0, Nat.zero_le _, rfl, rfl, hJ0.out⟩
  case round =>
    obtain ⟨i, hin, hgk, rfl, hJ⟩ := hrel
    obtain ⟨W2, rfl⟩ : ∃ W2 : World, W2 = wr := ⟨_, rfl⟩
    replace hgk := Lib.hid hgk
    clear hJ0 d2
    by_cases hlt : i < n
    · obtain ⟨x, hx⟩ : ∃ x, x = i % a := ⟨_, rfl⟩
      obtain ⟨y, hy⟩ : ∃ y, y = i / a := ⟨_, rfl⟩
      have hxa : x < a := by rw [hx]; exact Nat.mod_lt _ ha1
      have hyb : y < b := by rw [hy]; exact Nat.div_lt_of_lt_mul (by rw [← hn.out]; exact hlt)
      have hm1 : (i : Int) % (a : Int) = (x : Int) := by rw [hx]; exact (Int.natCast_emod i a).symm
      have hm2 : (i : Int).tmod (a : Int) = (x : Int) := by rw [Int.tmod_eq_emod_of_nonneg (by omega)]; exact hm1
      have hd1 : (i : Int) / (a : Int) = (y : Int) := by rw [hy]; exact (Int.natCast_ediv i a).symm
      have hd2 : (i : Int).tdiv (a : Int) = (y : Int) := by rw [Int.tdiv_eq_ediv_of_nonneg (by omega)]; exact hd1
      have hwx : IntKind.i64.wrap (x : Int) = x := IntWalk.i64_in _ (by omega)
      have hwy : IntKind.i64.wrap (y : Int) = y := IntWalk.i64_in _ (by omega)
      replace hx := Lib.hid hx; replace hy := Lib.hid hy
      obtain ⟨p, m, cc, rfl, hO, hBl, hh⟩ := hJ
      have d0 : W2.cell? ⟨w.heap.size, 0, none⟩ = some (.int .i64 (a : Int)) := wcell (cs := [_, _, _]) hh 0
      replace hO := Lib.hid hO; replace hBl := Lib.hid hBl; replace hh := Lib.hid hh
      go_upto_region 5 with fail
      go_quiet (fail)
      have hJ : Hid (JSt w (W2.drewN nq) a b n c q (.slice p m cc) (allJ a b s i ++ rowJ a b s i 0)) := by
        show JSt _ _ _ _ _ _ _ _ _
        rw [rowJ, List.append_nil]
        exact ⟨p, m, cc, rfl, hO.out, below_drewN hBl.out nq, hh.out⟩
      clear hO hBl hh d0
      generalize W2.drewN nq = V1 at *
      go_wp2_with fail
      have hx2 := hx'
      go_loopg [3, 31] 4 (fun gk lv iv W' => ∃ k : Nat, k ≤ 4 ∧ gk = 4 - k ∧ iv = .int .i64 k ∧ JSt w W' a b n c q lv (allJ a b s i ++ rowJ a b s i k))
      case atStart => exact ⟨0, Nat.zero_le _, rfl, rfl, hJ.out⟩
      case round =>
        obtain ⟨k, hk4, hgk4, rfl, p, m, cc, rfl, hO, hBl, hh⟩ := hrel
        obtain ⟨W2, rfl⟩ : ∃ W2 : World, W2 = wr := ⟨_, rfl⟩
        replace hgk4 := Lib.hid hgk4
        clear hJ
        by_cases hklt : k < 4
        · have hidx := dvs_at hklt
          have hdir : Hid (dirJ a b s i k = if inR a b x y (dv k) ∧ okJ s (jD a x y i (dv k)) then [jD a x y i (dv k)] else []) := by show _ = _; unfold dirJ; rw [← hx.out, ← hy.out]
          have hrow : Hid (allJ a b s i ++ rowJ a b s i (k + 1) = (allJ a b s i ++ rowJ a b s i k) ++ dirJ a b s i k) := by show _ = _; rw [rowJ, List.append_assoc]
          have hmm : m = (allJ a b s i ++ rowJ a b s i k).length := (OwnJ.len hO).symm
          have hml : m < 1000 := by have := allJ_len a b s i; have := rowJ_len a b s i k; rw [hmm, List.length_append]; omega
          have hb1 : -1 ≤ (dv k).1 ∧ (dv k).1 ≤ 1 ∧ -1 ≤ (dv k).2 ∧ (dv k).2 ≤ 1 := by rcases (show k = 0 ∨ k = 1 ∨ k = 2 ∨ k = 3 by omega) with rfl | rfl | rfl | rfl <;> decide
          replace hmm := Lib.hid hmm
          generalize dirJ a b s i k = D at *
          obtain ⟨L2, hL2⟩ : ∃ L2, L2 = allJ a b s i ++ rowJ a b s i (k + 1) := ⟨_, rfl⟩
          rw [← hL2] at hrow
          replace hL2 := Lib.hid hL2
          generalize allJ a b s i ++ rowJ a b s i k = L1 at *
          generalize dv k = d at *
          obtain ⟨dx, dy⟩ := d
          simp only at hb1 hidx
          obtain ⟨g1, g2, g3, g4⟩ := hb1
          have eN := heap_alloc_new W2 (.cells #[.int .i64 dx, .int .i64 dy] 61)
          have hJn := JSt.alloc (n := n) (c := c) (q := q) ⟨p, m, cc, rfl, hO, hBl, hh⟩ (.cells #[.int .i64 dx, .int .i64 dy] 61)
          have hBn := hBl.alloc hBl.size (.cells #[.int .i64 dx, .int .i64 dy] 61)
          have hhn := (Below.heap_alloc W2 (.cells #[.int .i64 dx, .int .i64 dy] 61) _ (lt_of_heap hh)).trans hh
          have hOn := OwnC.alloc hO (.cells #[.int .i64 dx, .int .i64 dy] 61)
          have c0 : (W2.alloc (.cells #[.int .i64 dx, .int .i64 dy] 61)).cell? ⟨W2.heap.size, 0, none⟩ = some (.int .i64 dx) := wcell (cs := [_, _]) eN 0
          have c1 : (W2.alloc (.cells #[.int .i64 dx, .int .i64 dy] 61)).cell? ⟨W2.heap.size, 1, none⟩ = some (.int .i64 dy) := wcell (cs := [_, _]) eN 1
          have d0 : (W2.alloc (.cells #[.int .i64 dx, .int .i64 dy] 61)).cell? ⟨w.heap.size, 0, none⟩ = some (.int .i64 (a : Int)) := wcell (cs := [_, _, _]) hhn 0
          have d1 : (W2.alloc (.cells #[.int .i64 dx, .int .i64 dy] 61)).cell? ⟨w.heap.size, 1, none⟩ = some (.int .i64 (b : Int)) := wcell (cs := [_, _, _]) hhn 1
          have d2 : (W2.alloc (.cells #[.int .i64 dx, .int .i64 dy] 61)).cell? ⟨w.heap.size, 2, none⟩ = some (.slice q n c) := wcell (cs := [_, _, _]) hhn 2
          obtain ⟨A, hA⟩ : ∃ A : Int, (x : Int) + 2 * dx = A := ⟨_, rfl⟩
          obtain ⟨Bb, hBb⟩ : ∃ Bb : Int, (y : Int) + 2 * dy = Bb := ⟨_, rfl⟩
          have wA : IntKind.i64.wrap A = A := IntWalk.i64_in _ (by omega)
          have wB : IntKind.i64.wrap Bb = Bb := IntWalk.i64_in _ (by omega)
          have w2x : IntKind.i64.wrap (2 * dx) = 2 * dx := IntWalk.i64_in _ (by omega)
          have w2y : IntKind.i64.wrap (2 * dy) = 2 * dy := IntWalk.i64_in _ (by omega)
          replace hO := Lib.hid hO; replace hBl := Lib.hid hBl; replace hh := Lib.hid hh
          replace hOn := Lib.hid hOn; replace hBn := Lib.hid hBn; replace hhn := Lib.hid hhn; replace eN := Lib.hid eN; replace hJn := Lib.hid hJn
          go_upto_region 9 with fail
          go_quiet (fail)
          have hJ2 : Hid (JSt w ((W2.alloc (.cells #[.int .i64 dx, .int .i64 dy] 61)).drewN nq) a b n c q (.slice p m cc) L1) := by
            obtain ⟨p', m', cc', e, k1, k2, k3⟩ := hJn.out
            exact ⟨p', m', cc', e, k1, below_drewN k2 nq, k3⟩
          have hO2 : Hid (OwnJ (w.heap.size + 1) ((W2.alloc (.cells #[.int .i64 dx, .int .i64 dy] 61)).drewN nq) p m cc L1) := hOn.out
          have hB2 : Hid (Below w.heap.size w ((W2.alloc (.cells #[.int .i64 dx, .int .i64 dy] 61)).drewN nq)) := below_drewN hBn.out nq
          have hh2 : Hid (((W2.alloc (.cells #[.int .i64 dx, .int .i64 dy] 61)).drewN nq).heap[w.heap.size]? = some (.cells #[.int .i64 (a : Int), .int .i64 (b : Int), .slice q n c] 24 (0, 0))) := hhn.out
          replace c0 : ((W2.alloc (.cells #[.int .i64 dx, .int .i64 dy] 61)).drewN nq).cell? ⟨W2.heap.size, 0, none⟩ = some (.int .i64 dx) := c0
          replace c1 : ((W2.alloc (.cells #[.int .i64 dx, .int .i64 dy] 61)).drewN nq).cell? ⟨W2.heap.size, 1, none⟩ = some (.int .i64 dy) := c1
          replace d0 : ((W2.alloc (.cells #[.int .i64 dx, .int .i64 dy] 61)).drewN nq).cell? ⟨w.heap.size, 0, none⟩ = some (.int .i64 (a : Int)) := d0
          replace d1 : ((W2.alloc (.cells #[.int .i64 dx, .int .i64 dy] 61)).drewN nq).cell? ⟨w.heap.size, 1, none⟩ = some (.int .i64 (b : Int)) := d1
          replace d2 : ((W2.alloc (.cells #[.int .i64 dx, .int .i64 dy] 61)).drewN nq).cell? ⟨w.heap.size, 2, none⟩ = some (.slice q n c) := d2
          clear hJn hOn hBn hhn eN hO hBl hh
          generalize ((W2.alloc (.cells #[.int .i64 dx, .int .i64 dy] 61)).drewN nq) = V2 at *
          by_cases hin : inR a b x y (dx, dy)
          · obtain ⟨i1, i2, i3, i4⟩ := hin
            simp only at i1 i2 i3 i4
            rw [hA] at i1 i2
            rw [hBb] at i3 i4
            have o1 : ¬ A < 0 := by omega
            have o2 : ¬ (a : Int) ≤ A := by omega
            have o3 : ¬ Bb < 0 := by omega
            have o4 : ¬ (b : Int) ≤ Bb := by omega
            have o2' : A < (a : Int) := i2
            have o4' : Bb < (b : Int) := i4
            obtain ⟨x1, hx1⟩ : ∃ x1 : Nat, (x : Int) + dx = x1 := ⟨((x : Int) + dx).toNat, by omega⟩
            obtain ⟨y1, hy1⟩ : ∃ y1 : Nat, (y : Int) + dy = y1 := ⟨((y : Int) + dy).toNat, by omega⟩
            obtain ⟨x2, hx2'⟩ : ∃ x2 : Nat, A = x2 := ⟨A.toNat, by omega⟩
            obtain ⟨y2, hy2⟩ : ∃ y2 : Nat, Bb = y2 := ⟨Bb.toNat, by omega⟩
            obtain ⟨P1, hP1⟩ : ∃ P1 : Nat, P1 = y1 * a := ⟨_, rfl⟩
            obtain ⟨P2, hP2⟩ : ∃ P2 : Nat, P2 = y2 * a := ⟨_, rfl⟩
            have q1 : (y1 : Int) * (a : Int) = (P1 : Int) := by rw [hP1]; push_cast; rfl
            have q2 : Bb * (a : Int) = (P2 : Int) := by rw [hP2, hy2]; push_cast; rfl
            have ov1 : P1 + x1 < n := by rw [hn.out, hP1]; exact xy_lt (by omega) (by omega)
            have to1 : P2 + x2 < n := by rw [hn.out, hP2]; exact xy_lt (by omega) (by omega)
            have hjd : Hid (jD a x y i (dx, dy) = (i, P1 + x1, P2 + x2)) := by
              show _ = _
              unfold jD
              simp only
              rw [hA, hBb, hy1, q1, q2, hx2']
              rw [show (P1 : Int) + (x : Int) + dx = ((P1 + x1 : Nat) : Int) by omega, show (P2 : Int) + (x2 : Int) = ((P2 + x2 : Nat) : Int) by omega]
              rfl
            have r1 : (P1 : Int) + (x : Int) + dx = ((P1 + x1 : Nat) : Int) := by omega
            have r2 : (P2 : Int) + A = ((P2 + x2 : Nat) : Int) := by omega
            replace hP1 := Lib.hid hP1; replace hP2 := Lib.hid hP2; replace hx2' := Lib.hid hx2'; replace hy2 := Lib.hid hy2; replace hx1 := Lib.hid hx1
            generalize P1 + x1 = ov at *
            generalize P2 + x2 = tw at *
            have v1 : IntKind.i64.wrap (y1 : Int) = (y1 : Int) := IntWalk.i64_in _ (by omega)
            have v2 : IntKind.i64.wrap (P1 : Int) = (P1 : Int) := IntWalk.i64_in _ (by omega)
            have v3 : IntKind.i64.wrap ((P1 : Int) + (x : Int)) = (P1 : Int) + (x : Int) := IntWalk.i64_in _ (by omega)
            have v4 : IntKind.i64.wrap (ov : Int) = (ov : Int) := IntWalk.i64_in _ (by omega)
            have v5 : IntKind.i64.wrap (P2 : Int) = (P2 : Int) := IntWalk.i64_in _ (by omega)
            have v6 : IntKind.i64.wrap (tw : Int) = (tw : Int) := IntWalk.i64_in _ (by omega)
            have hxV := hx2.out.below (w' := V2) hB2.out
            obtain ⟨bq, oq, rfl, _, hc⟩ := hxV.at (by omega)
            have k1 := hc i hlt
            have k2 := hc ov ov1
            have k3 := hc tw to1
            rw [asI_at] at k1 k2 k3
            have f1 : (0 : Int) ≤ (i : Int) := by omega
            have f2 : (i : Int) < (n : Int) := by omega
            have f3 : (0 : Int) ≤ (ov : Int) := by omega
            have f4 : (ov : Int) < (n : Int) := by omega
            have f5 : (0 : Int) ≤ (tw : Int) := by omega
            have f6 : (tw : Int) < (n : Int) := by omega
            clear hc hxV
            have hok : Hid (okJ s (jD a x y i (dx, dy)) ↔ st s i ≠ 2 ∧ st s ov ≠ 2 ∧ st s tw ≠ 2) := by show _ ↔ _; rw [hjd.out]; exact Iff.rfl
            have hin' : Hid (inR a b x y (dx, dy)) := ⟨by simp only; rw [hA]; exact i1, by simp only; rw [hA]; exact i2, by simp only; rw [hBb]; exact i3, by simp only; rw [hBb]; exact i4⟩
            have hD : Hid (L2 = if st s i ≠ 2 ∧ st s ov ≠ 2 ∧ st s tw ≠ 2 then L1 ++ [(i, ov, tw)] else L1) := by
              show _ = _
              rw [hrow.out, hdir.out, hjd.out]
              by_cases hcc : st s i ≠ 2 ∧ st s ov ≠ 2 ∧ st s tw ≠ 2
              · rw [if_pos hcc, if_pos ⟨hin'.out, by rw [← hjd.out]; exact hok.out.2 hcc⟩]
              · rw [if_neg hcc, if_neg (fun h => hcc (hok.out.1 (by rw [hjd.out]; exact h.2))), List.append_nil]
            clear hdir hrow hok hin' hjd
            generalize st s i = u1 at *
            generalize st s ov = u2 at *
            generalize st s tw = u3 at *
            have W : ∀ z : Nat, ¬ z = 2 → ¬ (z : Int) = 2 := fun z h => by omega
            by_cases z1 : u1 = 2
            · subst z1
              replace hJ2 : Hid (JSt w V2 a b n c (some ⟨bq, oq, none⟩) (.slice p m cc) L2) := by show JSt _ _ _ _ _ _ _ _ _; rw [hD.out, if_neg (fun h => h.1 rfl)]; exact hJ2.out
              clear hO2 hB2 hh2 W
              go_wp2_with fail
              have hgk4 := hgk4.out
              go_roundg (4 - (k + 1))
              case measure => omega
              case rel => exact ⟨k + 1, hklt, rfl, by go_num, by rw [← hL2.out]; exact hJ2.out⟩
            · by_cases z2 : u2 = 2
              · subst z2
                replace hJ2 : Hid (JSt w V2 a b n c (some ⟨bq, oq, none⟩) (.slice p m cc) L2) := by show JSt _ _ _ _ _ _ _ _ _; rw [hD.out, if_neg (fun h => h.2.1 rfl)]; exact hJ2.out
                have z1' := W _ z1
                clear hO2 hB2 hh2 W
                go_wp2_with fail
                have hgk4 := hgk4.out
                go_roundg (4 - (k + 1))
                case measure => omega
                case rel => exact ⟨k + 1, hklt, rfl, by go_num, by rw [← hL2.out]; exact hJ2.out⟩
              · by_cases z3 : u3 = 2
                · subst z3
                  replace hJ2 : Hid (JSt w V2 a b n c (some ⟨bq, oq, none⟩) (.slice p m cc) L2) := by show JSt _ _ _ _ _ _ _ _ _; rw [hD.out, if_neg (fun h => h.2.2 rfl)]; exact hJ2.out
                  have z1' := W _ z1
                  have z2' := W _ z2
                  clear hO2 hB2 hh2 W
                  go_wp2_with fail
                  have hgk4 := hgk4.out
                  go_roundg (4 - (k + 1))
                  case measure => omega
                  case rel => exact ⟨k + 1, hklt, rfl, by go_num, by rw [← hL2.out]; exact hJ2.out⟩
                · have hD2 : Hid (L2 = L1 ++ [(i, ov, tw)]) := by show _ = _; rw [hD.out, if_pos ⟨z1, z2, z3⟩]
                  have z1' := W _ z1
                  have z2' := W _ z2
                  have z3' := W _ z3
                  have z1b : ((u1 : Int) != 2) = true := by simpa using z1'
                  have z2b : ((u2 : Int) != 2) = true := by simpa using z2'
                  have z3b : ((u3 : Int) != 2) = true := by simpa using z3'
                  replace z1 := Lib.hid z1; replace z2 := Lib.hid z2; replace z3 := Lib.hid z3
                  clear W hJ2 hD
                  have hszV : w.heap.size + 1 ≤ V2.heap.size := lt_of_heap hh2.out
                  go_wp2_with (at_builtin; refine wp_appendJ V2 rfl _ _ rfl (w.heap.size + 1) p m cc L1 rfl hO2.out #[.int .i64 (i : Int), .int .i64 (ov : Int), .int .i64 (tw : Int)] (i, ov, tw) rfl V2.heap.size rfl rfl (by omega) hszV ?_; intro p' c' w1 hO3 hg _ hz)
                  have hJ2 : Hid (JSt w w1 a b n c (some ⟨bq, oq, none⟩) (.slice p' (m + 1) c') L2) := by show JSt _ _ _ _ _ _ _ _ _; rw [hD2.out]; exact JSt.app hO2.out hB2.out hh2.out hO3 hg
                  clear hO3 hg hz
                  have hgk4 := hgk4.out
                  go_roundg (4 - (k + 1))
                  case measure => omega
                  case rel => exact ⟨k + 1, hklt, rfl, by go_num, by rw [← hL2.out]; exact hJ2.out⟩
          · have hD : Hid (L2 = L1) := by show _ = _; rw [hrow.out, hdir.out, if_neg (fun h => hin h.1), List.append_nil]
            clear hdir hrow
            replace hJ2 : Hid (JSt w V2 a b n c q (.slice p m cc) L2) := by show JSt _ _ _ _ _ _ _ _ _; rw [hD.out]; exact hJ2.out
            clear hO2 hB2 hh2
            by_cases o1 : A < 0
            · replace hin := Lib.hid hin
              go_wp2_with fail
              have hgk4 := hgk4.out
              go_roundg (4 - (k + 1))
              case measure => omega
              case rel => exact ⟨k + 1, hklt, rfl, by go_num, by rw [← hL2.out]; exact hJ2.out⟩
            · by_cases o2 : (a : Int) ≤ A
              · replace hin := Lib.hid hin
                have o2' : ¬ A < (a : Int) := by omega
                go_wp2_with fail
                have hgk4 := hgk4.out
                go_roundg (4 - (k + 1))
                case measure => omega
                case rel => exact ⟨k + 1, hklt, rfl, by go_num, by rw [← hL2.out]; exact hJ2.out⟩
              · by_cases o3 : Bb < 0
                · replace hin := Lib.hid hin
                  have o2' : A < (a : Int) := by omega
                  go_wp2_with fail
                  have hgk4 := hgk4.out
                  go_roundg (4 - (k + 1))
                  case measure => omega
                  case rel => exact ⟨k + 1, hklt, rfl, by go_num, by rw [← hL2.out]; exact hJ2.out⟩
                · have o4 : (b : Int) ≤ Bb := by
                    refine Int.not_lt.1 fun h => hin ⟨?_, ?_, ?_, ?_⟩ <;> simp only <;> omega
                  replace hin := Lib.hid hin
                  have o2' : A < (a : Int) := by omega
                  have o4' : ¬ Bb < (b : Int) := by omega
                  go_wp2_with fail
                  have hgk4 := hgk4.out
                  go_roundg (4 - (k + 1))
                  case measure => omega
                  case rel => exact ⟨k + 1, hklt, rfl, by go_num, by rw [← hL2.out]; exact hJ2.out⟩
        · have hk4' : k = 4 := by omega
          subst hk4'
          have hJ4 : Hid (JSt w W2 a b n c q (.slice p m cc) (allJ a b s (i + 1))) := ⟨p, m, cc, rfl, hO, hBl, hh⟩
          clear hO hBl hh
          go_wp2_with fail
          have hgk := hgk.out
          go_roundg (n - (i + 1))
          case measure => omega
          case rel => exact ⟨i + 1, hlt, rfl, by go_num, hJ4.out⟩
    · have hie : i = n := by omega
      subst hie
      obtain ⟨p, m, cc, rfl, hO, hBl, hh⟩ := hJ
      replace hO := Lib.hid hO; replace hBl := Lib.hid hBl; replace hh := Lib.hid hh
      have hii : ¬ (i : Int) < (i : Int) := by omega
      have hm4 : Hid (m ≤ 400) := by have h5 := allJ_len a b s i; have h6 := OwnJ.len hO.out; show m ≤ 400; omega
      have HS := Lib.hid (sortJ_any p m cc (w.heap.size + 1) (allJ a b s i) W2 (by have := hm4.out; omega) hO.out)
      go_wp2_with (go_at_call 31; refine HS.out.mono ?_; rintro e w6 ⟨rfl, J', hperm, hJin, hgr⟩; replace hperm := Lib.hid hperm; replace hJin := Lib.hid hJin; replace hgr := Lib.hid hgr)
      go_ret
      refine ⟨p, m, cc, J', rfl, hm4.out, hJin.out, hperm.out, hBl.out.grown hgr.out hBl.out.size ?_⟩
      intro k hk
      cases p with
      | none => cases hk
      | some z => simp at hk; subst hk; have := (OwnC.block hO.out z rfl).1; omega
end Go.Proofs.Ytapoimadiiheaaa
