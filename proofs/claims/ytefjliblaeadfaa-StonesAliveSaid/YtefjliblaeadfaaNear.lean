/- What stones.near computes: the neighbours of a place; conditions: a board of 1 to 10 by 1 to 10 places, a place of it. -/
import Derived.Test.YtefjliblaeadfaaSPl
import Derived.Deep.DeepCutAuto
import Derived.Deep.QuietTactic
import Derived.BigQuiet
namespace Go.Proofs.Ytefjliblaeadfaa
open Go.RowKit

def nr1 (a p : Nat) : List Nat := if 0 < p % a then [p - 1] else []
def nr2 (a p : Nat) : List Nat := nr1 a p ++ if p % a + 1 < a then [p + 1] else []
def nr3 (a p : Nat) : List Nat := nr2 a p ++ if a ≤ p then [p - a] else []
def nr4 (a n p : Nat) : List Nat := nr3 a p ++ if p + a < n then [p + a] else []
theorem nr4_near (a n p : Nat) : nr4 a n p = nearL a n p := rfl
theorem nr_le (a n p : Nat) : (nr1 a p).length ≤ 4 ∧ (nr2 a p).length ≤ 4 ∧ (nr3 a p).length ≤ 4 ∧ (nr4 a n p).length ≤ 4 := by
  have h := near_le a n p
  rw [← nr4_near] at h
  unfold nr4 nr3 nr2 at *
  simp only [List.length_append] at *
  omega
/-- the row of neighbours so far. -/
def NSt (w W : World) (B : Nat) (v : Value) (L : List Nat) (a b n c : Nat) (q : Option Addr) : Prop :=
  ∃ p' c', v = .slice p' L.length c' ∧ Own 3 (B + 1) W p' L.length c' (asI L) ∧ Below B w W ∧ W.heap[B]? = some (.cells #[.int .i64 (a : Int), .int .i64 (b : Int), .slice q n c] 24 (0, 0))
theorem NSt.app {w W W' : World} {B m : Nat} {p p' : Option Addr} {c1 c' : Nat} {L : List Nat} {y : Nat} {a b n c : Nat} {q : Option Addr} (hB : Below B w W) (h0 : W.heap[B]? = some (.cells #[.int .i64 (a : Int), .int .i64 (b : Int), .slice q n c] 24 (0, 0))) (hm : L.length = m)
    (hO : Own 3 (B + 1) W p m c1 (asI L)) (hO' : Own 3 (B + 1) W' p' (m + 1) c' (asI L ++ [(y : Int)])) (hg : W.grownBy W' (p.map (·.block))) (hBw : B ≤ W.heap.size) : NSt w W' B (.slice p' (m + 1) c') (L ++ [y]) a b n c q := by
  subst hm
  refine ⟨p', c', by simp, ?_, hB.grown hg hBw ?_, (hg.block B (lt_of_heap h0) ?_).trans h0⟩
  · have : asI (L ++ [y]) = asI L ++ [(y : Int)] := by simp [asI]
    rw [this, List.length_append]; exact hO'
  · intro k hk
    cases p with
    | none => cases hk
    | some z => simp at hk; subst hk; have := (hO.block z rfl).1; omega
  · exact Own.apart hO B (by omega)

set_option maxHeartbeats 8000000 in
set_option maxRecDepth 100000 in
theorem near_any (a b n c p : Nat) (q : Option Addr) (w : World) (ha1 : 1 ≤ a) (ha : a ≤ 10) (hn : n ≤ 100) (hp : p < n) :
    Calls Try.prog 33 #[.agg #[.int .i64 (a : Int), .int .i64 (b : Int), .slice q n c], .int .i64 (p : Int)] w fun e w' => ∃ q' c', e = .returned (.slice q' (nearL a n p).length c') ∧ Own 3 (w.heap.size + 1) w' q' (nearL a n p).length c' (asI (nearL a n p)) ∧ Below w.heap.size w w' := by
  have hle := nr_le a n p
  obtain ⟨x, hx⟩ : ∃ x, x = p % a := ⟨_, rfl⟩
  have hxa : x < a := by rw [hx]; exact Nat.mod_lt _ ha1
  have hm1 : (p : Int) % (a : Int) = (x : Int) := by rw [hx]; exact (Int.natCast_emod p a).symm
  have hm2 : (p : Int).tmod (a : Int) = (x : Int) := by rw [Int.tmod_eq_emod_of_nonneg (by omega)]; exact hm1
  have hwx : IntKind.i64.wrap (x : Int) = x := IntWalk.i64_in _ (by omega)
  have hwa : IntKind.i64.wrap ((a : Int) - 1) = (a : Int) - 1 := IntWalk.i64_in _ (by omega)
  have ha0 : ¬ a = 0 := by omega
  have h1 : Hid (nr1 a p = if 0 < x then [p - 1] else []) := by show _ = _; rw [hx]; rfl
  have h2 : Hid (nr2 a p = nr1 a p ++ if x + 1 < a then [p + 1] else []) := by show _ = _; rw [hx]; rfl
  have h3 : Hid (nr3 a p = nr2 a p ++ if a ≤ p then [p - a] else []) := rfl
  have h4 : Hid (nr4 a n p = nr3 a p ++ if p + a < n then [p + a] else []) := rfl
  rw [← nr4_near]
  generalize nr1 a p = L1 at *
  generalize nr2 a p = L2 at *
  generalize nr3 a p = L3 at *
  generalize nr4 a n p = L4 at *
  replace hx := Lib.hid hx
  have hB0 : Hid (Below w.heap.size w (w.alloc (.cells #[.int .i64 (a : Int), .int .i64 (b : Int), .slice q n c] 24))) := (Below.refl _ _).alloc (Nat.le_refl _) _
  have e0 : Hid ((w.alloc (.cells #[.int .i64 (a : Int), .int .i64 (b : Int), .slice q n c] 24)).heap[w.heap.size]? = some (.cells #[.int .i64 (a : Int), .int .i64 (b : Int), .slice q n c] 24 (0, 0))) := heap_alloc_new w _
  go_enter Try.func33, Try.ntmps33
  go_upto_if 10 with (fail)
  generalize w.alloc (.cells #[.int .i64 (a : Int), .int .i64 (b : Int), .slice q n c] 24) = W0 at *
  have hBW := hB0
  have hsz : w.heap.size + 1 ≤ W0.heap.size := lt_of_heap e0.out
  go_cut [5] (fun v W => NSt w W w.heap.size v L1 a b n c q)
  case first =>
    by_cases hc : 0 < x
    · have hc2 : decide ((x : Int) > 0) = true := by simp; omega
      have hy : (p : Int) - 1 = ((p - 1 : Nat) : Int) := by have := Nat.mod_le p a; have := hx.out; omega
      have hL : Hid (L1 = [] ++ [p - 1]) := by show _ = _; rw [h1.out, if_pos hc]; rfl
      go_wp2_with (at_builtin; refine wp_append1 intG W0 rfl _ _ rfl (w.heap.size + 1) none 0 0 (asI []) rfl (Own.nil 3 (w.heap.size + 1) _) ((p - 1 : Nat) : Int) rfl (by omega) hsz ?_; intro p' c' w1 hO hg _ hz)
      have hN := NSt.app (w := w) (a := a) (b := b) (n := n) (c := c) (q := q) (L := []) (y := p - 1) hBW.out e0.out rfl (Own.nil 3 (w.heap.size + 1) _) hO hg hBW.out.size
      replace hN := Lib.hid hN
      clear hO hg hz
      go_meet
      rw [hL.out]; exact hN.out
    · have hc2 : decide ((x : Int) > 0) = false := by simp; omega
      have hL : Hid (L1 = []) := by show _ = _; rw [h1.out, if_neg hc]
      go_wp2_with fail
      go_meet
      rw [hL.out]; exact ⟨none, 0, rfl, (Own.nil 3 (w.heap.size + 1) _), hBW.out, e0.out⟩
  case rest =>
    clear hBW hB0 e0 hsz
    obtain ⟨p1, c1, rfl, hO1, hBW, e1⟩ := hcut
    obtain ⟨W1, rfl⟩ : ∃ W1 : World, W1 = wc := ⟨_, rfl⟩
    have hsz : w.heap.size + 1 ≤ W1.heap.size := lt_of_heap e1
    have d0 : W1.cell? ⟨w.heap.size, 0, none⟩ = some (.int .i64 (a : Int)) := wcell (cs := [_, _, _]) e1 0
    have d2 : W1.cell? ⟨w.heap.size, 2, none⟩ = some (.slice q n c) := wcell (cs := [_, _, _]) e1 2
    replace hO1 := Lib.hid hO1; replace hBW := Lib.hid hBW; replace e1 := Lib.hid e1
    have hxa2 : (x : Int) < (a : Int) - 1 ↔ x + 1 < a := by omega
    go_upto_region 4 with fail
    go_quiet (fail)
    have hO1q : Hid (Own 3 (w.heap.size + 1) (W1.drewN nq) p1 L1.length c1 (asI L1)) := hO1.out
    have hBWq : Hid (Below w.heap.size w (W1.drewN nq)) := below_drewN hBW.out nq
    have e1q : Hid ((W1.drewN nq).heap[w.heap.size]? = some (.cells #[.int .i64 (a : Int), .int .i64 (b : Int), .slice q n c] 24 (0, 0))) := e1.out
    have hszq : w.heap.size + 1 ≤ (W1.drewN nq).heap.size := hsz
    clear hBW hO1 e1 hsz d0 d2
    generalize W1.drewN nq = V1 at *
    have hBW := hBWq
    have hsz := hszq
    clear hBWq hszq
    go_upto_if 23 with (fail)
    go_cut [5] (fun v W => NSt w W w.heap.size v L2 a b n c q)
    case first =>
      by_cases hc : x + 1 < a
      · have hc2 : decide (x + 1 < a) = true := decide_eq_true hc
        
        have hL : Hid (L2 = L1 ++ [p + 1]) := by show _ = _; rw [h2.out, if_pos hc]
        go_wp2_with (at_builtin; refine wp_append1 intG V1 rfl _ _ rfl (w.heap.size + 1) p1 L1.length c1 (asI L1) rfl hO1q.out ((p + 1 : Nat) : Int) rfl (by omega) hsz ?_; intro p' c' w1 hO hg _ hz)
        have hN := NSt.app (w := w) (a := a) (b := b) (n := n) (c := c) (q := q) (L := L1) (y := p + 1) hBW.out e1q.out rfl hO1q.out hO hg hBW.out.size
        replace hN := Lib.hid hN
        clear hO hg hz
        go_meet
        rw [hL.out]; exact hN.out
      · have hc2 : decide (x + 1 < a) = false := decide_eq_false hc
        have hL : Hid (L2 = L1) := by show _ = _; rw [h2.out, if_neg hc]; exact List.append_nil _
        go_wp2_with fail
        go_meet
        rw [hL.out]; exact ⟨p1, c1, rfl, hO1q.out, hBW.out, e1q.out⟩
    case rest =>
      clear hBW hsz hO1q e1q
      obtain ⟨p2, c2, rfl, hO2, hBW, e2⟩ := hcut
      obtain ⟨W2, rfl⟩ : ∃ W2 : World, W2 = wc := ⟨_, rfl⟩
      have hsz : w.heap.size + 1 ≤ W2.heap.size := lt_of_heap e2
      have d0 : W2.cell? ⟨w.heap.size, 0, none⟩ = some (.int .i64 (a : Int)) := wcell (cs := [_, _, _]) e2 0
      have d2 : W2.cell? ⟨w.heap.size, 2, none⟩ = some (.slice q n c) := wcell (cs := [_, _, _]) e2 2
      replace hO2 := Lib.hid hO2; replace hBW := Lib.hid hBW; replace e2 := Lib.hid e2
      go_upto_if 32 with (fail)
      go_cut [5] (fun v W => NSt w W w.heap.size v L3 a b n c q)
      case first =>
        by_cases hc : a ≤ p
        · have hc2 : (a : Int) ≤ (p : Int) := by omega
          have hy : (p : Int) - (a : Int) = ((p - a : Nat) : Int) := by omega
          have hL : Hid (L3 = L2 ++ [p - a]) := by show _ = _; rw [h3.out, if_pos hc]
          go_wp2_with (at_builtin; refine wp_append1 intG W2 rfl _ _ rfl (w.heap.size + 1) p2 L2.length c2 (asI L2) rfl hO2.out ((p - a : Nat) : Int) rfl (by omega) hsz ?_; intro p' c' w1 hO hg _ hz)
          have hN := NSt.app (w := w) (a := a) (b := b) (n := n) (c := c) (q := q) (L := L2) (y := p - a) hBW.out e2.out rfl hO2.out hO hg hBW.out.size
          replace hN := Lib.hid hN
          clear hO hg hz
          go_meet
          rw [hL.out]; exact hN.out
        · have hc2 : ¬ (a : Int) ≤ (p : Int) := by omega
          have hL : Hid (L3 = L2) := by show _ = _; rw [h3.out, if_neg hc]; exact List.append_nil _
          go_wp2_with fail
          go_meet
          rw [hL.out]; exact ⟨p2, c2, rfl, hO2.out, hBW.out, e2.out⟩
      case rest =>
        clear hBW hsz hO2 e2 d0 d2
        obtain ⟨p3, c3, rfl, hO3, hBW, e3⟩ := hcut
        obtain ⟨W3, rfl⟩ : ∃ W3 : World, W3 = wc := ⟨_, rfl⟩
        have hsz : w.heap.size + 1 ≤ W3.heap.size := lt_of_heap e3
        have d0 : W3.cell? ⟨w.heap.size, 0, none⟩ = some (.int .i64 (a : Int)) := wcell (cs := [_, _, _]) e3 0
        have d2 : W3.cell? ⟨w.heap.size, 2, none⟩ = some (.slice q n c) := wcell (cs := [_, _, _]) e3 2
        replace hO3 := Lib.hid hO3; replace hBW := Lib.hid hBW; replace e3 := Lib.hid e3
        go_upto_if 47 with (fail)
        go_cut [5] (fun v W => NSt w W w.heap.size v L4 a b n c q)
        case first =>
          by_cases hc : p + a < n
          · have hc2 : (p : Int) + (a : Int) < (n : Int) := by omega
            
            have hL : Hid (L4 = L3 ++ [p + a]) := by show _ = _; rw [h4.out, if_pos hc]
            go_wp2_with (at_builtin; refine wp_append1 intG W3 rfl _ _ rfl (w.heap.size + 1) p3 L3.length c3 (asI L3) rfl hO3.out ((p + a : Nat) : Int) rfl (by omega) hsz ?_; intro p' c' w1 hO hg _ hz)
            have hN := NSt.app (w := w) (a := a) (b := b) (n := n) (c := c) (q := q) (L := L3) (y := p + a) hBW.out e3.out rfl hO3.out hO hg hBW.out.size
            replace hN := Lib.hid hN
            clear hO hg hz
            go_meet
            rw [hL.out]; exact hN.out
          · have hc2 : ¬ (p : Int) + (a : Int) < (n : Int) := by omega
            have hL : Hid (L4 = L3) := by show _ = _; rw [h4.out, if_neg hc]; exact List.append_nil _
            go_wp2_with fail
            go_meet
            rw [hL.out]; exact ⟨p3, c3, rfl, hO3.out, hBW.out, e3.out⟩
        case rest =>
          clear hBW hsz hO3 e3 d0 d2
          obtain ⟨p4, c4, rfl, hO4, hBW, e4⟩ := hcut
          obtain ⟨W4, rfl⟩ : ∃ W4 : World, W4 = wc := ⟨_, rfl⟩
          have hsz : w.heap.size + 1 ≤ W4.heap.size := lt_of_heap e4
          have d0 : W4.cell? ⟨w.heap.size, 0, none⟩ = some (.int .i64 (a : Int)) := wcell (cs := [_, _, _]) e4 0
          have d2 : W4.cell? ⟨w.heap.size, 2, none⟩ = some (.slice q n c) := wcell (cs := [_, _, _]) e4 2
          replace hO4 := Lib.hid hO4; replace hBW := Lib.hid hBW; replace e4 := Lib.hid e4
          go_wp2_with fail
          go_ret
          exact ⟨p4, c4, rfl, hO4.out, hBW.out⟩
end Go.Proofs.Ytefjliblaeadfaa
