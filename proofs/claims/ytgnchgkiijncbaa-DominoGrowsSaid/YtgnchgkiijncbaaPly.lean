/- What domino.Play computes: a row by one piece longer that fits again, or none; conditions: at most 50 pieces that fit, with numbers up to 9. -/
import Derived.Test.YtgnchgkiijncbaaInsW
import Derived.Deep.RegionHeld3
import Derived.Deep.DeepCutAuto
import Derived.Deep.QuietTactic
import Derived.BigQuiet
import Derived.StillTailTactics
namespace Go.Proofs.Ytgnchgkiijncbaa
open Go.RowKit

def Sm (ps : List Piece) : Prop := ∀ q ∈ ps, q.1 ≤ 9 ∧ q.2 ≤ 9
/-- what Play tells: a row by one longer that fits, or that there is none. -/
def Played (n : Nat) (w : World) (r : Ending) (w' : World) : Prop :=
  ∃ q c' ps' e, r = .returned (.tuple #[.slice q ps'.length c', .int .i64 e]) ∧ Below w.heap.size w w' ∧ ((e = 0 ∧ PIn w'.heap.size w' q ps'.length ps' ∧ ps'.length = n + 1 ∧ Chain ps' ∧ Sm ps') ∨ (e = 10 ∧ 0 < n ∧ ps' = []))
theorem pc_mem {ps : List Piece} {i : Nat} (h : i < ps.length) : pc ps i ∈ ps := by unfold pc; rw [List.getElem?_eq_getElem h]; exact List.getElem_mem h
theorem chain_one (x : Piece) : Chain [x] := fun i h => absurd h (by simp)
theorem pc_snoc (ps : List Piece) (x : Piece) (i : Nat) : pc (ps ++ [x]) i = if i < ps.length then pc ps i else if i = ps.length then x else (0, 0) := by
  unfold pc
  by_cases h : i < ps.length
  · rw [if_pos h, List.getElem?_append_left h]
  · rw [if_neg h, List.getElem?_append_right (by omega)]
    by_cases e : i = ps.length
    · rw [if_pos e, e]; simp
    · rw [if_neg e]
      obtain ⟨d, hd⟩ : ∃ d, i - ps.length = d + 1 := ⟨i - ps.length - 1, by omega⟩
      rw [hd]; rfl
theorem chain_snoc {ps : List Piece} {x : Piece} (h : Chain ps) (e : (pc ps (ps.length - 1)).2 = x.1) : Chain (ps ++ [x]) := by
  intro i hi
  rw [List.length_append, List.length_singleton] at hi
  rw [pc_snoc, pc_snoc, if_pos (by omega)]
  by_cases h2 : i + 1 < ps.length
  · rw [if_pos h2]; exact h i h2
  · rw [if_neg h2, if_pos (by omega), show i = ps.length - 1 by omega]; exact e
theorem chain_cons {ps : List Piece} {x : Piece} (h : Chain ps) (e : x.2 = (pc ps 0).1) : Chain (x :: ps) := by
  intro i hi
  cases i with
  | zero => exact e
  | succ i => exact h i (by simpa using hi)
theorem sm_snoc {ps : List Piece} {x : Piece} (h : Sm ps) (h1 : x.1 ≤ 9) (h2 : x.2 ≤ 9) : Sm (ps ++ [x]) := fun q hq => by
  rcases List.mem_append.1 hq with h3 | h3
  · exact h q h3
  · rw [List.mem_singleton.1 h3]; exact ⟨h1, h2⟩
theorem sm_cons {ps : List Piece} {x : Piece} (h : Sm ps) (h1 : x.1 ≤ 9) (h2 : x.2 ≤ 9) : Sm (x :: ps) := fun q hq => by
  rcases List.mem_cons.1 hq with h3 | h3
  · rw [h3]; exact ⟨h1, h2⟩
  · exact h q h3

theorem fin_push {W6 W7 w8 w9 : World} {B n c : Nat} {q : Option Addr} {ps : List Piece} (hq : Below W6.heap.size W6 W7) (h8 : Below W7.heap.size W7.drew w8) (hO : OwnP B w8 q n c ps) (hB : W7.heap.size ≤ B) (hg : w8.grownBy w9 (q.map (·.block))) : Below W6.heap.size W6 w9 := by
  have h9 : Below W7.heap.size W7.drew w9 := h8.grown hg h8.size fun k hk => by
    cases q with
    | none => cases hk
    | some z => simp at hk; subst hk; exact Nat.le_trans hB (hO.1.block z rfl).1
  exact (hq.drew).trans (h9.mono hq.size)

theorem insert_q (q : Option Addr) (n c vb B : Nat) (cs : List Piece) (x : Piece) (w : World) (h1 : 1 ≤ n) (hn : n ≤ 60) (own : OwnP B w q n c cs)
    (hv : w.heap[vb]? = some (.cells #[.int .i64 (x.1 : Int), .int .i64 (x.2 : Int)] 30 (0, 0))) (hne : some vb ≠ q.map (·.block)) :
    Calls Try.prog 16 #[.slice q n c, .int .i64 0, .slice (some ⟨vb, 0, none⟩) 1 1] w fun e w' => ∃ q c', e = .returned (.slice q (n + 1) c') ∧ PIn w'.heap.size w' q (n + 1) (x :: cs) ∧ Below B w w' := by
  obtain ⟨g, rfl, _, _, _⟩ := own.1.where h1
  exact insert_any g n c vb B cs x w h1 hn own hv (fun e => hne (by rw [e]; rfl))
theorem own_ne {B n c : Nat} {w : World} {q : Option Addr} {ps : List Piece} (h : OwnP B w q n c ps) : some w.heap.size ≠ q.map (·.block) := by
  intro e
  cases q with
  | none => cases e
  | some x => have := (h.1.block x rfl).2; simp at e; omega

set_option maxHeartbeats 8000000 in
set_option maxRecDepth 100000 in
theorem play_any (p : Option Addr) (n c : Nat) (ps : List Piece) (xa xb : Nat) (right : Bool) (w : World) (hn : n ≤ 50) (hx : PIn w.heap.size w p n ps) (hs : Sm ps) (hc : Chain ps) (ha : xa ≤ 9) (hb : xb ≤ 9) :
    Calls Try.prog 8 #[.slice p n c, .agg #[.int .i64 (xa : Int), .int .i64 (xb : Int)], .bool right] w (Played n w) := by
  have hpl := hx.1
  have hB0 := (Below.refl w.heap.size w).alloc (Nat.le_refl _) (.cells #[.int .i64 (xa : Int), .int .i64 (xb : Int)] 30)
  have e0 := heap_alloc_new w (.cells #[.int .i64 (xa : Int), .int .i64 (xb : Int)] 30)
  have HC := Lib.hid (contains_none p n c w.heap.size ps (w.alloc (.cells #[.int .i64 (xa : Int), .int .i64 (xb : Int)] 30)) (by omega) (hx.below hB0) hs)
  have z60 : decide ((n : Int) ≥ 60) = false := by simp; omega
  have hBz : Hid (Below w.heap.size w (w.alloc (.cells #[.int .i64 (xa : Int), .int .i64 (xb : Int)] 30))) := hB0
  replace hx := Lib.hid hx; replace hs := Lib.hid hs; replace hpl := Lib.hid hpl; replace hc := Lib.hid hc
  clear hB0
  go_enter Try.func8, Try.ntmps8
  go_wp2_with fail
  refine HC.out.mono ?_
  rintro e w1 ⟨rfl, hB1⟩
  have e1 := (hB1.block w.heap.size (by simp)).trans e0
  have d0 : w1.cell? ⟨w.heap.size, 0, none⟩ = some (.int .i64 (xa : Int)) := wcell (cs := [_, _]) e1 0
  have d1 : w1.cell? ⟨w.heap.size, 1, none⟩ = some (.int .i64 (xb : Int)) := wcell (cs := [_, _]) e1 1
  have HS := Lib.hid (strange_no (xa, xb) w1 ha hb)
  have hz : w.heap.size < w1.heap.size := lt_of_heap e1
  have hBw1 : Hid (Below w.heap.size w w1) := hBz.out.trans (hB1.mono hBz.out.size)
  clear HC hB1 e0
  replace e1 := Lib.hid e1
  go_wp2_with fail
  refine HS.out.mono ?_
  rintro e w2 ⟨rfl, hB2⟩
  have e2 := Lib.hid ((hB2.block w.heap.size hz).trans e1.out)
  have hBw2 : Hid (Below w.heap.size w w2) := hBw1.out.trans (hB2.mono hBw1.out.size)
  have hz2 : w.heap.size < w2.heap.size := Nat.lt_of_lt_of_le hz hB2.size
  clear HS hB2 e1 hBw1 d0 d1
  go_wp2_with fail
  go_loopg [8] n (fun gk iv W' => ∃ j : Nat, j ≤ n ∧ gk = n - j ∧ iv = .int .i64 ((j : Int) + 1) ∧ Below w2.heap.size w2 W')
  case atStart => exact ⟨0, by omega, by omega, by go_num, Below.refl _ _⟩
  case round =>
    obtain ⟨j, hj, hgk, rfl, hBw⟩ := hrel
    obtain ⟨W1, rfl⟩ : ∃ W1 : World, W1 = wr := ⟨_, rfl⟩
    replace hgk := Lib.hid hgk
    by_cases hlt : j + 1 < n
    · obtain ⟨g, rfl, _, hg, hcl⟩ := ((hx.out.below hBw2.out).below (hBw.mono hBw2.out.size)).at (by omega)
      obtain ⟨_, c2⟩ := hcl j (by omega)
      obtain ⟨c1, _⟩ := hcl (j + 1) (by omega)
      rw [hc.out j (by rw [hpl.out]; omega)] at c2
      generalize (pc ps (j + 1)).1 = v at *
      replace hcl := Lib.hid hcl; replace hBw := Lib.hid hBw
      have f1 : IntKind.i64.wrap ((j : Int) + 1 - 1) = (j : Int) := by rw [IntWalk.i64_in _ (by omega)]; omega
      have f2 : (j : Int) + 1 - 1 = (j : Int) := by omega
      have f3 : ((j : Int) + 1).toNat = j + 1 := by omega
      have f4 : (0 : Int) ≤ (j : Int) + 1 := by omega
      have f5 : (j : Int) + 1 < (n : Int) := by omega
      have f6 : (j : Int) < (n : Int) := by omega
      have f7 : ((v : Int) != (v : Int)) = false := by simp
      go_wp2_with fail
      go_quiet (fail)
      have hBd : Hid (Below w2.heap.size w2 (W1.drewN nq)) := below_drewN hBw.out nq
      go_wp2_with fail
      have hgk := hgk.out
      go_roundg (n - (j + 1))
      case measure => omega
      case rel => exact ⟨j + 1, by omega, rfl, by go_num, hBd.out⟩
    · have hBW : Hid (Below w.heap.size w W1) := hBw2.out.trans (hBw.mono hBw2.out.size)
      have e3 := (hBw.block w.heap.size hz2).trans e2.out
      have d0 : W1.cell? ⟨w.heap.size, 0, none⟩ = some (.int .i64 (xa : Int)) := wcell (cs := [_, _]) e3 0
      have d1 : W1.cell? ⟨w.heap.size, 1, none⟩ = some (.int .i64 (xb : Int)) := wcell (cs := [_, _]) e3 1
      have hz3 : w.heap.size < W1.heap.size := lt_of_heap e3
      have f1 : decide ((j : Int) + 1 < (n : Int)) = false := by simp; omega
      clear hBw e2
      replace e3 := Lib.hid e3
      by_cases h0 : n = 0
      · subst h0
        go_wp2_with fail
        have hres : Hid (PIn (W1.alloc (.cells #[.int .i64 (xa : Int), .int .i64 (xb : Int)] 30)).heap.size (W1.alloc (.cells #[.int .i64 (xa : Int), .int .i64 (xb : Int)] 30)) (some ⟨W1.heap.size, 0, none⟩) 1 [(xa, xb)]) := by
          have e := heap_alloc_new W1 (.cells #[.int .i64 (xa : Int), .int .i64 (xb : Int)] 30)
          exact pin_of (ps := [(xa, xb)]) (lt_of_heap e) (lt_of_heap e) fun j hj => wcell (cs := [.int .i64 (xa : Int), .int .i64 (xb : Int)]) e j
        go_ret2
        exact ⟨_, 1, [(xa, xb)], 0, rfl, hBW.out.alloc hBW.out.size _, .inl ⟨rfl, hres.out, rfl, chain_one _, fun q hq => by rw [List.mem_singleton.1 hq]; exact ⟨ha, hb⟩⟩⟩
      · have z0 : ((n : Int) == 0) = false := by simp; omega
        have HT := Lib.hid (fun W => turned_any xa xb W)
        go_wp2_with fail
        go_region_held3 (fun w' => w'.cell? ⟨w.heap.size, 0, none⟩ = some (.int .i64 (xa : Int)) ∧ w'.cell? ⟨w.heap.size, 1, none⟩ = some (.int .i64 (xb : Int))) (go_keep)
          (first | (go_at_call 14; refine (HT.out _).mono ?_; rintro e w3 ⟨rfl, hB3⟩; have d0' : w3.cell? ⟨w.heap.size, 0, none⟩ = some (.int .i64 (xa : Int)) := (hB3.cell (p := ⟨w.heap.size, 0, none⟩) hz3).trans d0; have d1' : w3.cell? ⟨w.heap.size, 1, none⟩ = some (.int .i64 (xb : Int)) := (hB3.cell (p := ⟨w.heap.size, 1, none⟩) hz3).trans d1))
        have hBW3 : Hid (Below w.heap.size w (w3.alloc (.cells #[.int .i64 (xa : Int), .int .i64 (xb : Int), .int .i64 (xb : Int), .int .i64 (xa : Int)] 30))) := by
          have h2 : Below w.heap.size w w3 := (below_drewN hBW.out 1).trans (hB3.mono hBW.out.size)
          exact h2.alloc h2.size _
        have eL := heap_alloc_new w3 (.cells #[.int .i64 (xa : Int), .int .i64 (xb : Int), .int .i64 (xb : Int), .int .i64 (xa : Int)] 30)
        obtain ⟨L, hL⟩ : ∃ L, L = w3.heap.size := ⟨_, rfl⟩
        rw [← hL] at eL
        go_wp2_with fail
        rw [← hL]
        generalize w3.alloc (.cells #[.int .i64 (xa : Int), .int .i64 (xb : Int), .int .i64 (xb : Int), .int .i64 (xa : Int)] 30) = w4 at *
        have hLl := lt_of_heap eL
        replace hL := Lib.hid hL; replace eL := Lib.hid eL
        clear hB3 d0 d1 hBW HT d0' d1' e3 hz3
        go_loopg [50] 2 (fun gk iv W' => ∃ i : Nat, i ≤ 2 ∧ gk = 2 - i ∧ iv = .int .i64 (i : Int) ∧ Below w4.heap.size w4 W')
        case atStart => exact ⟨0, by omega, by omega, by go_num, Below.refl _ _⟩
        case round =>
          obtain ⟨i, hi, hgk, rfl, hBr⟩ := hrel
          obtain ⟨W5, rfl⟩ : ∃ W5 : World, W5 = wr := ⟨_, rfl⟩
          replace hgk := Lib.hid hgk
          by_cases hi2 : i < 2
          · obtain ⟨u, v, hu, hv, k0, k1⟩ : ∃ u v : Nat, u ≤ 9 ∧ v ≤ 9 ∧ W5.cell? ⟨L, i * 2, none⟩ = some (.int .i64 (u : Int)) ∧ W5.cell? ⟨L, i * 2 + 1, none⟩ = some (.int .i64 (v : Int)) := by
              have e5 := (hBr.block L hLl).trans eL.out
              rcases (show i = 0 ∨ i = 1 from by omega) with rfl | rfl
              · exact ⟨xa, xb, ha, hb, wcell (cs := [_, _, _, _]) e5 0, wcell (cs := [_, _, _, _]) e5 1⟩
              · exact ⟨xb, xa, hb, ha, wcell (cs := [_, _, _, _]) e5 2, wcell (cs := [_, _, _, _]) e5 3⟩
            have g0 := heap_alloc_new W5 (.cells #[.int .i64 (u : Int), .int .i64 (v : Int)] 30)
            have hB5 : Hid (Below w4.heap.size w4 (W5.alloc (.cells #[.int .i64 (u : Int), .int .i64 (v : Int)] 30))) := hBr.alloc hBr.size _
            have hB6 : Hid (Below w.heap.size w (W5.alloc (.cells #[.int .i64 (u : Int), .int .i64 (v : Int)] 30))) := hBW3.out.trans (hB5.out.mono hBW3.out.size)
            have hx6 := Lib.hid ((hx.out.below hB6.out).mono hB6.out.size)
            obtain ⟨G, hG⟩ : ∃ G, G = W5.heap.size := ⟨_, rfl⟩
            go_upto_region 15 with fail
            rw [← hG] at g0
            generalize W5.alloc (.cells #[.int .i64 (u : Int), .int .i64 (v : Int)] 30) = W6 at *
            have hGl := lt_of_heap g0
            have y0 : W6.cell? ⟨W5.heap.size, 0, none⟩ = some (.int .i64 (u : Int)) := by rw [← hG]; exact wcell (cs := [_, _]) g0 0
            have y1 : W6.cell? ⟨W5.heap.size, 1, none⟩ = some (.int .i64 (v : Int)) := by rw [← hG]; exact wcell (cs := [_, _]) g0 1
            replace hG := Lib.hid hG
            obtain ⟨m, hm⟩ : ∃ m, n = m + 1 := ⟨n - 1, by omega⟩
            obtain ⟨g, rfl, _, hg, hcl⟩ := hx6.out.at (by omega)
            obtain ⟨_, c2⟩ := hcl m (by omega)
            obtain ⟨c1, _⟩ := hcl 0 (by omega)
            rw [Nat.zero_mul] at c1
            have hcs : Hid ((pc ps m).2 = u → Chain (ps ++ [(u, v)])) := fun e => chain_snoc hc.out (by rw [hpl.out, hm]; exact e)
            have hcc : Hid (v = (pc ps 0).1 → Chain ((u, v) :: ps)) := fun e => chain_cons hc.out e
            have hss : Hid (Sm (ps ++ [(u, v)])) := sm_snoc hs.out hu hv
            have hsc : Hid (Sm ((u, v) :: ps)) := sm_cons hs.out hu hv
            generalize (pc ps m).2 = l2 at *
            generalize (pc ps 0).1 = l1 at *
            have f1 : IntKind.i64.wrap ((n : Int) - 1) = (m : Int) := by rw [IntWalk.i64_in _ (by omega)]; omega
            have f2 : (m : Int) < (n : Int) := by omega
            have f3 : (0 : Int) < (n : Int) := by omega
            have f4 : (n : Int) - 1 = (m : Int) := by omega
            replace g0 := Lib.hid g0; replace hm := Lib.hid hm; replace hcl := Lib.hid hcl; replace eL := Lib.hid eL.out
            clear k0 k1 hBr
            have hround : i + 1 ≤ 2 := by omega
            have HCl : Hid (∀ W', Below W6.heap.size W6 W' → Calls Try.prog 15 #[.slice (some ⟨g, 0, none⟩) n c] W' fun e w' => ∃ q c', e = .returned (.slice q n c') ∧ OwnP W'.heap.size w' q n c' ps ∧ Below W'.heap.size W' w') := fun W' h =>
              clone_any (some ⟨g, 0, none⟩) n c W'.heap.size ps W' (by omega) (by omega) ((hx6.out.below h).mono h.size)
            have hBW6 : Hid (∀ W', Below W6.heap.size W6 W' → Below w.heap.size w W') := fun W' h => hB6.out.trans (h.mono hB6.out.size)
            cases right with
            | true =>
              by_cases he : l2 = u
              · have fe : ((l2 : Int) == (u : Int)) = true := by simp; omega
                replace hcs := Lib.hid (hcs.out he)
                replace he := Lib.hid he
                go_quiet (fail)
                have y0' : (W6.drewN nq).cell? ⟨W5.heap.size, 0, none⟩ = some (.int .i64 (u : Int)) := y0
                have y1' : (W6.drewN nq).cell? ⟨W5.heap.size, 1, none⟩ = some (.int .i64 (v : Int)) := y1
                have c1' : (W6.drewN nq).cell? ⟨g, 0, none⟩ = some (.int .i64 (l1 : Int)) := c1
                have hBq : Hid (Below W6.heap.size W6 (W6.drewN nq)) := below_drewN (Below.refl _ _) nq
                have hBd : Hid (Below w4.heap.size w4 (W6.drewN nq)) := below_drewN hB5.out nq
                have hzq : W5.heap.size < (W6.drewN nq).heap.size := by show W5.heap.size < W6.heap.size; exact World.block_lt_of_cell? _ _ y0
                clear y0 y1 c1 c2
                go_wp2_with fail
                generalize W6.drewN nq = W7 at *
                go_region_held3 (fun w' => w'.cell? ⟨W5.heap.size, 0, none⟩ = some (.int .i64 (u : Int)) ∧ w'.cell? ⟨W5.heap.size, 1, none⟩ = some (.int .i64 (v : Int))) (go_keep)
                  (first
                    | (go_at_call 15; refine (HCl.out _ ?_).mono ?_; exact below_drewN hBq.out 1; rintro e w8 ⟨q8, c8, rfl, hO8, hB8⟩; have hO8a := Lib.hid hO8; have hB8a : Hid (Below W7.heap.size W7.drew w8) := hB8; have y0'' : w8.cell? ⟨W5.heap.size, 0, none⟩ = some (.int .i64 (u : Int)) := (hB8.cell (p := ⟨W5.heap.size, 0, none⟩) hzq).trans y0'; have y1'' : w8.cell? ⟨W5.heap.size, 1, none⟩ = some (.int .i64 (v : Int)) := (hB8.cell (p := ⟨W5.heap.size, 1, none⟩) hzq).trans y1'; replace hO8 := Lib.hid hO8; replace hB8 := Lib.hid hB8)
                    | (go_at_call 15; refine (HCl.out _ ?_).mono ?_; exact (below_drewN hBq.out 1).alloc hBq.out.size _; rintro e w8 ⟨q8, c8, rfl, hO8, hB8⟩; have hO8b := Lib.hid hO8; have e8 := Lib.hid ((hB8.block W7.heap.size (by simp)).trans (heap_alloc_new W7.drew _)); have hB8b : Hid (Below W7.heap.size W7.drew w8) := ((Below.refl W7.heap.size W7.drew).alloc (Nat.le_refl _) _).trans (hB8.mono (by simp)); have y0'' : w8.cell? ⟨W5.heap.size, 0, none⟩ = some (.int .i64 (u : Int)) := (hB8b.out.cell (p := ⟨W5.heap.size, 0, none⟩) hzq).trans y0'; have y1'' : w8.cell? ⟨W5.heap.size, 1, none⟩ = some (.int .i64 (v : Int)) := (hB8b.out.cell (p := ⟨W5.heap.size, 1, none⟩) hzq).trans y1'; replace hO8 := Lib.hid hO8; replace hB8 := Lib.hid hB8)
                    | (refine step_appendP _ (by rfl) _ _ (by rfl) _ q8 n c8 ps (by rfl) hO8b.out (u, v) W7.heap.size (by rfl) (wcell (cs := [_, _]) e8.out 0) (wcell (cs := [_, _]) e8.out 1) (by omega) (by have := hB8.out.size; simpa using this) ?_; intro q9 c9 w9 hO9 hg9 hr9; have y2 : w9.cell? ⟨W5.heap.size, 0, none⟩ = some (.int .i64 (u : Int)) := (World.cell?_of_block (a := ⟨W5.heap.size, 0, none⟩) (hg9.block W5.heap.size (Nat.lt_of_lt_of_le hzq hB8b.out.size) (OwnC.apart hO8b.out.1 W5.heap.size (by simp; omega)))).trans y0''; have y3 : w9.cell? ⟨W5.heap.size, 1, none⟩ = some (.int .i64 (v : Int)) := (World.cell?_of_block (a := ⟨W5.heap.size, 1, none⟩) (hg9.block W5.heap.size (Nat.lt_of_lt_of_le hzq hB8b.out.size) (OwnC.apart hO8b.out.1 W5.heap.size (by simp; omega)))).trans y1''; have hfin := Lib.hid (hBW6.out w9 (fin_push hBq.out hB8b.out hO8b.out (by simp) hg9)); replace hO9 := Lib.hid hO9; replace hg9 := Lib.hid hg9; clear hr9)
                    | (refine step_appendP _ (by rfl) _ _ (by rfl) W7.heap.size q8 n c8 ps (by rfl) ⟨OwnC.alloc hO8a.out.1 _, hO8a.out.2⟩ (u, v) w8.heap.size (by rfl) (wcell (cs := [_, _]) (heap_alloc_new w8 _) 0) (wcell (cs := [_, _]) (heap_alloc_new w8 _) 1) (by omega) (Nat.le_trans (show W7.heap.size ≤ w8.heap.size from hB8a.out.size) (by simp)) ?_; intro q9 c9 w9 hO9 hg9 hr9; have z8 := Nat.lt_of_lt_of_le hzq (show W7.heap.size ≤ w8.heap.size from hB8a.out.size); have y2 : w9.cell? ⟨W5.heap.size, 0, none⟩ = some (.int .i64 (u : Int)) := (World.cell?_of_block (a := ⟨W5.heap.size, 0, none⟩) ((hg9.block W5.heap.size (by simp; omega) (OwnC.apart hO8a.out.1 W5.heap.size hzq)).trans (Below.heap_alloc w8 _ _ z8))).trans y0''; have y3 : w9.cell? ⟨W5.heap.size, 1, none⟩ = some (.int .i64 (v : Int)) := (World.cell?_of_block (a := ⟨W5.heap.size, 1, none⟩) ((hg9.block W5.heap.size (by simp; omega) (OwnC.apart hO8a.out.1 W5.heap.size hzq)).trans (Below.heap_alloc w8 _ _ z8))).trans y1''; have hfin := Lib.hid (hBW6.out w9 (fin_push (w8 := w8.alloc (.cells #[.int .i64 (u : Int), .int .i64 (v : Int)] 30)) hBq.out (hB8a.out.alloc hB8a.out.size _) ⟨OwnC.alloc hO8a.out.1 _, hO8a.out.2⟩ (Nat.le_refl _) hg9)); replace hO9 := Lib.hid hO9; replace hg9 := Lib.hid hg9; clear hr9))
                all_goals
                  have hpin := Lib.hid hO9.out.in
                  have hln : Hid ((ps ++ [(u, v)]).length = n + 1) := by show _ = _; simp [hpl.out]
                  clear hO9 hg9
                  go_wp2_with fail
                  go_ret2
                  exact ⟨q9, c9, ps ++ [(u, v)], 0, by rw [hln.out]; rfl, hfin.out, .inl ⟨rfl, by rw [hln.out]; exact hpin.out, hln.out, hcs.out, hss.out⟩⟩
              · have fe : ((l2 : Int) == (u : Int)) = false := by simp; omega
                replace he := Lib.hid he
                go_quiet (fail)
                have y0' : (W6.drewN nq).cell? ⟨W5.heap.size, 0, none⟩ = some (.int .i64 (u : Int)) := y0
                have y1' : (W6.drewN nq).cell? ⟨W5.heap.size, 1, none⟩ = some (.int .i64 (v : Int)) := y1
                have c1' : (W6.drewN nq).cell? ⟨g, 0, none⟩ = some (.int .i64 (l1 : Int)) := c1
                have hBq : Hid (Below W6.heap.size W6 (W6.drewN nq)) := below_drewN (Below.refl _ _) nq
                have hBd : Hid (Below w4.heap.size w4 (W6.drewN nq)) := below_drewN hB5.out nq
                have hzq : W5.heap.size < (W6.drewN nq).heap.size := by show W5.heap.size < W6.heap.size; exact World.block_lt_of_cell? _ _ y0
                clear y0 y1 c1 c2
                go_wp2_with fail
                generalize W6.drewN nq = W7 at *
                go_quiet (fail)
                have hBe : Hid (Below w4.heap.size w4 (W7.drewN nq)) := below_drewN hBd.out nq
                go_wp2_with fail
                have hgk := hgk.out
                go_roundg (2 - (i + 1))
                case measure => omega
                case rel => exact ⟨i + 1, hround, rfl, by go_num, hBe.out⟩
            | false =>
              go_quiet (fail)
              have y0' : (W6.drewN nq).cell? ⟨W5.heap.size, 0, none⟩ = some (.int .i64 (u : Int)) := y0
              have y1' : (W6.drewN nq).cell? ⟨W5.heap.size, 1, none⟩ = some (.int .i64 (v : Int)) := y1
              have c1' : (W6.drewN nq).cell? ⟨g, 0, none⟩ = some (.int .i64 (l1 : Int)) := c1
              have hBq : Hid (Below W6.heap.size W6 (W6.drewN nq)) := below_drewN (Below.refl _ _) nq
              have hBd : Hid (Below w4.heap.size w4 (W6.drewN nq)) := below_drewN hB5.out nq
              have hzq : W5.heap.size < (W6.drewN nq).heap.size := by show W5.heap.size < W6.heap.size; exact World.block_lt_of_cell? _ _ y0
              clear y0 y1 c1 c2
              by_cases he : v = l1
              · have fe : ((v : Int) == (l1 : Int)) = true := by simp; omega
                go_wp2_with fail
                replace hcc := Lib.hid (hcc.out he)
                replace he := Lib.hid he
                generalize W6.drewN nq = W7 at *
                go_quiet (fail)
                have y0q : (W7.drewN nq).cell? ⟨W5.heap.size, 0, none⟩ = some (.int .i64 (u : Int)) := y0'
                have y1q : (W7.drewN nq).cell? ⟨W5.heap.size, 1, none⟩ = some (.int .i64 (v : Int)) := y1'
                have hBq2 : Hid (Below W6.heap.size W6 (W7.drewN nq)) := below_drewN hBq.out nq
                have hzq2 : W5.heap.size < (W7.drewN nq).heap.size := hzq
                clear y0' y1' c1' hBq hzq hBd
                go_wp2_with fail
                generalize W7.drewN nq = V7 at *
                go_region_held3 (fun w' => w'.cell? ⟨W5.heap.size, 0, none⟩ = some (.int .i64 (u : Int)) ∧ w'.cell? ⟨W5.heap.size, 1, none⟩ = some (.int .i64 (v : Int))) (go_keep)
                  (first
                    | (go_at_call 15; refine (HCl.out _ ?_).mono ?_; exact below_drewN hBq2.out 1; rintro e w8 ⟨q8, c8, rfl, hO8, hB8⟩; have hO8a : Hid (OwnP V7.heap.size w8 q8 n c8 ps) := hO8; have hB8a : Hid (Below V7.heap.size V7.drew w8) := hB8; have y0'' : w8.cell? ⟨W5.heap.size, 0, none⟩ = some (.int .i64 (u : Int)) := (hB8.cell (p := ⟨W5.heap.size, 0, none⟩) hzq2).trans y0q; have y1'' : w8.cell? ⟨W5.heap.size, 1, none⟩ = some (.int .i64 (v : Int)) := (hB8.cell (p := ⟨W5.heap.size, 1, none⟩) hzq2).trans y1q; replace hO8 := Lib.hid hO8; replace hB8 := Lib.hid hB8)
                    | (go_at_call 15; refine (HCl.out _ ?_).mono ?_; exact (below_drewN hBq2.out 1).alloc hBq2.out.size _; rintro e w8 ⟨q8, c8, rfl, hO8, hB8⟩; have hq8 := Lib.hid (OwnC.apart hO8.1 V7.heap.size (by simp)); have hO8b : Hid (OwnP V7.heap.size w8 q8 n c8 ps) := ⟨OwnC.mono hO8.1 (by simp), hO8.2⟩; have e8 := Lib.hid ((hB8.block V7.heap.size (by simp)).trans (heap_alloc_new V7.drew _)); have hB8b : Hid (Below V7.heap.size V7.drew w8) := ((Below.refl V7.heap.size V7.drew).alloc (Nat.le_refl _) _).trans (hB8.mono (by simp)); have y0'' : w8.cell? ⟨W5.heap.size, 0, none⟩ = some (.int .i64 (u : Int)) := (hB8b.out.cell (p := ⟨W5.heap.size, 0, none⟩) hzq2).trans y0q; have y1'' : w8.cell? ⟨W5.heap.size, 1, none⟩ = some (.int .i64 (v : Int)) := (hB8b.out.cell (p := ⟨W5.heap.size, 1, none⟩) hzq2).trans y1q; replace hO8 := Lib.hid hO8; replace hB8 := Lib.hid hB8)
                    | (go_at_call 16; refine (insert_q q8 n c8 V7.heap.size V7.heap.size ps (u, v) _ (by omega) (by omega) hO8b.out e8.out hq8.out).mono ?_; rintro e w9 ⟨q9, c9, rfl, hP9, hB9⟩; have hP9' := Lib.hid hP9; have hB9' : Hid (Below V7.heap.size V7.drew w9) := hB8b.out.trans hB9; have y2 : w9.cell? ⟨W5.heap.size, 0, none⟩ = some (.int .i64 (u : Int)) := (hB9'.out.cell (p := ⟨W5.heap.size, 0, none⟩) hzq2).trans y0q; have y3 : w9.cell? ⟨W5.heap.size, 1, none⟩ = some (.int .i64 (v : Int)) := (hB9'.out.cell (p := ⟨W5.heap.size, 1, none⟩) hzq2).trans y1q; replace hP9 := Lib.hid hP9; replace hB9 := Lib.hid hB9)
                    | (go_at_call 16; refine (insert_q q8 n c8 w8.heap.size V7.heap.size ps (u, v) _ (by omega) (by omega) ⟨OwnC.alloc hO8a.out.1 _, hO8a.out.2⟩ (heap_alloc_new w8 _) (own_ne hO8a.out)).mono ?_; rintro e w9 ⟨q9, c9, rfl, hP9, hB9⟩; have hP9' := Lib.hid hP9; have hB9' : Hid (Below V7.heap.size V7.drew w9) := (hB8a.out.alloc hB8a.out.size _).trans hB9; have y2 : w9.cell? ⟨W5.heap.size, 0, none⟩ = some (.int .i64 (u : Int)) := (hB9'.out.cell (p := ⟨W5.heap.size, 0, none⟩) hzq2).trans y0q; have y3 : w9.cell? ⟨W5.heap.size, 1, none⟩ = some (.int .i64 (v : Int)) := (hB9'.out.cell (p := ⟨W5.heap.size, 1, none⟩) hzq2).trans y1q; replace hP9 := Lib.hid hP9; replace hB9 := Lib.hid hB9))
                all_goals
                  have hln : Hid (((u, v) :: ps).length = n + 1) := by show _ = _; simp [hpl.out]
                  have hfin := Lib.hid (hBW6.out w9 ((hBq2.out.drew).trans (hB9'.out.mono hBq2.out.size)))
                  go_wp2_with fail
                  go_ret2
                  exact ⟨q9, c9, (u, v) :: ps, 0, by rw [hln.out]; rfl, hfin.out, .inl ⟨rfl, by rw [hln.out]; exact hP9'.out, hln.out, hcc.out, hsc.out⟩⟩
              · have fe : ((v : Int) == (l1 : Int)) = false := by simp; omega
                replace he := Lib.hid he
                go_wp2_with fail
                generalize W6.drewN nq = W7 at *
                go_quiet (fail)
                have hBe : Hid (Below w4.heap.size w4 (W7.drewN nq)) := below_drewN hBd.out nq
                go_wp2_with fail
                have hgk := hgk.out
                go_roundg (2 - (i + 1))
                case measure => omega
                case rel => exact ⟨i + 1, hround, rfl, by go_num, hBe.out⟩
          · have fi : decide ((i : Int) < 2) = false := by simp; omega
            have hres : Hid (Below w.heap.size w W5) := hBW3.out.trans (hBr.mono hBW3.out.size)
            go_wp2_with fail
            go_ret2
            exact ⟨none, 0, [], 10, rfl, hres.out, .inr ⟨rfl, by omega, rfl⟩⟩
end Go.Proofs.Ytgnchgkiijncbaa
