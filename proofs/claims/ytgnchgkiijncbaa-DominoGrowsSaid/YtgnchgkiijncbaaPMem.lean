/- Rows of pieces (two ints each) in memory: read, own, appended to; no conditions. -/
import Derived.Test.YtgnchgkiijncbaaPick
import Derived.Test.YtgnchgkiijncbaaStepA
import Derived.Test.YtgnchgkiijncbaaDomSpec
namespace Go.Proofs.Ytgnchgkiijncbaa
open Go.RowKit

def flat : List Piece → List Value
  | [] => []
  | p :: l => .int .i64 p.1 :: .int .i64 p.2 :: flat l
theorem flat_len (l : List Piece) : (flat l).length = l.length * 2 := by
  induction l with
  | nil => rfl
  | cons p l ih => simp [flat, ih]; omega
theorem flat_app (l m : List Piece) : flat (l ++ m) = flat l ++ flat m := by
  induction l with
  | nil => rfl
  | cons p l ih => simp [flat, ih]
theorem flat_one (p : Piece) : flat [p] = [.int .i64 p.1, .int .i64 p.2] := rfl
theorem flat_at (l : List Piece) : ∀ i, i < l.length → (flat l)[i * 2]? = some (.int .i64 (pc l i).1) ∧ (flat l)[i * 2 + 1]? = some (.int .i64 (pc l i).2) := by
  induction l with
  | nil => intro i h; simp at h
  | cons p l ih =>
    intro i h
    cases i with
    | zero => exact ⟨rfl, rfl⟩
    | succ i =>
      have := ih i (by simpa using h)
      rw [show (i + 1) * 2 = i * 2 + 1 + 1 by omega]
      simpa [flat, pc] using this
theorem flat_cells (l : List Piece) : (flat l).all (·.oneCell') = true := by
  induction l with
  | nil => rfl
  | cons p l ih => simp [flat, ih]; exact ⟨rfl, rfl⟩
theorem flat_set (l : List Piece) (q : Piece) : ∀ i, i < l.length → ((flat l).set (i * 2) (.int .i64 q.1)).set (i * 2 + 1) (.int .i64 q.2) = flat (l.set i q) := by
  induction l with
  | nil => intro i h; simp at h
  | cons p l ih =>
    intro i h
    cases i with
    | zero => rfl
    | succ i =>
      have := ih i (by simpa using h)
      rw [show (i + 1) * 2 = i * 2 + 1 + 1 by omega]
      simp only [flat, List.set_cons_succ]
      rw [this]

/-- '.slice p n _' reads as the pieces ps, in a block below B, from its start. -/
def PIn (B : Nat) (w : World) (p : Option Addr) (n : Nat) (ps : List Piece) : Prop :=
  ps.length = n ∧ ∀ i, i < n → ∃ g, p = some ⟨g, 0, none⟩ ∧ g < B ∧ g < w.heap.size ∧ w.cell? ⟨g, i * 2, none⟩ = some (.int .i64 (pc ps i).1) ∧ w.cell? ⟨g, i * 2 + 1, none⟩ = some (.int .i64 (pc ps i).2)
theorem PIn.keep {B : Nat} {w w' : World} {p : Option Addr} {n : Nat} {ps : List Piece} (h : PIn B w p n ps) (hs : w.heap.size ≤ w'.heap.size) (hk : ∀ g, g < B → g < w.heap.size → w'.heap[g]? = w.heap[g]?) : PIn B w' p n ps :=
  ⟨h.1, fun i hi => let ⟨g, e, hB, hg, c1, c2⟩ := h.2 i hi; ⟨g, e, hB, Nat.lt_of_lt_of_le hg hs, (World.cell?_of_block (a := ⟨g, i * 2, none⟩) (hk g hB hg)).trans c1, (World.cell?_of_block (a := ⟨g, i * 2 + 1, none⟩) (hk g hB hg)).trans c2⟩⟩
theorem PIn.below {B : Nat} {w w' : World} {p : Option Addr} {n : Nat} {ps : List Piece} (h : PIn B w p n ps) (hb : Below B w w') : PIn B w' p n ps := by
  refine ⟨h.1, fun i hi => ?_⟩
  obtain ⟨g, e, hB, hg, c1, c2⟩ := h.2 i hi
  exact ⟨g, e, hB, Nat.lt_of_lt_of_le hg hb.size, (World.cell?_of_block (a := ⟨g, i * 2, none⟩) (hb.block g hB)).trans c1, (World.cell?_of_block (a := ⟨g, i * 2 + 1, none⟩) (hb.block g hB)).trans c2⟩
theorem PIn.mono {B B' : Nat} {w : World} {p : Option Addr} {n : Nat} {ps : List Piece} (h : PIn B w p n ps) (hB : B ≤ B') : PIn B' w p n ps :=
  ⟨h.1, fun i hi => let ⟨g, e, hb, hg, c1, c2⟩ := h.2 i hi; ⟨g, e, Nat.lt_of_lt_of_le hb hB, hg, c1, c2⟩⟩
theorem PIn.at {B : Nat} {w : World} {p : Option Addr} {n : Nat} {ps : List Piece} (h : PIn B w p n ps) (hn : 0 < n) : ∃ g, p = some ⟨g, 0, none⟩ ∧ g < B ∧ g < w.heap.size ∧ ∀ i, i < n → w.cell? ⟨g, i * 2, none⟩ = some (.int .i64 (pc ps i).1) ∧ w.cell? ⟨g, i * 2 + 1, none⟩ = some (.int .i64 (pc ps i).2) := by
  obtain ⟨g, e, hB, hg, _⟩ := h.2 0 hn
  refine ⟨g, e, hB, hg, fun i hi => ?_⟩
  obtain ⟨g', e', _, _, c1, c2⟩ := h.2 i hi
  rw [e] at e'; cases e'
  exact ⟨c1, c2⟩
/-- a row of pieces of the call's own. -/
def OwnP (B : Nat) (w : World) (p : Option Addr) (n c : Nat) (ps : List Piece) : Prop := OwnC 30 2 B w p n c (flat ps) ∧ ps.length = n
theorem OwnP.nil (B : Nat) (w : World) : OwnP B w none 0 0 [] := ⟨OwnC.nil _ _ _ _, rfl⟩
theorem OwnP.in {B : Nat} {w : World} {p : Option Addr} {n c : Nat} {ps : List Piece} (h : OwnP B w p n c ps) : PIn w.heap.size w p n ps := by
  refine ⟨h.2, fun i hi => ?_⟩
  obtain ⟨g, rfl, _, hg, _⟩ := h.1.where (by omega)
  obtain ⟨f1, f2⟩ := flat_at ps i (by have := h.2; omega)
  exact ⟨g, rfl, hg, hg, by rw [h.1.cell (by omega)]; exact f1, by rw [h.1.cell (by omega)]; exact f2⟩
theorem el23 : ElT Try.prog 23 30 (.agg #[.int .i64 0, .int .i64 0]) 2 16 := ⟨Try.underlying23, by kernel_rfl, rfl, by omega, by omega⟩
theorem OwnP.push {B : Nat} {w : World} {p : Option Addr} {n c : Nat} {ps : List Piece} {q : Piece} (h : OwnC 30 2 B w p (n + 1) c (flat ps ++ #[Value.int .i64 (q.1 : Int), .int .i64 (q.2 : Int)].toList)) (hl : ps.length = n) : OwnP B w p (n + 1) c (ps ++ [q]) :=
  ⟨by rw [flat_app]; exact h, by simp [hl]⟩

theorem step_appendP {ops : Array Oper} {o : Oper} {a : Act} {K : Act → World → Prop} {Q : Exit → Act → World → Prop} {EE : Prop} (w : World) (hgd : o.guard = none) (s x : Operand)
    (hop : o.op = .call { callee := .builtin .append, args := #[s, x], argTypes := #[23, 23] })
    (B : Nat) (p : Option Addr) (n c : Nat) (ps : List Piece) (hs : a.eval s = .slice p n c) (own : OwnP B w p n c ps) (q : Piece) (sz : Nat) (hx : a.eval x = .slice (some ⟨sz, 0, none⟩) 1 1) (hc1 : w.cell? ⟨sz, 0, none⟩ = some (.int .i64 q.1)) (hc2 : w.cell? ⟨sz, 1, none⟩ = some (.int .i64 q.2))
    (hn : n < 1099511627776) (hB : B ≤ w.heap.size)
    (hK : ∀ p' c' w', OwnP B w' p' (n + 1) c' (ps ++ [q]) → w.grownBy w' (p.map (·.block)) → (p'.map (·.block) = p.map (·.block) ∨ ∀ a, p' = some a → w.heap.size ≤ a.block) → K (a.put o.dst (.slice p' (n + 1) c')) w') :
    if Region.wanted o (yielded ops a.tmps) = true then Oper.wp Try.prog o a w K Q else EE := by
  obtain ⟨i0, hi, hz0, hz1, hz2⟩ := info_parts el23.info
  refine step_append_lies w hgd s x 23 hop B 30 i0 (.agg #[.int .i64 0, .int .i64 0]) 2 16 el23.under hi hz0 hz1 hz2 rfl (by omega) (.slice p n c) n _ hs own.1 ⟨sz, 0, none⟩ 1 1 [.int .i64 q.1, .int .i64 q.2] hx rfl
    (fun j u hj => by
      match j, hj with
      | 0, hj => simp at hj; subst hj; rw [Addr.add_lit]; exact hc1
      | 1, hj => simp at hj; subst hj; rw [Addr.add_lit]; exact hc2)
    (by intro u hu; simp at hu; rcases hu with rfl | rfl <;> rfl) (by omega) (by unfold maxLen; omega) (by omega) hB w.heap.size rfl ?_
  intro g cap w' h1 h2 h3 h4
  refine hK _ _ _ ⟨by rw [flat_app]; exact h1, by simp [own.2]⟩ ?_ ?_
  · refine ⟨h2.os, h2.tape, h2.output, h2.size, fun k hk hne => h2.block k hk ?_⟩
    intro e; apply hne; rw [e]; cases p <;> rfl
  · rcases h3 with h3 | h3
    · left; cases p <;> simp_all [Value.ownBlock]
    · right; intro a' ha; cases ha; simp; omega

set_option maxHeartbeats 400000 in
theorem strange_no (p : Piece) (w : World) (h1 : p.1 ≤ 9) (h2 : p.2 ≤ 9) : Calls Try.prog 11 #[.agg #[.int .i64 (p.1 : Int), .int .i64 (p.2 : Int)]] w fun e w' => e = .returned (.bool false) ∧ Below w.heap.size w w' := by
  generalize p.1 = a at *
  generalize p.2 = b at *
  have hB : Hid (Below w.heap.size w (w.alloc (.cells #[.int .i64 (a : Int), .int .i64 (b : Int)] 30))) := (Below.refl _ _).alloc (Nat.le_refl _) _
  go_enter Try.func11, Try.ntmps11
  go_wp2
  go_ret
  exact ⟨ret_bool (by simp; omega), hB.out⟩

set_option maxHeartbeats 1000000 in
theorem index_none (p : Option Addr) (n c B : Nat) (ps : List Piece) (w : World) (hn : n ≤ 60) (hx : PIn B w p n ps) (h : ∀ q ∈ ps, q.1 ≤ 9 ∧ q.2 ≤ 9) :
    Calls Try.prog 18 #[.slice p n c, .func (.func 11) #[] #[]] w fun e w' => e = .returned (.int .i64 (-1)) ∧ Below w.heap.size w w' := by
  replace hx := Lib.hid hx; replace h := Lib.hid h
  go_enter Try.func18, Try.ntmps18
  go_wp2
  go_loopg [8] n (fun k i W => ∃ j : Nat, j ≤ n ∧ k = n - j ∧ i = .int .i64 j ∧ Below w.heap.size w W)
  case atStart => exact ⟨0, by omega, by omega, rfl, Below.refl _ _⟩
  case round =>
    obtain ⟨j, hj, hk, rfl, hBw⟩ := hrel
    obtain ⟨W1, rfl⟩ : ∃ W1 : World, W1 = wr := ⟨_, rfl⟩
    replace hk := Lib.hid hk
    by_cases hlt : j < n
    · obtain ⟨b, rfl, _, hb, hc⟩ := (hx.out.keep hBw.size (fun g _ hg => hBw.block g hg)).at (by omega)
      obtain ⟨c1, c2⟩ := hc j hlt
      have hpl : j < ps.length := by have := hx.out.1; omega
      have hm := h.out (pc ps j) (by unfold pc; simp [hpl])
      have HS := Lib.hid (strange_no (pc ps j) W1 hm.1 hm.2)
      replace hBw := Lib.hid hBw
      clear hc hm
      go_wp2_with fail
      refine HS.out.mono ?_
      rintro e W2 ⟨rfl, hB2⟩
      have hB3 := Lib.hid (hBw.out.trans (hB2.mono hBw.out.size))
      clear hB2 c1 c2
      go_wp2_with fail
      have hk := hk.out
      go_roundg (n - (j + 1))
      case measure => omega
      case rel => exact ⟨j + 1, by omega, rfl, by go_num, hB3.out⟩
    · replace hBw := Lib.hid hBw
      go_wp2_with fail
      go_ret
      exact ⟨rfl, hBw.out⟩

set_option maxHeartbeats 400000 in
theorem contains_none (p : Option Addr) (n c B : Nat) (ps : List Piece) (w : World) (hn : n ≤ 60) (hx : PIn B w p n ps) (h : ∀ q ∈ ps, q.1 ≤ 9 ∧ q.2 ≤ 9) :
    Calls Try.prog 10 #[.slice p n c, .func (.func 11) #[] #[]] w fun e w' => e = .returned (.bool false) ∧ Below w.heap.size w w' := by
  have H := Lib.hid (index_none p n c B ps w hn hx h)
  clear hx h
  go_enter Try.func10, Try.ntmps10
  go_wp2_with fail
  refine H.out.mono ?_
  rintro e W ⟨rfl, hB2⟩
  replace hB2 := Lib.hid hB2
  go_wp2_with fail
  go_ret
  exact ⟨rfl, hB2.out⟩

set_option maxHeartbeats 400000 in
theorem turned_any (a b : Nat) (w : World) : Calls Try.prog 14 #[.agg #[.int .i64 (a : Int), .int .i64 (b : Int)]] w fun e w' => e = .returned (.agg #[.int .i64 (b : Int), .int .i64 (a : Int)]) ∧ Below w.heap.size w w' := by
  go_enter Try.func14, Try.ntmps14
  go_wp2_with fail
  exact bodyPost_ret (v := .agg #[.int .i64 (b : Int), .int .i64 (a : Int)]) (by simp [results, Try.results14, go_sem]) rfl ⟨rfl, below2 w _ _⟩
end Go.Proofs.Ytgnchgkiijncbaa
