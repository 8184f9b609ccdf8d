/- What stones.Alive computes; conditions: a board of 1 to 10 by 1 to 10 places, signs 0 to 2, a player. -/
import Derived.Test.YtefjliblaeadfaaAlM
namespace Go.Proofs.Ytefjliblaeadfaa
open Go.RowKit

/-- what is looked for, from the beginning. -/
def alZ (s : List Nat) (gs rs : List Pt) (f i : Nat) (u v : List Bool) : List Bool × List Bool :=
  aloop gs.length rs.length (fun j i => vitalS s (pAt rs j) (pAt gs i)) (fun j i => touchS (pAt rs j) (pAt gs i)) f i u v
def alZ0 (s : List Nat) (gs rs : List Pt) : List Bool × List Bool := alZ s gs rs (gs.length * (gs.length + 1) + gs.length) 0 (List.replicate gs.length false) (List.replicate rs.length false)
def cntS (s : List Nat) (gs rs : List Pt) (v : List Bool) (i j : Nat) : Nat := cntN (fun j i => vitalS s (pAt rs j) (pAt gs i)) v i j
def mrkS (gs rs : List Pt) (v : List Bool) (i j : Nat) : List Bool := markN (fun j i => touchS (pAt rs j) (pAt gs i)) i v j
structure AlS (w W : World) (U1 U2 a b n c who : Nat) (q : Option Addr) (s : List Nat) (gp : Option Addr) (m gc : Nat) (gs : List Pt) (gbs : List Nat) (u : List Bool) (rp : Option Addr) (rn rc : Nat) (rs : List Pt) (rbs : List Nat) (v : List Bool) (i : Nat) : Prop where
  mem : AlM w W U1 U2 a b n c who q gp m gc gs gbs u rp rn rc rs rbs v
  gof : PtsOf (fun x => x == who) s a (rootsN (fun x => x == who) s a n) gs
  rof : PtsOf (fun x => x != who) s a (rootsN (fun x => x != who) s a n) rs
  ul : u.length = m
  vl : v.length = rn
  fu : ∃ f, falses u * (m + 1) + (m - i) ≤ f ∧ alZ0 s gs rs = alZ s gs rs f i u v
section
variable {w W W' : World} {U1 U2 a b n c who : Nat} {q : Option Addr} {s : List Nat} {gp : Option Addr} {m gc : Nat} {gs : List Pt} {gbs : List Nat} {u : List Bool} {rp : Option Addr} {rn rc : Nat} {rs : List Pt} {rbs : List Nat} {v : List Bool} {i : Nat}
theorem AlS.world (h : AlS w W U1 U2 a b n c who q s gp m gc gs gbs u rp rn rc rs rbs v i) (hm : AlM w W' U1 U2 a b n c who q gp m gc gs gbs u rp rn rc rs rbs v) : AlS w W' U1 U2 a b n c who q s gp m gc gs gbs u rp rn rc rs rbs v i := ⟨hm, h.gof, h.rof, h.ul, h.vl, h.fu⟩
theorem AlS.next (h : AlS w W U1 U2 a b n c who q s gp m gc gs gbs u rp rn rc rs rbs v i) (hi : i < m) (hc : bAt u i = true ∨ 2 ≤ cntS s gs rs v i rn) : AlS w W U1 U2 a b n c who q s gp m gc gs gbs u rp rn rc rs rbs v (i + 1) := by
  refine ⟨h.mem, h.gof, h.rof, h.ul, h.vl, ?_⟩
  obtain ⟨f, hf, e⟩ := h.fu
  match f, hf, e with
  | 0, hf, e => omega
  | f + 1, hf, e =>
    refine ⟨f, by omega, ?_⟩
    rw [e]
    unfold alZ
    rw [aloop, if_pos (by rw [h.mem.gm.pl]; exact hi), if_pos]
    rw [h.mem.rm.pl]
    exact hc
theorem AlS.back (h : AlS w W U1 U2 a b n c who q s gp m gc gs gbs u rp rn rc rs rbs v i) (hi : i < m) (hu : bAt u i = false) (hc : ¬ 2 ≤ cntS s gs rs v i rn) (hm : AlM w W' U1 U2 a b n c who q gp m gc gs gbs (u.set i true) rp rn rc rs rbs (mrkS gs rs v i rn)) :
    AlS w W' U1 U2 a b n c who q s gp m gc gs gbs (u.set i true) rp rn rc rs rbs (mrkS gs rs v i rn) 0 ∧ falses (u.set i true) < falses u := by
  have hfs := falses_set (u := u) (i := i) (by rw [h.ul]; exact hi) hu
  refine ⟨⟨hm, h.gof, h.rof, by simp [h.ul], by unfold mrkS; rw [markN_len]; exact h.vl, ?_⟩, by omega⟩
  obtain ⟨f, hf, e⟩ := h.fu
  have hmul : falses u * (m + 1) = falses (u.set i true) * (m + 1) + (m + 1) := by rw [← hfs, Nat.add_mul, Nat.one_mul]
  match f, hf, e with
  | 0, hf, e => omega
  | f + 1, hf, e =>
    refine ⟨f, by omega, ?_⟩
    rw [e]
    unfold alZ
    rw [aloop, if_pos (by rw [h.mem.gm.pl]; exact hi), if_neg]
    · rw [h.mem.rm.pl]; rfl
    · rw [h.mem.rm.pl]
      rintro (h1 | h1)
      · rw [hu] at h1; cases h1
      · exact hc h1
theorem AlS.done (h : AlS w W U1 U2 a b n c who q s gp m gc gs gbs u rp rn rc rs rbs v m) : alZ0 s gs rs = (u, v) := by
  obtain ⟨f, _, e⟩ := h.fu
  rw [e]
  unfold alZ
  cases f with
  | zero => rfl
  | succ f => rw [aloop, if_neg (by rw [h.mem.gm.pl]; omega)]
theorem falses_rep (m : Nat) : falses (List.replicate m false) = m := by unfold falses; simp [List.countP_replicate]
theorem AlS.start (hm : AlM w W U1 U2 a b n c who q gp m gc gs gbs (List.replicate m false) rp rn rc rs rbs (List.replicate rn false)) (hg : PtsOf (fun x => x == who) s a (rootsN (fun x => x == who) s a n) gs) (hr : PtsOf (fun x => x != who) s a (rootsN (fun x => x != who) s a n) rs) :
    AlS w W U1 U2 a b n c who q s gp m gc gs gbs (List.replicate m false) rp rn rc rs rbs (List.replicate rn false) 0 :=
  ⟨hm, hg, hr, by simp, by simp, m * (m + 1) + m, by rw [falses_rep]; omega, by unfold alZ0; rw [hm.gm.pl, hm.rm.pl]⟩
end
theorem elI : ElT Try.prog 22 3 (.int .i64 0) 1 8 := ⟨by kernel_rfl, by kernel_rfl, rfl, by omega, by omega⟩
theorem all_cells (l : List Int) : (l.map (Value.int .i64)).all (·.oneCell') = true := by
  rw [List.all_eq_true]
  intro x hx
  obtain ⟨y, _, rfl⟩ := List.mem_map.1 hx
  rfl
theorem asI_append (l m : List Nat) : asI l ++ asI m = asI (l ++ m) := by simp [asI]
theorem cells_src {W : World} {b o : Nat} {l : List Nat} (h : ∀ j, j < l.length → W.cell? ⟨b, o + j, none⟩ = some (.int .i64 ((asI l)[j]?.getD 0))) : ∀ j x, ((asI l).map (Value.int .i64))[j]? = some x → W.cell? ((⟨b, o, none⟩ : Addr).add j) = some x := fun j x hx => by
  rw [List.getElem?_map] at hx
  have hj : j < l.length := by
    rcases Nat.lt_or_ge j l.length with h1 | h1
    · exact h1
    · rw [List.getElem?_eq_none (by rw [asI_len]; exact h1)] at hx; simp at hx
  have hj2 : j < (asI l).length := by rw [asI_len]; exact hj
  have := h j hj
  rw [List.getElem?_eq_getElem hj2] at hx this
  simp only [Option.map_some, Option.some.injEq, Option.getD_some] at hx this
  rw [← hx, ← this, Addr.add_lit]
/-- what is told of what is alive. -/
def AliveP (a n who : Nat) (s : List Nat) (w : World) (e : Ending) (w' : World) : Prop :=
  ∃ (p : Option Addr) (c' : Nat) (l : List Nat) (gs rs : List Pt), e = .returned (.tuple #[.slice p l.length c', .int .i64 0]) ∧ IntsIn w' p l.length (asI l) ∧ PtsOf (fun x => x == who) s a (rootsN (fun x => x == who) s a n) gs ∧ PtsOf (fun x => x != who) s a (rootsN (fun x => x != who) s a n) rs ∧
    l.Perm (alN gs (alZ0 s gs rs).1 gs.length) ∧ Below w.heap.size w w'

/-- what holds at each jump. -/
def AlJ (w : World) (a b n c who : Nat) (q : Option Addr) (s : List Nat) : Nat → Act → World → Prop := fun g a' W => ∃ (gp : Option Addr) (m gc : Nat) (gs : List Pt) (gbs : List Nat) (u : List Bool) (rp : Option Addr) (rn rc : Nat) (rs : List Pt) (rbs : List Nat) (v : List Bool) (U1 U2 : Nat) (ff : Nat → Value), a' = { tmps := #[.agg #[.int .i64 (a : Int), .int .i64 (b : Int), .slice q n c], .int .i64 (who : Int), .pointer (some ⟨w.heap.size, 0, none⟩), .pointer (some ⟨w.heap.size + 1, 0, none⟩), .slice none 0 0, .int .i64 0, .slice gp m gc, .slice rp rn rc, ff 8, ff 9, ff 10, ff 11, ff 12, ff 13, ff 14, ff 15, ff 16, ff 17, ff 18, ff 19, ff 20, ff 21, ff 22, ff 23, ff 24, ff 25, ff 26, ff 27, ff 28, ff 29, ff 30, ff 31, ff 32, ff 33, ff 34, ff 35, ff 36, ff 37, ff 38, ff 39, ff 40, ff 41, ff 42, ff 43, ff 44, ff 45, ff 46, ff 47, ff 48, ff 49, ff 50, ff 51, ff 52, ff 53, ff 54, ff 55, ff 56, ff 57, ff 58, ff 59, ff 60, ff 61, ff 62, ff 63, ff 64, ff 65, ff 66, ff 67, ff 68, ff 69, ff 70, ff 71, ff 72, ff 73, ff 74, ff 75, ff 76, ff 77, ff 78, ff 79, ff 80, ff 81, ff 82, ff 83, ff 84, ff 85, ff 86, ff 87, ff 88, ff 89, ff 90, ff 91, ff 92, ff 93, ff 94, ff 95, ff 96, ff 97, ff 98, ff 99, ff 100, ff 101, ff 102, ff 103, ff 104, ff 105, ff 106, ff 107, ff 108, ff 109], defers := [] } ∧ AlS w W U1 U2 a b n c who q s gp m gc gs gbs u rp rn rc rs rbs v 0 ∧ g = falses u
set_option maxHeartbeats 8000000 in
set_option maxRecDepth 100000 in
theorem AlJ.intro {w W : World} {a b n c who : Nat} {q : Option Addr} {s : List Nat} {gp : Option Addr} {m gc : Nat} {gs : List Pt} {gbs : List Nat} {u : List Bool} {rp : Option Addr} {rn rc : Nat} {rs : List Pt} {rbs : List Nat} {v : List Bool} {U1 U2 : Nat} {tm : Array Value} (h : AlS w W U1 U2 a b n c who q s gp m gc gs gbs u rp rn rc rs rbs v 0)
    (he : tm = #[.agg #[.int .i64 (a : Int), .int .i64 (b : Int), .slice q n c], .int .i64 (who : Int), .pointer (some ⟨w.heap.size, 0, none⟩), .pointer (some ⟨w.heap.size + 1, 0, none⟩), .slice none 0 0, .int .i64 0, .slice gp m gc, .slice rp rn rc, tm.getD 8 undef, tm.getD 9 undef, tm.getD 10 undef, tm.getD 11 undef, tm.getD 12 undef, tm.getD 13 undef, tm.getD 14 undef, tm.getD 15 undef, tm.getD 16 undef, tm.getD 17 undef, tm.getD 18 undef, tm.getD 19 undef, tm.getD 20 undef, tm.getD 21 undef, tm.getD 22 undef, tm.getD 23 undef, tm.getD 24 undef, tm.getD 25 undef, tm.getD 26 undef, tm.getD 27 undef, tm.getD 28 undef, tm.getD 29 undef, tm.getD 30 undef, tm.getD 31 undef, tm.getD 32 undef, tm.getD 33 undef, tm.getD 34 undef, tm.getD 35 undef, tm.getD 36 undef, tm.getD 37 undef, tm.getD 38 undef, tm.getD 39 undef, tm.getD 40 undef, tm.getD 41 undef, tm.getD 42 undef, tm.getD 43 undef, tm.getD 44 undef, tm.getD 45 undef, tm.getD 46 undef, tm.getD 47 undef, tm.getD 48 undef, tm.getD 49 undef, tm.getD 50 undef, tm.getD 51 undef, tm.getD 52 undef, tm.getD 53 undef, tm.getD 54 undef, tm.getD 55 undef, tm.getD 56 undef, tm.getD 57 undef, tm.getD 58 undef, tm.getD 59 undef, tm.getD 60 undef, tm.getD 61 undef, tm.getD 62 undef, tm.getD 63 undef, tm.getD 64 undef, tm.getD 65 undef, tm.getD 66 undef, tm.getD 67 undef, tm.getD 68 undef, tm.getD 69 undef, tm.getD 70 undef, tm.getD 71 undef, tm.getD 72 undef, tm.getD 73 undef, tm.getD 74 undef, tm.getD 75 undef, tm.getD 76 undef, tm.getD 77 undef, tm.getD 78 undef, tm.getD 79 undef, tm.getD 80 undef, tm.getD 81 undef, tm.getD 82 undef, tm.getD 83 undef, tm.getD 84 undef, tm.getD 85 undef, tm.getD 86 undef, tm.getD 87 undef, tm.getD 88 undef, tm.getD 89 undef, tm.getD 90 undef, tm.getD 91 undef, tm.getD 92 undef, tm.getD 93 undef, tm.getD 94 undef, tm.getD 95 undef, tm.getD 96 undef, tm.getD 97 undef, tm.getD 98 undef, tm.getD 99 undef, tm.getD 100 undef, tm.getD 101 undef, tm.getD 102 undef, tm.getD 103 undef, tm.getD 104 undef, tm.getD 105 undef, tm.getD 106 undef, tm.getD 107 undef, tm.getD 108 undef, tm.getD 109 undef]) : AlJ w a b n c who q s (falses u) { tmps := tm, defers := [] } W :=
  ⟨gp, m, gc, gs, gbs, u, rp, rn, rc, rs, rbs, v, U1, U2, fun k => tm.getD k undef, congrArg (fun t => ({ tmps := t, defers := [] } : Act)) he, h, rfl⟩
set_option maxHeartbeats 8000000 in
set_option maxRecDepth 100000 in
theorem AlJ.elim {w W : World} {a b n c who g : Nat} {q : Option Addr} {s : List Nat} {a' : Act} (h : AlJ w a b n c who q s g a' W) (R : Act → Prop)
    (hR : ∀ (gp : Option Addr) (m gc : Nat) (gs : List Pt) (gbs : List Nat) (u : List Bool) (rp : Option Addr) (rn rc : Nat) (rs : List Pt) (rbs : List Nat) (v : List Bool) (U1 U2 : Nat) (ff : Nat → Value), AlS w W U1 U2 a b n c who q s gp m gc gs gbs u rp rn rc rs rbs v 0 → g = falses u → R { tmps := #[.agg #[.int .i64 (a : Int), .int .i64 (b : Int), .slice q n c], .int .i64 (who : Int), .pointer (some ⟨w.heap.size, 0, none⟩), .pointer (some ⟨w.heap.size + 1, 0, none⟩), .slice none 0 0, .int .i64 0, .slice gp m gc, .slice rp rn rc, ff 8, ff 9, ff 10, ff 11, ff 12, ff 13, ff 14, ff 15, ff 16, ff 17, ff 18, ff 19, ff 20, ff 21, ff 22, ff 23, ff 24, ff 25, ff 26, ff 27, ff 28, ff 29, ff 30, ff 31, ff 32, ff 33, ff 34, ff 35, ff 36, ff 37, ff 38, ff 39, ff 40, ff 41, ff 42, ff 43, ff 44, ff 45, ff 46, ff 47, ff 48, ff 49, ff 50, ff 51, ff 52, ff 53, ff 54, ff 55, ff 56, ff 57, ff 58, ff 59, ff 60, ff 61, ff 62, ff 63, ff 64, ff 65, ff 66, ff 67, ff 68, ff 69, ff 70, ff 71, ff 72, ff 73, ff 74, ff 75, ff 76, ff 77, ff 78, ff 79, ff 80, ff 81, ff 82, ff 83, ff 84, ff 85, ff 86, ff 87, ff 88, ff 89, ff 90, ff 91, ff 92, ff 93, ff 94, ff 95, ff 96, ff 97, ff 98, ff 99, ff 100, ff 101, ff 102, ff 103, ff 104, ff 105, ff 106, ff 107, ff 108, ff 109], defers := [] }) : R a' := by
  obtain ⟨gp, m, gc, gs, gbs, u, rp, rn, rc, rs, rbs, v, U1, U2, ff, h1, h2, h3⟩ := h
  rw [h1]
  exact hR _ _ _ _ _ _ _ _ _ _ _ _ _ _ ff h2 h3

set_option maxHeartbeats 8000000 in
set_option maxRecDepth 100000 in
theorem alive_any (a b n c who : Nat) (q : Option Addr) (s : List Nat) (w : World) (ha1 : 1 ≤ a) (ha : a ≤ 10) (hb1 : 1 ≤ b) (hb : b ≤ 10) (hnab : Hid (n = a * b)) (hn : n ≤ 100) (hx : IntsIn w q n (asI s)) (hs : ∀ j, st s j ≤ 2) (hw : who = 1 ∨ who = 2) :
    Calls Try.prog 15 #[.agg #[.int .i64 (a : Int), .int .i64 (b : Int), .slice q n c], .int .i64 (who : Int)] w (AliveP a n who s w) := by
  have hsl : s.length = n := by have := hx.len; rwa [asI_len] at this
  have hmay := mayOk ha1 ha hb1 hb hnab.out hsl hs
  obtain ⟨W0, hW0⟩ : ∃ W0, W0 = (w.alloc (.cells #[.int .i64 (a : Int), .int .i64 (b : Int), .slice q n c] 24)).alloc (.cells #[.int .i64 (who : Int)] 3) := ⟨_, rfl⟩
  obtain ⟨e0, e1⟩ := heap2 w (.cells #[.int .i64 (a : Int), .int .i64 (b : Int), .slice q n c] 24) (.cells #[.int .i64 (who : Int)] 3)
  have hB0 := below2 w (.cells #[.int .i64 (a : Int), .int .i64 (b : Int), .slice q n c] 24) (.cells #[.int .i64 (who : Int)] 3)
  have hz0 : W0.heap.size = w.heap.size + 2 := by rw [hW0]; simp
  rw [← hW0] at e0 e1 hB0
  have HM := Lib.hid (may_any q n c a b (asI s) W0 (by omega) (by omega) (by omega) (by omega) (by omega) (hx.below hB0))
  rw [hmay] at HM
  have HG : Hid (∀ W', Below W0.heap.size W0 W' → _) := fun W' h => parts25 (fun x => x == who) (w.heap.size + 1) a b n c q s W' ha1 ha hnab hn (hx.below (hB0.trans (h.mono hB0.size))) hs (fun v hv W2 h2 => (al1_any (w.heap.size + 1) who v W2 (wcell (cs := [_]) (((h.trans (h2.mono h.size)).block _ (lt_of_heap e1)).trans e1) 0)).mono fun e w' h => ⟨h.1, h.2⟩)
  have HR : Hid (∀ W', Below W0.heap.size W0 W' → _) := fun W' h => parts26 (fun x => x != who) (w.heap.size + 1) a b n c q s W' ha1 ha hnab hn (hx.below (hB0.trans (h.mono hB0.size))) hs (fun v hv W2 h2 => (al2_any (w.heap.size + 1) who v W2 (wcell (cs := [_]) (((h.trans (h2.mono h.size)).block _ (lt_of_heap e1)).trans e1) 0)).mono fun e w' h => ⟨h.1, h.2⟩)
  replace hB0 := Lib.hid hB0; replace hmay := Lib.hid hmay; replace hx := Lib.hid hx; replace hs := Lib.hid hs; replace e0 := Lib.hid e0; replace e1 := Lib.hid e1; replace hsl := Lib.hid hsl; replace hz0 := Lib.hid hz0
  have hW0' := Lib.hid hW0
  subst hW0
  go_enter Try.func15, Try.ntmps15
  go_wp2_with fail
  refine wp_scope_ghost 0 (AlJ w a b n c who q s) rfl ?pass ?first
  case pass =>
    intro g a' W hJ
    refine hJ.elim (fun a' => Code.wp _ _ _ a' W) ?_
    clear hJ a'
    intro gp m gc gs gbs u rp rn rc rs rbs v U1 U2 ff hA hge
    subst hge
    show Code.wp Try.prog _ _ _ W
    have hGB : Hid (∀ i, i < m → 0 < (pAt gs i).1.length ∧ (pAt gs i).1.length ≤ n ∧ (pAt gs i).2.length ≤ n ∧ (∀ t ∈ (pAt gs i).1, t < n)) := fun i hi => by
      have := PtsOf.bnd (b := b) (by rw [hsl.out, hnab.out]) (by rw [hsl.out]; exact Nat.le_refl _) hA.gof i (by rw [hA.mem.gm.pl]; exact hi)
      rw [hsl.out] at this
      exact ⟨this.1, this.2.1, this.2.2.1, this.2.2.2.1⟩
    have hRB : Hid (∀ i, i < rn → 0 < (pAt rs i).1.length ∧ (pAt rs i).1.length ≤ n ∧ (pAt rs i).2.length ≤ n ∧ (∀ t ∈ (pAt rs i).1, t < n)) := fun i hi => by
      have := PtsOf.bnd (b := b) (by rw [hsl.out, hnab.out]) (by rw [hsl.out]; exact Nat.le_refl _) hA.rof i (by rw [hA.mem.rm.pl]; exact hi)
      rw [hsl.out] at this
      exact ⟨this.1, this.2.1, this.2.2.1, this.2.2.2.1⟩
    have hmn : m ≤ 100 := by
      have h1 := hA.gof.1
      rw [hA.mem.gm.pl] at h1
      have := roots_len (fun x => x == who) s a n
      omega
    have hrn : rn ≤ 100 := by
      have h1 := hA.rof.1
      rw [hA.mem.rm.pl] at h1
      have := roots_len (fun x => x != who) s a n
      omega
    have hA' := Lib.hid hA
    clear hA HM HG HR
    go_wp2_with fail
    go_loopg [37] m (fun gk iv W' => ∃ (i : Nat), i ≤ m ∧ gk = m - i ∧ iv = .int .i64 i ∧ AlS w W' U1 U2 a b n c who q s gp m gc gs gbs u rp rn rc rs rbs v i)
    case atStart => exact ⟨0, Nat.zero_le _, rfl, rfl, hA'.out⟩
    case round =>
      obtain ⟨i, hi, hgk, rfl, hS⟩ := hrel
      obtain ⟨W1, rfl⟩ : ∃ W1 : World, W1 = wr := ⟨_, rfl⟩
      replace hgk := Lib.hid hgk
      clear hA'
      by_cases hlt : i < m
      · obtain ⟨gg, rfl, hcell⟩ := hS.mem.gm.at hlt
        have f1 : (0 : Int) ≤ (i : Int) := by omega
        have f2 : (i : Int) < (m : Int) := by omega
        have hS2 : Hid (AlS w (W1.alloc (.cells #[.pointer (some ⟨st gbs i, 0, none⟩)] 57)) U1 U2 a b n c who q s (some ⟨gg, 0, none⟩) m gc gs gbs u rp rn rc rs rbs v i) := hS.world (hS.mem.below ((Below.refl _ _).alloc (Nat.le_refl _) _))
        have ekb := Lib.hid (heap_alloc_new W1 (.cells #[.pointer (some ⟨st gbs i, 0, none⟩)] 57))
        obtain ⟨bi, hbi⟩ : ∃ bi, bi = st gbs i := ⟨_, rfl⟩
        rw [← hbi] at hcell hS2 ekb
        replace hbi := Lib.hid hbi
        have hkU : Hid (U2 ≤ W1.heap.size) := hS.mem.u2
        replace hS := Lib.hid hS
        go_wp2_with fail
        clear hcell hS
        go_loopg [10, 43] rn (fun gk nv jv W' => ∃ (j : Nat), j ≤ rn ∧ gk = rn - j ∧ jv = .int .i64 j ∧ nv = .int .i64 (cntS s gs rs v i j : Nat) ∧ AlS w W' U1 U2 a b n c who q s (some ⟨gg, 0, none⟩) m gc gs gbs u rp rn rc rs rbs v i ∧ W'.heap[W1.heap.size]? = some (.cells #[.pointer (some ⟨bi, 0, none⟩)] 57 (0, 0)))
        case atStart => exact ⟨0, Nat.zero_le _, rfl, rfl, rfl, hS2.out, ekb.out⟩
        case round =>
          obtain ⟨j, hj, hgk2, rfl, rfl, hS, hkb⟩ := hrel
          obtain ⟨W2, rfl⟩ : ∃ W2 : World, W2 = wr := ⟨_, rfl⟩
          replace hgk2 := Lib.hid hgk2
          clear hS2 ekb
          have hcl : cntS s gs rs v i j ≤ j := cntN_le _ _ _ _
          have dkb : W2.cell? ⟨W1.heap.size, 0, none⟩ = some (.pointer (some ⟨bi, 0, none⟩)) := wcell (cs := [_]) hkb 0
          by_cases hjt : j < rn
          · obtain ⟨rg, rfl, hrc⟩ := hS.mem.rm.at hjt
            have hR := hS.mem.rm.blk j hjt
            have hG := hS.mem.gm.blk i hlt
            have hHV := Lib.hid (vital_any a b n c q s _ _ _ _ _ _ _ _ _ _ _ _ W2 hn (hx.out.below hS.mem.bl) hR hG (by have := (hRB.out j hjt).2.1; omega) (by have := (hGB.out i hlt).2.2.1; omega) (hRB.out j hjt).2.2.2)
            obtain ⟨q1, c1, q2, c2, _, _, _, hrb, _⟩ := hR
            have dr2 : W2.cell? ⟨st rbs j, 2, none⟩ = some (.bool (bAt v j)) := wcell (cs := [_, _, _]) hrb 2
            have d0 : W2.cell? ⟨w.heap.size, 0, none⟩ = some (.int .i64 (a : Int)) := wcell (cs := [_, _, _]) hS.mem.bx 0
            have d1 : W2.cell? ⟨w.heap.size, 1, none⟩ = some (.int .i64 (b : Int)) := wcell (cs := [_, _, _]) hS.mem.bx 1
            have d2 : W2.cell? ⟨w.heap.size, 2, none⟩ = some (.slice q n c) := wcell (cs := [_, _, _]) hS.mem.bx 2
            have hcs : Hid (cntS s gs rs v i (j + 1) = cntS s gs rs v i j + if (!bAt v j && vitalS s (pAt rs j) (pAt gs i)) = true then 1 else 0) := cntN_succ _ _ _ _
            rw [← hbi.out] at hHV
            obtain ⟨bj, hbj⟩ : ∃ bj, bj = st rbs j := ⟨_, rfl⟩
            rw [← hbj] at hrc hHV dr2
            generalize cntS s gs rs v i j = cn at *
            generalize vitalS s (pAt rs j) (pAt gs i) = vt at *
            have f3 : (0 : Int) ≤ (j : Int) := by omega
            have f4 : (j : Int) < (rn : Int) := by omega
            have hcw : IntKind.i64.wrap ((cn : Nat) : Int) = ((cn : Nat) : Int) := IntWalk.i64_in _ (by omega)
            have hS' := Lib.hid hS
            replace hkb := Lib.hid hkb; replace hrb := Lib.hid hrb; replace hbj := Lib.hid hbj
            clear hS hG
            cases hv : bAt v j with
            | true =>
              rw [hv] at dr2
              have hcs2 : Hid (cntS s gs rs v i (j + 1) = cn) := by show _ = _; rw [hcs.out, hv]; simp
              replace hv := Lib.hid hv
              go_wp2_with fail
              have hgk2 := hgk2.out
              go_roundg (rn - (j + 1))
              case measure => omega
              case rel => exact ⟨j + 1, hjt, rfl, by go_num, by rw [hcs2.out], hS'.out, hkb.out⟩
            | false =>
              rw [hv] at dr2
              cases vt with
              | true =>
                have hcs2 : Hid (cntS s gs rs v i (j + 1) = cn + 1) := by show _ = _; rw [hcs.out, hv]; simp
                replace hv := Lib.hid hv
                go_wp2_with fail
                refine hHV.out.mono ?_
                rintro e W3 ⟨rfl, hB3⟩
                go_wp2_with fail
                have hgk2 := hgk2.out
                go_roundg (rn - (j + 1))
                case measure => omega
                case rel => exact ⟨j + 1, hjt, rfl, by go_num, by rw [hcs2.out]; go_num, hS'.out.world (hS'.out.mem.below hB3), (hB3.block _ (lt_of_heap hkb.out)).trans hkb.out⟩
              | false =>
                have hcs2 : Hid (cntS s gs rs v i (j + 1) = cn) := by show _ = _; rw [hcs.out, hv]; simp
                replace hv := Lib.hid hv
                go_wp2_with fail
                refine hHV.out.mono ?_
                rintro e W3 ⟨rfl, hB3⟩
                go_wp2_with fail
                have hgk2 := hgk2.out
                go_roundg (rn - (j + 1))
                case measure => omega
                case rel => exact ⟨j + 1, hjt, rfl, by go_num, by rw [hcs2.out], hS'.out.world (hS'.out.mem.below hB3), (hB3.block _ (lt_of_heap hkb.out)).trans hkb.out⟩
          · have hje : j = rn := by omega
            subst hje
            have hjj : ¬ (j : Int) < (j : Int) := by omega
            have hbiU := hS.mem.gm.blkIn hlt
            rw [← hbi.out] at hbiU
            have hu12 : Hid (U1 ≤ U2) := hS.mem.u1
            have hu12' := hu12.out
            obtain ⟨q1, c1, q2, c2, _, _, _, hgb, hgi1, _, _, _⟩ := hS.mem.gm.blk i hlt
            rw [← hbi.out] at hgb
            have dg2 : W2.cell? ⟨bi, 2, none⟩ = some (.bool (bAt u i)) := wcell (cs := [_, _, _]) hgb 2
            have fg2 := wfree hgb 2
            have hkne : Hid (W1.heap.size ≠ bi) := by have := hkU.out; show _ ≠ _; omega
            cases hu : bAt u i with
            | true =>
              rw [hu] at dg2
              have hS3 := Lib.hid (hS.next hlt (.inl hu))
              replace hS := Lib.hid hS; replace hu := Lib.hid hu; replace hkb := Lib.hid hkb; replace hgb := Lib.hid hgb
              go_wp2_with fail
              have hgk := hgk.out
              go_roundg (m - (i + 1))
              case measure => omega
              case rel => exact ⟨i + 1, hlt, rfl, by go_num, hS3.out⟩
            | false =>
              rw [hu] at dg2
              by_cases h2 : 2 ≤ cntS s gs rs v i j
              · have hS3 := Lib.hid (hS.next hlt (.inr h2))
                have h2i : (2 : Int) ≤ ((cntS s gs rs v i j : Nat) : Int) := by omega
                generalize cntS s gs rs v i j = cn at *
                replace hS := Lib.hid hS; replace hu := Lib.hid hu; replace hkb := Lib.hid hkb; replace hgb := Lib.hid hgb
                go_wp2_with fail
                have hgk := hgk.out
                go_roundg (m - (i + 1))
                case measure => omega
                case rel => exact ⟨i + 1, hlt, rfl, by go_num, hS3.out⟩
              · have h2i : ¬ (2 : Int) ≤ ((cntS s gs rs v i j : Nat) : Int) := by omega
                have h2h := Lib.hid h2
                have hM3 := hS.mem.strikeG hlt hS.ul
                rw [← hbi.out] at hM3
                have hM3 := Lib.hid hM3
                have hkb3 := Lib.hid ((wset_ne (w := W2) ⟨bi, 2, none⟩ (.bool true) hkne.out).trans hkb)
                have hvl := hS.vl
                replace hS := Lib.hid hS; replace hu := Lib.hid hu; replace hkb := Lib.hid hkb; replace hgb := Lib.hid hgb
                replace h2 := h2h
                generalize cntS s gs rs v i j = cn at h2i
                go_wp2_with fail
                clear dg2 fg2 h2i dkb
                go_loopg [74] j (fun gk kv W' => ∃ (k : Nat), k ≤ j ∧ gk = j - k ∧ kv = .int .i64 k ∧ AlM w W' U1 U2 a b n c who q (some ⟨gg, 0, none⟩) m gc gs gbs (u.set i true) rp j rc rs rbs (mrkS gs rs v i k) ∧ W'.heap[W1.heap.size]? = some (.cells #[.pointer (some ⟨bi, 0, none⟩)] 57 (0, 0)))
                case atStart => exact ⟨0, Nat.zero_le _, rfl, rfl, hM3.out, hkb3.out⟩
                case round =>
                  obtain ⟨k, hk, hgk3, rfl, hM, hkb4⟩ := hrel
                  obtain ⟨W4, rfl⟩ : ∃ W4 : World, W4 = wr := ⟨_, rfl⟩
                  replace hgk3 := Lib.hid hgk3
                  clear hM3 hkb3
                  have dkb : W4.cell? ⟨W1.heap.size, 0, none⟩ = some (.pointer (some ⟨bi, 0, none⟩)) := wcell (cs := [_]) hkb4 0
                  by_cases hkt : k < j
                  · obtain ⟨rg, rfl, hrc⟩ := hM.rm.at hkt
                    obtain ⟨q3, c3, q4, c4, _, _, _, hrb, _, hri, _, _⟩ := hM.rm.blk k hkt
                    obtain ⟨q5, c5, q6, c6, _, _, _, hgb4, hgi4, _, _, _⟩ := hM.gm.blk i hlt
                    rw [← hbi.out] at hgb4
                    have hbkU := hM.rm.blkIn hkt
                    have dg0 : W4.cell? ⟨bi, 0, none⟩ = some (.slice q5 (pAt gs i).1.length c5) := wcell (cs := [_, _, _]) hgb4 0
                    have dr1 : W4.cell? ⟨st rbs k, 1, none⟩ = some (.slice q4 (pAt rs k).2.length c4) := wcell (cs := [_, _, _]) hrb 1
                    have dr2 : W4.cell? ⟨st rbs k, 2, none⟩ = some (.bool (bAt (mrkS gs rs v i k) k)) := wcell (cs := [_, _, _]) hrb 2
                    have fr2 := wfree hrb 2
                    have HT := Lib.hid (conf28 W1.heap.size (fun x => (pAt gs i).1.contains x) q4 c4 (pAt rs k).2 W4 (by have := (hRB.out k hkt).2.2.1; omega) hri (fun x _ => al3_any W1.heap.size bi x c5 q5 (pAt gs i).1 W4 dkb dg0 (by have := (hGB.out i hlt).2.1; omega) hgi4))
                    have hts : Hid (((pAt rs k).2.any fun x => (pAt gs i).1.contains x) = touchS (pAt rs k) (pAt gs i)) := rfl
                    rw [hts.out] at HT
                    have hms : Hid (mrkS gs rs v i (k + 1) = if touchS (pAt rs k) (pAt gs i) = true then (mrkS gs rs v i k).set k true else mrkS gs rs v i k) := markN_succ _ _ _ _
                    have hml : (mrkS gs rs v i k).length = j := by unfold mrkS; rw [markN_len]; exact hvl
                    have hst := hM.strikeR hkt hml
                    have hkne2 : Hid (W1.heap.size ≠ st rbs k) := by have := hkU.out; show _ ≠ _; omega
                    have hkb5 := Lib.hid ((wset_ne (w := W4) ⟨st rbs k, 2, none⟩ (.bool true) hkne2.out).trans hkb4)
                    obtain ⟨bk, hbk⟩ : ∃ bk, bk = st rbs k := ⟨_, rfl⟩
                    rw [← hbk] at hrc dr1 dr2 fr2 hst hkb5
                    replace hst := Lib.hid hst
                    replace hbk := Lib.hid hbk; replace hM := Lib.hid hM; replace hkb4 := Lib.hid hkb4; replace hrb := Lib.hid hrb; replace hgb4 := Lib.hid hgb4; replace hri := Lib.hid hri; replace hgi4 := Lib.hid hgi4
                    obtain ⟨tt, htt⟩ : ∃ tt, tt = touchS (pAt rs k) (pAt gs i) := ⟨_, rfl⟩
                    rw [← htt] at HT
                    replace htt := Lib.hid htt
                    have f3 : (0 : Int) ≤ (k : Int) := by omega
                    have f4 : (k : Int) < (j : Int) := by omega
                    clear dg0 dkb
                    cases tt with
                    | true =>
                      have hms2 : Hid (mrkS gs rs v i (k + 1) = (mrkS gs rs v i k).set k true) := by show _ = _; rw [hms.out, if_pos htt.out.symm]
                      go_wp2_with fail
                      refine HT.out.mono ?_
                      rintro e w' ⟨rfl, rfl⟩
                      go_wp2_with fail
                      have hgk3 := hgk3.out
                      go_roundg (j - (k + 1))
                      case measure => omega
                      case rel => exact ⟨k + 1, hkt, rfl, by go_num, by rw [hms2.out]; exact hst.out, hkb5.out⟩
                    | false =>
                      have hms2 : Hid (mrkS gs rs v i (k + 1) = mrkS gs rs v i k) := by show _ = _; rw [hms.out, if_neg (by rw [← htt.out]; simp)]
                      go_wp2_with fail
                      refine HT.out.mono ?_
                      rintro e w' ⟨rfl, rfl⟩
                      go_wp2_with fail
                      have hgk3 := hgk3.out
                      go_roundg (j - (k + 1))
                      case measure => omega
                      case rel => exact ⟨k + 1, hkt, rfl, by go_num, by rw [hms2.out]; exact hM.out, hkb4.out⟩
                  · have hke : k = j := by omega
                    subst hke
                    have hkk : ¬ (k : Int) < (k : Int) := by omega
                    obtain ⟨hAS, hfl⟩ := hS.out.back hlt hu.out h2.out hM
                    replace hAS := Lib.hid hAS; replace hM := Lib.hid hM; replace hkb4 := Lib.hid hkb4
                    clear dkb
                    go_wp2_with fail
                    go_step3
                    refine And.intro rfl ⟨_, hfl, AlJ.intro hAS.out rfl⟩
      · have hie : i = m := by omega
        subst hie
        have hZ := Lib.hid hS.done
        have hgl := hS.mem.gm.pl
        have hgof := Lib.hid hS.gof
        have hrof := Lib.hid hS.rof
        have hM0 := Lib.hid hS.mem
        have hii : ¬ (i : Int) < (i : Int) := by omega
        have hkU : Hid (w.heap.size ≤ U2) := by have := hS.mem.u0; have := hS.mem.u1; show _ ≤ _; omega
        replace hS := Lib.hid hS
        have hle : Hid (∀ k, k ≤ i → (alN gs u k).length ≤ k * n) := by
          intro k
          induction k with
          | zero => intro _; simp [alN]
          | succ k ih =>
            intro hk
            have h1 := ih (by omega)
            have h2 := (hGB.out k (by omega)).2.1
            rw [alN_succ, List.length_append, Nat.add_mul, Nat.one_mul]
            split
            · simp; omega
            · omega
        go_wp2_with fail
        go_loopg [15, 91] i (fun gk lv kv W' => ∃ (k : Nat) (p : Option Addr) (c' : Nat), k ≤ i ∧ gk = i - k ∧ kv = .int .i64 k ∧ lv = .slice p (alN gs u k).length c' ∧ Own 3 U2 W' p (alN gs u k).length c' (asI (alN gs u k)) ∧ AlM w W' U1 U2 a b n c who q gp i gc gs gbs u rp rn rc rs rbs v)
        case atStart => exact ⟨0, none, 0, Nat.zero_le _, rfl, rfl, rfl, Own.nil _ _ _, hM0.out⟩
        case round =>
          obtain ⟨k, p, c', hk, hgk2, rfl, rfl, hO, hM⟩ := hrel
          obtain ⟨W2, rfl⟩ : ∃ W2 : World, W2 = wr := ⟨_, rfl⟩
          replace hgk2 := Lib.hid hgk2
          clear hM0
          have hlek := hle.out k hk
          have hlek2 : k * n ≤ 100 * 100 := Nat.mul_le_mul (by omega) hn
          by_cases hkt : k < i
          · obtain ⟨gg, rfl, hcell⟩ := hM.gm.at hkt
            obtain ⟨q1, c1, q2, c2, _, _, _, hgb, hgi, _, _, _⟩ := hM.gm.blk k hkt
            have dg2 : W2.cell? ⟨st gbs k, 2, none⟩ = some (.bool (bAt u k)) := wcell (cs := [_, _, _]) hgb 2
            have dg0 : W2.cell? ⟨st gbs k, 0, none⟩ = some (.slice q1 (pAt gs k).1.length c1) := wcell (cs := [_, _, _]) hgb 0
            obtain ⟨bk, hbk⟩ : ∃ bk, bk = st gbs k := ⟨_, rfl⟩
            rw [← hbk] at hcell dg2 dg0
            have hsu : Hid (alN gs u (k + 1) = alN gs u k ++ if bAt u k = true then [] else (pAt gs k).1) := alN_succ gs u k
            have f3 : (0 : Int) ≤ (k : Int) := by omega
            have f4 : (k : Int) < (i : Int) := by omega
            have hO' := Lib.hid hO; have hM' := Lib.hid hM
            replace hbk := Lib.hid hbk; replace hgb := Lib.hid hgb
            have hgpos := (hGB.out k hkt).1
            have hgln := (hGB.out k hkt).2.1
            have hBU : U2 ≤ W2.heap.size := hM.u2
            clear hO hM
            cases hu : bAt u k with
            | true =>
              rw [hu] at dg2
              have hsu2 : Hid (alN gs u (k + 1) = alN gs u k) := by show _ = _; rw [hsu.out, hu]; simp
              replace hu := Lib.hid hu
              go_wp2_with fail
              have hgk2 := hgk2.out
              go_roundg (i - (k + 1))
              case measure => omega
              case rel => exact ⟨k + 1, p, c', hkt, rfl, by go_num, by rw [hsu2.out], by rw [hsu2.out]; exact hO'.out, hM'.out⟩
            | false =>
              rw [hu] at dg2
              have hsu2 : Hid (alN gs u (k + 1) = alN gs u k ++ (pAt gs k).1) := by show _ = _; rw [hsu.out, hu]; simp
              have hln2 : Hid ((alN gs u (k + 1)).length = (alN gs u k).length + (pAt gs k).1.length) := by show _ = _; rw [hsu2.out, List.length_append]
              replace hu := Lib.hid hu
              obtain ⟨b1, o1, rfl, _, hc1⟩ := hgi.at hgpos
              have hsrc : Hid (∀ j x, ((asI (pAt gs k).1).map (Value.int .i64))[j]? = some x → W2.cell? ((⟨b1, o1, none⟩ : Addr).add j) = some x) := cells_src hc1
              have hnn : (alN gs u k).length + (pAt gs k).1.length < 1099511627776 := by omega
              replace hgi := Lib.hid hgi
              clear hc1 hlek hlek2 hgln
              go_wp2_with (at_builtin; refine wp_appendLV elI W2 rfl (.tmp 100) (.tmp 104) rfl U2 p (alN gs u k).length c' _ rfl hO'.out ⟨b1, o1, none⟩ (pAt gs k).1.length c1 _ (by simp [asI]) (all_cells _) hsrc.out rfl hnn hBU ?_; intro p9 c9 w9 hO9 hg9 hr9 hz9; replace hO9 := Lib.hid hO9; replace hg9 := Lib.hid hg9)
              have hO10 : Own 3 U2 w9 p9 ((alN gs u k).length + (pAt gs k).1.length) c9 (asI (alN gs u (k + 1))) := by
                rw [hsu2.out]
                have := hO9.out
                rw [← List.map_append, asI_append] at this
                exact this
              have hM9 := hM'.out.grown hg9.out (fun x hx => by
                cases p with
                | none => cases hx
                | some y => simp at hx; rw [← hx]; exact (hO'.out.block y rfl).1)
              rw [← hln2.out] at hO10
              have hgk2 := hgk2.out
              go_roundg (i - (k + 1))
              case measure => omega
              case rel => exact ⟨k + 1, p9, c9, hkt, rfl, by go_num, by rw [hln2.out], hO10, hM9⟩
          · have hke : k = i := by omega
            subst hke
            have hkk : ¬ (k : Int) < (k : Int) := by omega
            have HSo := Lib.hid (sort_any p (alN gs u k).length c' U2 (alN gs u k) W2 (by omega) hO)
            have hblk : Hid (∀ x, p.map (·.block) = some x → U2 ≤ x) := fun x hx => by
              cases p with
              | none => cases hx
              | some y => simp at hx; rw [← hx]; exact (hO.block y rfl).1
            have hbl := Lib.hid hM.bl
            replace hO := Lib.hid hO; replace hM := Lib.hid hM
            clear hlek hlek2
            go_wp2_with fail
            refine HSo.out.mono ?_
            rintro e W5 ⟨rfl, l', hp, _, hi5, hg5⟩
            have hbl5 := Lib.hid (hbl.out.grown hg5 hbl.out.size (fun x hx => by have := hblk.out x hx; have := hkU.out; omega))
            have hll : Hid (l'.length = (alN gs u k).length) := hp.length_eq
            replace hp := Lib.hid hp; replace hi5 := Lib.hid hi5; replace hg5 := Lib.hid hg5
            go_wp2_with fail
            refine bodyPost_ret (v := .tuple #[.slice p (alN gs u k).length c', .int .i64 0]) (by simp [results, Try.results15, go_sem]) rfl ⟨p, c', l', gs, rs, by rw [hll.out], by rw [hll.out]; exact hi5.out, hgof.out, hrof.out, by rw [hZ.out, hgl]; exact hp.out, hbl5.out⟩
  case first =>
    intro hlab
    replace hlab := Lib.hid hlab
    rcases hw with rfl | rfl
    · go_wp2_with fail
      refine HM.out.mono ?_
      rintro e w1 ⟨rfl, hB1⟩
      have k0 := (hB1.block _ (lt_of_heap e0.out)).trans e0.out
      have k1 := (hB1.block _ (lt_of_heap e1.out)).trans e1.out
      have d0 : w1.cell? ⟨w.heap.size, 0, none⟩ = some (.int .i64 (a : Int)) := wcell (cs := [_, _, _]) k0 0
      have d1 : w1.cell? ⟨w.heap.size, 1, none⟩ = some (.int .i64 (b : Int)) := wcell (cs := [_, _, _]) k0 1
      have d2 : w1.cell? ⟨w.heap.size, 2, none⟩ = some (.slice q n c) := wcell (cs := [_, _, _]) k0 2
      have dw := wcell (cs := [_]) k1 0
      replace dw : w1.cell? ⟨w.heap.size + 1, 0, none⟩ = some (.int .i64 1) := dw
      have HG1 := Lib.hid (HG.out w1 hB1)
      replace k0 := Lib.hid k0; replace k1 := Lib.hid k1; replace hB1 := Lib.hid hB1
      clear HM HG
      go_wp2_with fail
      refine HG1.out.mono ?_
      rintro e w2 ⟨gp, m, gc, gs, gbs, rfl, hmn, hPG, hOG, hB2⟩
      have hB12 := hB1.out.trans (hB2.mono hB1.out.size)
      have HR1 := Lib.hid (HR.out w2 hB12)
      have k02 := (hB2.block _ (lt_of_heap k0.out)).trans k0.out
      have d0 : w2.cell? ⟨w.heap.size, 0, none⟩ = some (.int .i64 (a : Int)) := wcell (cs := [_, _, _]) k02 0
      have d1 : w2.cell? ⟨w.heap.size, 1, none⟩ = some (.int .i64 (b : Int)) := wcell (cs := [_, _, _]) k02 1
      have d2 : w2.cell? ⟨w.heap.size, 2, none⟩ = some (.slice q n c) := wcell (cs := [_, _, _]) k02 2
      replace k02 := Lib.hid k02; replace hPG := Lib.hid hPG; replace hOG := Lib.hid hOG; replace hB12 := Lib.hid hB12; replace hB2 := Lib.hid hB2
      clear HG1 HR dw
      go_wp2_with fail
      refine HR1.out.mono ?_
      rintro e w3 ⟨rp, rn, rc, rs, rbs, rfl, hrn, hPR, hOR, hB3⟩
      have hB13 := hB12.out.trans (hB3.mono hB12.out.size)
      have hsz1 := hB1.out.size
      have hsz2 := hB2.out.size
      have hz := hz0.out
      have hAM : AlM w w3 w2.heap.size w3.heap.size a b n c 1 q gp m gc gs gbs (List.replicate m false) rp rn rc rs rbs (List.replicate rn false) :=
        ⟨(hB3.block _ (lt_of_heap k02.out)).trans k02.out, (hB3.block _ (lt_of_heap ((hB2.out.block _ (lt_of_heap k1.out)).trans k1.out))).trans ((hB2.out.block _ (lt_of_heap k1.out)).trans k1.out),
          ((hPG.out.keep fun k _ hk => hB3.block k hk).low (by omega)).flags (fun i _ => by rw [bAt_rep]; rfl), (hPR.low (by omega)).flags (fun i _ => by rw [bAt_rep]; rfl), by omega, hB3.size, Nat.le_refl _, hB0.out.trans (hB13.mono hB0.out.size)⟩
      have hAS := Lib.hid (AlS.start (s := s) hAM hOG.out hOR)
      clear hAM HR1 hPG hOG hPR hOR hB12 hB13 hB2 hB3 hB1 d0 d1 d2 k0 k1 k02
      go_wp2_with fail
      go_step3
      dsimp only [Exit.then]
      apply_assumption
      exact hlab.out _ _ _ (AlJ.intro hAS.out rfl)
    · go_wp2_with fail
      refine HM.out.mono ?_
      rintro e w1 ⟨rfl, hB1⟩
      have k0 := (hB1.block _ (lt_of_heap e0.out)).trans e0.out
      have k1 := (hB1.block _ (lt_of_heap e1.out)).trans e1.out
      have d0 : w1.cell? ⟨w.heap.size, 0, none⟩ = some (.int .i64 (a : Int)) := wcell (cs := [_, _, _]) k0 0
      have d1 : w1.cell? ⟨w.heap.size, 1, none⟩ = some (.int .i64 (b : Int)) := wcell (cs := [_, _, _]) k0 1
      have d2 : w1.cell? ⟨w.heap.size, 2, none⟩ = some (.slice q n c) := wcell (cs := [_, _, _]) k0 2
      have dw := wcell (cs := [_]) k1 0
      replace dw : w1.cell? ⟨w.heap.size + 1, 0, none⟩ = some (.int .i64 2) := dw
      have HG1 := Lib.hid (HG.out w1 hB1)
      replace k0 := Lib.hid k0; replace k1 := Lib.hid k1; replace hB1 := Lib.hid hB1
      clear HM HG
      go_wp2_with fail
      refine HG1.out.mono ?_
      rintro e w2 ⟨gp, m, gc, gs, gbs, rfl, hmn, hPG, hOG, hB2⟩
      have hB12 := hB1.out.trans (hB2.mono hB1.out.size)
      have HR1 := Lib.hid (HR.out w2 hB12)
      have k02 := (hB2.block _ (lt_of_heap k0.out)).trans k0.out
      have d0 : w2.cell? ⟨w.heap.size, 0, none⟩ = some (.int .i64 (a : Int)) := wcell (cs := [_, _, _]) k02 0
      have d1 : w2.cell? ⟨w.heap.size, 1, none⟩ = some (.int .i64 (b : Int)) := wcell (cs := [_, _, _]) k02 1
      have d2 : w2.cell? ⟨w.heap.size, 2, none⟩ = some (.slice q n c) := wcell (cs := [_, _, _]) k02 2
      replace k02 := Lib.hid k02; replace hPG := Lib.hid hPG; replace hOG := Lib.hid hOG; replace hB12 := Lib.hid hB12; replace hB2 := Lib.hid hB2
      clear HG1 HR dw
      go_wp2_with fail
      refine HR1.out.mono ?_
      rintro e w3 ⟨rp, rn, rc, rs, rbs, rfl, hrn, hPR, hOR, hB3⟩
      have hB13 := hB12.out.trans (hB3.mono hB12.out.size)
      have hsz1 := hB1.out.size
      have hsz2 := hB2.out.size
      have hz := hz0.out
      have hAM : AlM w w3 w2.heap.size w3.heap.size a b n c 2 q gp m gc gs gbs (List.replicate m false) rp rn rc rs rbs (List.replicate rn false) :=
        ⟨(hB3.block _ (lt_of_heap k02.out)).trans k02.out, (hB3.block _ (lt_of_heap ((hB2.out.block _ (lt_of_heap k1.out)).trans k1.out))).trans ((hB2.out.block _ (lt_of_heap k1.out)).trans k1.out),
          ((hPG.out.keep fun k _ hk => hB3.block k hk).low (by omega)).flags (fun i _ => by rw [bAt_rep]; rfl), (hPR.low (by omega)).flags (fun i _ => by rw [bAt_rep]; rfl), by omega, hB3.size, Nat.le_refl _, hB0.out.trans (hB13.mono hB0.out.size)⟩
      have hAS := Lib.hid (AlS.start (s := s) hAM hOG.out hOR)
      clear hAM HR1 hPG hOG hPR hOR hB12 hB13 hB2 hB3 hB1 d0 d1 d2 k0 k1 k02
      go_wp2_with fail
      go_step3
      dsimp only [Exit.then]
      apply_assumption
      exact hlab.out _ _ _ (AlJ.intro hAS.out rfl)
end Go.Proofs.Ytefjliblaeadfaa
