import Derived.Test.YtcibkchfdiijfaaHxM
import Derived.BigQuiet
import Derived.Deep.RegionLaw
import Derived.Deep.Cut
/- hex.Shortest's closures: what a place costs; a place is put into a round; conditions stand in each. -/
namespace Go.Proofs.Ytcibkchfdiijfaa
open Go.RowKit Go.Shelf

/-- what Shortest's closures read and write. Z: the blocks that no round's row lies in. -/
structure Ps (n who N gc fc : Nat) (gp : Option Addr) (s : List Nat) (Gb Wb Fb F Rb : Nat) (Z : Nat → Prop) (W : World) (far : Nat → Int) (R : List (List Nat)) : Prop where
  gb : W.heap[Gb]? = some (.cells #[.int .i64 (n : Int), .int .i64 (n : Int), .slice gp N gc] 24 (0, 0))
  wb : W.heap[Wb]? = some (.cells #[.int .i64 (who : Int)] 3 (0, 0))
  fb : W.heap[Fb]? = some (.cells #[.slice (some ⟨F, 0, none⟩) N fc] 22 (0, 0))
  fr : Nums W F 3 ((List.range N).map far)
  rd : ∃ q l c P C, W.heap[Rb]? = some (.cells #[.slice q l c] 46 (0, 0)) ∧ Rds Z W q l c R P C
  gs : IntsIn W gp N (asI s)
  zs : Z Gb ∧ Z Wb ∧ Z Fb ∧ Z F ∧ Z Rb ∧ ∀ a, gp = some a → Z a.block
  ne : Gb ≠ F ∧ Wb ≠ F ∧ Fb ≠ F ∧ Rb ≠ F ∧ Gb ≠ Rb ∧ Wb ≠ Rb ∧ Fb ≠ Rb ∧ ∀ a, gp = some a → a.block ≠ F ∧ a.block ≠ Rb
/-- what a put leaves: all blocks of Z but the row of lengths and the box of the rounds. -/
structure Pk (F Rb : Nat) (Z : Nat → Prop) (A B : World) : Prop where
  os : B.os = A.os
  tape : B.tape = A.tape
  output : B.output = A.output
  size : A.heap.size ≤ B.heap.size
  block : ∀ k, Z k → k ≠ F → k ≠ Rb → B.heap[k]? = A.heap[k]?
  oth : KeepsOthers A B
theorem Pk.refl (F Rb : Nat) (Z : Nat → Prop) (A : World) : Pk F Rb Z A A := ⟨rfl, rfl, rfl, Nat.le_refl _, fun _ _ _ _ => rfl, ⟨Nat.le_refl _, fun _ _ h _ => h⟩⟩
theorem Pk.trans {F Rb : Nat} {Z : Nat → Prop} {A B C : World} (h : Pk F Rb Z A B) (k : Pk F Rb Z B C) : Pk F Rb Z A C :=
  ⟨k.os.trans h.os, k.tape.trans h.tape, k.output.trans h.output, Nat.le_trans h.size k.size, fun i hi h1 h2 => (k.block i hi h1 h2).trans (h.block i hi h1 h2), h.oth.trans k.oth⟩
theorem Pk.drewN {F Rb : Nat} {Z : Nat → Prop} {A B : World} (h : Pk F Rb Z A B) (r : Nat) : Pk F Rb Z A (B.drewN r) := ⟨h.os, h.tape, h.output, h.size, h.block, ⟨h.oth.1, h.oth.2⟩⟩
theorem Ps.same {n who N gc fc Gb Wb Fb F Rb : Nat} {gp : Option Addr} {s : List Nat} {Z : Nat → Prop} {W W' : World} {far : Nat → Int} {R : List (List Nat)} (h : Ps n who N gc fc gp s Gb Wb Fb F Rb Z W far R) (hb : W'.heap = W.heap) : Ps n who N gc fc gp s Gb Wb Fb F Rb Z W' far R := by
  obtain ⟨q, l, c, P, C, h1, h2⟩ := h.rd
  exact ⟨by rw [hb]; exact h.gb, by rw [hb]; exact h.wb, by rw [hb]; exact h.fb, by show W'.heap[F]? = _; rw [hb]; exact h.fr, ⟨q, l, c, P, C, by rw [hb]; exact h1, h2.keep fun k _ _ => by rw [hb]⟩, h.gs.keep (by rw [hb]; exact Nat.le_refl _) fun _ _ _ => by rw [hb], h.zs, h.ne⟩
theorem Ps.below {n who N gc fc Gb Wb Fb F Rb : Nat} {gp : Option Addr} {s : List Nat} {Z : Nat → Prop} {W W' : World} {far : Nat → Int} {R : List (List Nat)} (h : Ps n who N gc fc gp s Gb Wb Fb F Rb Z W far R) (hb : Below W.heap.size W W') : Ps n who N gc fc gp s Gb Wb Fb F Rb Z W' far R := by
  obtain ⟨q, l, c, P, C, h1, h2⟩ := h.rd
  exact ⟨(hb.block _ (lt_of_heap h.gb)).trans h.gb, (hb.block _ (lt_of_heap h.wb)).trans h.wb, (hb.block _ (lt_of_heap h.fb)).trans h.fb, (hb.block _ h.fr.lt).trans h.fr, ⟨q, l, c, P, C, (hb.block _ (lt_of_heap h1)).trans h1, h2.keep fun k hk _ => hb.block k hk⟩, h.gs.below hb, h.zs, h.ne⟩
/-- a block that is none of theirs is turned. -/
theorem Ps.grown {n who N gc fc Gb Wb Fb F Rb j : Nat} {gp : Option Addr} {s : List Nat} {Z : Nat → Prop} {W W' : World} {far : Nat → Int} {R : List (List Nat)} (h : Ps n who N gc fc gp s Gb Wb Fb F Rb Z W far R) (hg : W.grownBy W' (some j)) (hN0 : 0 < N)
    (hj : Z j) (h0 : j ≠ Gb ∧ j ≠ Wb ∧ j ≠ Fb ∧ j ≠ F ∧ j ≠ Rb ∧ ∀ a, gp = some a → j ≠ a.block) : Ps n who N gc fc gp s Gb Wb Fb F Rb Z W' far R := by
  obtain ⟨q, l, c, P, C, h1, h2⟩ := h.rd
  obtain ⟨n1, n2, n3, n4, n5, n6⟩ := h0
  have ne : ∀ k, j ≠ k → some k ≠ some j := fun k h e => by injection e with e; exact h e.symm
  exact ⟨(hg.block _ (lt_of_heap h.gb) (ne _ n1)).trans h.gb, (hg.block _ (lt_of_heap h.wb) (ne _ n2)).trans h.wb, (hg.block _ (lt_of_heap h.fb) (ne _ n3)).trans h.fb, (hg.block _ h.fr.lt (ne _ n4)).trans h.fr,
    ⟨q, l, c, P, C, (hg.block _ (lt_of_heap h1) (ne _ n5)).trans h1, h2.keep fun k hk hz => hg.block k hk (ne _ fun e => hz (by rw [← e]; exact hj))⟩, h.gs.keep hg.size fun b o e => hg.block b (by
      obtain ⟨b2, o2, e2, hb2, _⟩ := h.gs.at hN0; rw [e] at e2; cases e2; exact hb2) (ne _ (n6 _ e)), h.zs, h.ne⟩
theorem map_set {N p : Nat} {far : Nat → Int} {v : Int} : ((List.range N).map far).set p v = (List.range N).map (fupd far p v) := by
  apply List.ext_getElem?
  intro j
  rw [List.getElem?_set]
  by_cases hj : j < N
  · by_cases e : p = j
    · subst e; simp [hj, fupd]
    · have hne : j ≠ p := fun h => e h.symm
      rw [if_neg e]; simp [hj, fupd, hne]
  · have h2 : ((List.range N).map (fupd far p v))[j]? = none := List.getElem?_eq_none (by simp; omega)
    have h3 : ((List.range N).map far)[j]? = none := List.getElem?_eq_none (by simp; omega)
    rw [h2, h3]
    by_cases e : p = j
    · rw [if_pos e, if_neg (by simp; omega)]
    · rw [if_neg e]
theorem map_at {N p : Nat} {far : Nat → Int} (h : p < N) : ((List.range N).map far)[p]?.getD 0 = far p := by simp [h]

section
variable {n who N gc fc Gb Wb Fb F Rb : Nat} {gp : Option Addr} {s : List Nat} {Z : Nat → Prop} {W W' : World} {far : Nat → Int} {R : List (List Nat)}
theorem Ps.setF (h : Ps n who N gc fc gp s Gb Wb Fb F Rb Z W far R) (p : Nat) (v : Int) : Ps n who N gc fc gp s Gb Wb Fb F Rb Z (W.setCell ⟨F, p, none⟩ (.int .i64 v)) (fupd far p v) R ∧ Pk F Rb Z W (W.setCell ⟨F, p, none⟩ (.int .i64 v)) := by
  obtain ⟨q, l, c, P, C, h1, h2⟩ := h.rd
  obtain ⟨z1, z2, z3, z4, z5, z6⟩ := h.zs
  obtain ⟨n1, n2, n3, n4, n5, n6, n7, n8⟩ := h.ne
  have hb : ∀ k, k ≠ F → (W.setCell ⟨F, p, none⟩ (.int .i64 v)).heap[k]? = W.heap[k]? := fun k hk => Below.heap_setCell W ⟨F, p, none⟩ _ k hk
  have hz : (W.setCell ⟨F, p, none⟩ (.int .i64 v)).heap.size = W.heap.size := by simp [World.setCell]
  refine ⟨⟨(hb _ n1).trans h.gb, (hb _ n2).trans h.wb, (hb _ n3).trans h.fb, ?_, ⟨q, l, c, P, C, (hb _ n4).trans h1, h2.keep fun k _ hk => hb _ fun e => hk (by rw [e]; exact z4)⟩, h.gs.keep (by omega) fun b' o' e => hb b' (n8 _ e).1, h.zs, h.ne⟩, rfl, rfl, rfl, by omega, fun k _ hk _ => hb k hk, KeepsOthers.setCell _ _ _⟩
  have := h.fr.set p v
  rwa [map_set] at this
theorem nmap {q : Option Addr} {k : Nat} (h : ∀ a, q = some a → a.block ≠ k) : some k ≠ q.map (·.block) := fun e => by
  cases q with
  | none => cases e
  | some a => simp at e; exact h a rfl e.symm
theorem oth_of {E k B : Nat} {q : Option Addr} {l c : Nat} {vs : List Value} (h : OwnC E k B W q l c vs) (hg : W.grownBy W' (q.map (·.block))) : KeepsOthers W W' := by
  refine KeepsOthers.of_grownBy hg fun j o ej hj => ?_
  cases q with
  | none => cases ej
  | some a =>
    simp at ej
    obtain ⟨cur, hc⟩ := own_cells h a rfl
    rw [← ej, hc] at hj
    cases hj; rfl
/-- behind an append to the row of rounds, and behind one to a round: all but these as it was. -/
theorem Ps.rowed (h : Ps n who N gc fc gp s Gb Wb Fb F Rb Z W far R) (hN0 : 0 < N) {p : Option Addr} (hp : ∀ a, p = some a → ¬ Z a.block) (hg : W.grownBy W' (p.map (·.block))) :
    W'.heap[Gb]? = some (.cells #[.int .i64 (n : Int), .int .i64 (n : Int), .slice gp N gc] 24 (0, 0)) ∧ W'.heap[Wb]? = some (.cells #[.int .i64 (who : Int)] 3 (0, 0)) ∧ W'.heap[Fb]? = some (.cells #[.slice (some ⟨F, 0, none⟩) N fc] 22 (0, 0)) ∧ Nums W' F 3 ((List.range N).map far) ∧ W'.heap[Rb]? = W.heap[Rb]? ∧ IntsIn W' gp N (asI s) ∧ ∀ k, k < W.heap.size → Z k → W'.heap[k]? = W.heap[k]? := by
  obtain ⟨q, l, c, P, C, h1, h2⟩ := h.rd
  obtain ⟨z1, z2, z3, z4, z5, z6⟩ := h.zs
  have hk : ∀ k, k < W.heap.size → Z k → W'.heap[k]? = W.heap[k]? := fun k hk hz => hg.block k hk (nmap fun a ha e => hp a ha (by rw [e]; exact hz))
  exact ⟨(hk _ (lt_of_heap h.gb) z1).trans h.gb, (hk _ (lt_of_heap h.wb) z2).trans h.wb, (hk _ (lt_of_heap h.fb) z3).trans h.fb, (hk _ h.fr.lt z4).trans h.fr, hk _ (lt_of_heap h1) z5, h.gs.keep hg.size fun b' o' e => hk _ (by
    obtain ⟨b2, o2, e2, hb2, _⟩ := h.gs.at hN0; rw [e] at e2; cases e2; exact hb2) (z6 _ e), hk⟩
theorem Ps.pushed (h : Ps n who N gc fc gp s Gb Wb Fb F Rb Z W far R) (hN0 : 0 < N) (hZ : ∀ k, Z k → k < W.heap.size) {q q' : Option Addr} {l c c' : Nat} {P : Nat → Option Addr} {C : Nat → Nat} (h2 : Rds Z W q l c R P C)
    (hO : OwnC 22 1 0 W' q' (l + 1) c' (rowsV R P C ++ [.slice none 0 0])) (hg : W.grownBy W' (q.map (·.block))) (hor : q'.map (·.block) = q.map (·.block) ∨ ∀ a', q' = some a' → W.heap.size ≤ a'.block) :
    Ps n who N gc fc gp s Gb Wb Fb F Rb Z (W'.setCell ⟨Rb, 0, none⟩ (.slice q' (l + 1) c')) far (R ++ [[]]) ∧ Pk F Rb Z W (W'.setCell ⟨Rb, 0, none⟩ (.slice q' (l + 1) c')) := by
  obtain ⟨q0, l0, c0, P0, C0, k1, k2⟩ := h.rd
  obtain ⟨z1, z2, z3, z4, z5, z6⟩ := h.zs
  obtain ⟨n1, n2, n3, n4, n5, n6, n7, n8⟩ := h.ne
  obtain ⟨a1, a2, a3, a4, a5, a6, a7⟩ := h.rowed hN0 h2.qz hg
  have hb : ∀ k, k ≠ Rb → (W'.setCell ⟨Rb, 0, none⟩ (.slice q' (l + 1) c')).heap[k]? = W'.heap[k]? := fun k hk => Below.heap_setCell W' ⟨Rb, 0, none⟩ _ k hk
  have hz : (W'.setCell ⟨Rb, 0, none⟩ (.slice q' (l + 1) c')).heap.size = W'.heap.size := by simp [World.setCell]
  have hrb := a5.trans k1
  have hset := wset hrb 0 (.slice q' (l + 1) c')
  refine ⟨⟨(hb _ n5).trans a1, (hb _ n6).trans a2, (hb _ n7).trans a3, (hb _ (fun e => n4 e.symm)).trans a4, ⟨q', l + 1, c', _, _, by simpa using hset, (h2.push hO hg hor hZ).keep fun k _ hk => hb _ fun e => hk (by rw [e]; exact z5)⟩, a6.keep (by omega) fun b' o' e => hb b' (n8 _ e).2, h.zs, h.ne⟩, hg.os, hg.tape, hg.output, by have := hg.size; omega, fun k hk _ hr => (hb k hr).trans (a7 k (hZ k hk) hk), (oth_of h2.row hg).trans (KeepsOthers.setCell _ _ _)⟩
theorem Ps.app (h : Ps n who N gc fc gp s Gb Wb Fb F Rb Z W far R) (hN0 : 0 < N) (hZ : ∀ k, Z k → k < W.heap.size) {qg l c m g c' x : Nat} {P : Nat → Option Addr} {C : Nat → Nat} (hrb : W.heap[Rb]? = some (.cells #[.slice (some ⟨qg, 0, none⟩) l c] 46 (0, 0))) (h2 : Rds Z W (some ⟨qg, 0, none⟩) l c R P C) (hm : m < l)
    (hO : Own 3 0 W' (some ⟨g, 0, none⟩) ((Rm R m).length + 1) c' (asI (Rm R m) ++ [(x : Int)])) (hg : W.grownBy W' ((P m).map (·.block))) (hor : (P m).map (·.block) = some g ∨ g = W.heap.size) :
    Ps n who N gc fc gp s Gb Wb Fb F Rb Z (W'.setCell ⟨qg, m, none⟩ (.slice (some ⟨g, 0, none⟩) ((Rm R m).length + 1) c')) far (R.set m (Rm R m ++ [x])) ∧ Pk F Rb Z W (W'.setCell ⟨qg, m, none⟩ (.slice (some ⟨g, 0, none⟩) ((Rm R m).length + 1) c')) := by
  obtain ⟨z1, z2, z3, z4, z5, z6⟩ := h.zs
  obtain ⟨a1, a2, a3, a4, a5, a6, a7⟩ := h.rowed hN0 (fun a ha => h2.pz m a hm ha) hg
  have hqz := h2.qz _ rfl
  have hb : ∀ k, Z k → (W'.setCell ⟨qg, m, none⟩ (.slice (some ⟨g, 0, none⟩) ((Rm R m).length + 1) c')).heap[k]? = W'.heap[k]? := fun k hk => Below.heap_setCell W' ⟨qg, m, none⟩ _ k (fun e => hqz (by rw [← show k = qg from e]; exact hk))
  have hz : (W'.setCell ⟨qg, m, none⟩ (.slice (some ⟨g, 0, none⟩) ((Rm R m).length + 1) c')).heap.size = W'.heap.size := by simp [World.setCell]
  refine ⟨⟨(hb _ z1).trans a1, (hb _ z2).trans a2, (hb _ z3).trans a3, (hb _ z4).trans a4, ⟨some ⟨qg, 0, none⟩, l, c, _, _, (hb _ z5).trans (a5.trans hrb), h2.app hm hO hg hor hZ⟩, a6.keep (by omega) fun b' o' e => hb b' (z6 _ e), h.zs, h.ne⟩, hg.os, hg.tape, hg.output, by have := hg.size; omega, fun k hk _ _ => (hb k hk).trans (a7 k (hZ k hk) hk), (oth_of (k := 1) (h2.own m hm) hg).trans (KeepsOthers.setCell _ _ _)⟩
end
theorem cost_any (n who N gc fc Gb Wb Fb F Rb p : Nat) (gp : Option Addr) (s : List Nat) (Z : Nat → Prop) (far : Nat → Int) (R : List (List Nat)) (w : World) (h : Ps n who N gc fc gp s Gb Wb Fb F Rb Z w far R) (hp : p < N) (hN : N ≤ 100) (h2 : ∀ j, st s j ≤ 2) :
    Calls Try.prog 18 #[.int .i64 (p : Int), .pointer (some ⟨Gb, 0, none⟩)] w fun e w' => e = .returned (.int .i64 (costS s p : Nat)) ∧ w = w' := by
  have c2 := wcell (cs := [_, _, _]) h.gb 2
  obtain ⟨b, o, rfl, hb, hc⟩ := h.gs.at (by omega)
  have cp := hc p hp
  rw [asI_at] at cp
  have hle := h2 p
  have e1 : ((costS s p : Nat) : Int) = 1 - ((min (st s p) 1 : Nat) : Int) := by unfold costS; omega
  rw [e1]
  simp only [List.getElem?_cons_zero, List.getElem?_cons_succ] at c2
  generalize st s p = x at *
  clear h hc e1
  go_enter Try.func18, Try.ntmps18
  go_wp2_with fail
  all_goals go_ret
  all_goals exact ⟨ret_int (by omega), rfl⟩
end Go.Proofs.Ytcibkchfdiijfaa
