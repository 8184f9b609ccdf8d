/- Plain law: on five places in a row, two stones of one player with three eyes are alive, both; no program's step in sight. -/
import Derived.Test.YtefjliblaeadfaaAlv
namespace Go.Proofs.Ytefjliblaeadfaa

/-- the parts as the plain law tells them. -/
def ptsC (so : Nat → Bool) (s : List Nat) (a : Nat) (rs : List Nat) : List Pt := rs.map fun r => ((spread so s a r).inn, (spread so s a r).bd)
theorem ptsC_of (so : Nat → Bool) (s : List Nat) (a : Nat) (rs : List Nat) : PtsOf so s a rs (ptsC so s a rs) := by
  refine ⟨by simp [ptsC], fun i hi => ?_⟩
  have e : pAt (ptsC so s a rs) i = ((spread so s a (st rs i)).inn, (spread so s a (st rs i)).bd) := by
    unfold pAt ptsC st; rw [List.getElem?_map, List.getElem?_eq_getElem hi]; rfl
  rw [e]; exact ⟨List.Perm.refl _, List.Perm.refl _⟩
theorem pts_like {so : Nat → Bool} {s : List Nat} {a : Nat} {rs : List Nat} {ps qs : List Pt} (h : PtsOf so s a rs ps) (k : PtsOf so s a rs qs) (i : Nat) : (pAt ps i).1.Perm (pAt qs i).1 ∧ (pAt ps i).2.Perm (pAt qs i).2 := by
  by_cases hi : i < rs.length
  · exact ⟨(h.2 i hi).1.trans (k.2 i hi).1.symm, (h.2 i hi).2.trans (k.2 i hi).2.symm⟩
  · have e1 : pAt ps i = ([], []) := by unfold pAt; rw [List.getElem?_eq_none (by rw [h.1]; omega)]; rfl
    have e2 : pAt qs i = ([], []) := by unfold pAt; rw [List.getElem?_eq_none (by rw [k.1]; omega)]; rfl
    rw [e1, e2]; exact ⟨List.Perm.refl _, List.Perm.refl _⟩
theorem vital_like {s : List Nat} {r r' g g' : Pt} (h1 : r.1.Perm r'.1) (h2 : g.2.Perm g'.2) : vitalS s r g = vitalS s r' g' := by
  rw [Bool.eq_iff_iff, vital_iff, vital_iff]
  refine and_congr ⟨fun ⟨p, hp, h⟩ => ⟨p, h1.mem_iff.1 hp, h⟩, fun ⟨p, hp, h⟩ => ⟨p, h1.mem_iff.2 hp, h⟩⟩ ⟨fun h p hp h0 => h2.mem_iff.1 (h p (h1.mem_iff.2 hp) h0), fun h p hp h0 => h2.mem_iff.2 (h p (h1.mem_iff.1 hp) h0)⟩
theorem touch_like {r r' g g' : Pt} (h1 : r.2.Perm r'.2) (h2 : g.1.Perm g'.1) : touchS r g = touchS r' g' := by
  unfold touchS
  rw [Bool.eq_iff_iff, List.any_eq_true, List.any_eq_true]
  exact ⟨fun ⟨p, hp, h⟩ => ⟨p, h1.mem_iff.1 hp, by simpa using h2.mem_iff.1 (by simpa using h)⟩, fun ⟨p, hp, h⟩ => ⟨p, h1.mem_iff.2 hp, by simpa using h2.mem_iff.2 (by simpa using h)⟩⟩
theorem alZ_like {so so' : Nat → Bool} {s : List Nat} {a : Nat} {R R' : List Nat} {gs gs' rs rs' : List Pt} (h1 : PtsOf so s a R gs) (h2 : PtsOf so s a R gs') (h3 : PtsOf so' s a R' rs) (h4 : PtsOf so' s a R' rs') : alZ0 s gs rs = alZ0 s gs' rs' := by
  unfold alZ0 alZ
  have e1 : gs.length = gs'.length := by rw [h1.1, h2.1]
  have e2 : rs.length = rs'.length := by rw [h3.1, h4.1]
  have eV : (fun j i => vitalS s (pAt rs j) (pAt gs i)) = fun j i => vitalS s (pAt rs' j) (pAt gs' i) := by
    funext j i; exact vital_like (pts_like h3 h4 j).1 (pts_like h1 h2 i).2
  have eT : (fun j i => touchS (pAt rs j) (pAt gs i)) = fun j i => touchS (pAt rs' j) (pAt gs' i) := by
    funext j i; exact touch_like (pts_like h3 h4 j).2 (pts_like h1 h2 i).1
  rw [e1, e2, eV, eT]
theorem alN_len {gs gs' : List Pt} (h : ∀ i, (pAt gs i).1.Perm (pAt gs' i).1) (u : List Bool) : ∀ k, (alN gs u k).length = (alN gs' u k).length := by
  intro k
  induction k with
  | zero => rfl
  | succ k ih => rw [alN_succ, alN_succ, List.length_append, List.length_append, ih]; split <;> simp [(h k).length_eq]
theorem five_alive : (alN (ptsC (fun x => x == 1) [0, 1, 0, 1, 0] 5 (rootsN (fun x => x == 1) [0, 1, 0, 1, 0] 5 5)) (alZ0 [0, 1, 0, 1, 0] (ptsC (fun x => x == 1) [0, 1, 0, 1, 0] 5 (rootsN (fun x => x == 1) [0, 1, 0, 1, 0] 5 5)) (ptsC (fun x => x != 1) [0, 1, 0, 1, 0] 5 (rootsN (fun x => x != 1) [0, 1, 0, 1, 0] 5 5))).1 (ptsC (fun x => x == 1) [0, 1, 0, 1, 0] 5 (rootsN (fun x => x == 1) [0, 1, 0, 1, 0] 5 5)).length).length = 2 := by decide +kernel
theorem five_two {gs rs : List Pt} {l : List Nat} (hg : PtsOf (fun x => x == 1) [0, 1, 0, 1, 0] 5 (rootsN (fun x => x == 1) [0, 1, 0, 1, 0] 5 5) gs) (hr : PtsOf (fun x => x != 1) [0, 1, 0, 1, 0] 5 (rootsN (fun x => x != 1) [0, 1, 0, 1, 0] 5 5) rs) (h : l.Perm (alN gs (alZ0 [0, 1, 0, 1, 0] gs rs).1 gs.length)) : l.length = 2 := by
  have k1 := ptsC_of (fun x => x == 1) [0, 1, 0, 1, 0] 5 (rootsN (fun x => x == 1) [0, 1, 0, 1, 0] 5 5)
  have k2 := ptsC_of (fun x => x != 1) [0, 1, 0, 1, 0] 5 (rootsN (fun x => x != 1) [0, 1, 0, 1, 0] 5 5)
  rw [h.length_eq, alZ_like hg k1 hr k2, alN_len (fun i => (pts_like hg k1 i).1), show gs.length = (ptsC (fun x => x == 1) [0, 1, 0, 1, 0] 5 (rootsN (fun x => x == 1) [0, 1, 0, 1, 0] 5 5)).length by rw [hg.1, k1.1]]
  exact five_alive
/-- what is told alive has its two regions. -/
theorem alive_F {a b n who : Nat} {s : List Nat} {gs rs : List Pt} (hab : s.length = a * b) (hn : s.length = n) (hg : PtsOf (fun x => x == who) s a (rootsN (fun x => x == who) s a n) gs) (hr : PtsOf (fun x => x != who) s a (rootsN (fun x => x != who) s a n) rs) :
    Brd a b who s gs rs ∧ AlF gs.length rs.length (fun j i => vitalS s (pAt rs j) (pAt gs i)) (fun j i => touchS (pAt rs j) (pAt gs i)) (alZ0 s gs rs).1 (alZ0 s gs rs).2 := by
  subst hn
  refine ⟨brd_of hab hg hr, ?_⟩
  unfold alZ0 alZ
  refine aloop_F _ _ _ _ (by rw [falses_rep]; omega) (Nat.zero_le _) ⟨by simp, by simp, fun i j _ _ h => by rw [bAt_rep] at h; cases h⟩ fun x hx => by omega
end Go.Proofs.Ytefjliblaeadfaa
