import Derived.Test.YtcibkchfdiijfaaHxI
import Derived.Test.YtcibkchfdiijfaaHxZ
/- The rounds of hex.Shortest: frames and what holds; conditions: those typed. -/
namespace Go.Proofs.Ytcibkchfdiijfaa
open Go.RowKit Go.Shelf

def Zn (Y Nb : Nat) (k : Nat) : Prop := k < Y + 4 ∨ k = Nb
def Zx (Y Nb X : Nat) (k : Nat) : Prop := k < Y + 4 ∨ k = Nb ∨ k = X ∨ k = X + 3
structure Lw (n who N gc : Nat) (gp : Option Addr) (s : List Nat) (w : World) (F Y : Nat) (W : World) (x Nb : Nat) (ms : List Nat) (far : Nat → Int) (R : List (List Nat)) : Prop where
  px : Px n who N gc gp s w F Y (Zn Y Nb) W far R
  nb : W.heap[Nb]? = some (.cells #[.int .i64 (x : Int)] 3 (0, 0))
  nY : Y + 4 ≤ Nb
  mrk : Mk w.heap.size ms W
theorem Lw.drewN {n who N gc : Nat} {gp : Option Addr} {s : List Nat} {w : World} {F Y : Nat} {W : World} {x Nb : Nat} {ms : List Nat} {far : Nat → Int} {R : List (List Nat)} (h : Lw n who N gc gp s w F Y W x Nb ms far R) (r : Nat) : Lw n who N gc gp s w F Y (W.drewN r) x Nb ms far R :=
  ⟨h.px.same rfl rfl rfl rfl, h.nb, h.nY, ⟨h.mrk.1, h.mrk.2⟩⟩
def GL (n who N gc : Nat) (gp : Option Addr) (s : List Nat) (w : World) (F Y : Nat) (g : Nat) (a : Act) (W : World) : Prop :=
  ∃ (ff : Nat → Value) (ms : List Nat) (x Nb : Nat) (far : Nat → Int) (R : List (List Nat)), a = { tmps := #[ff 0, ff 1, .pointer (some ⟨w.heap.size, 0, none⟩), .pointer (some ⟨w.heap.size + 1, 0, none⟩), ff 4, ff 5, ff 6, .pointer (some ⟨Y, 0, none⟩), .pointer (some ⟨Y + 1, 0, none⟩), .pointer (some ⟨Y + 1 + 1, 0, none⟩), .pointer (some ⟨Y + 1 + 1 + 1, 0, none⟩), ff 11, .pointer (some ⟨Nb, 0, none⟩), ff 13, ff 14, ff 15, ff 16, ff 17, ff 18, ff 19, ff 20, ff 21, ff 22, ff 23, ff 24, ff 25, ff 26, ff 27, ff 28, ff 29, ff 30, ff 31, ff 32, ff 33, ff 34, ff 35, ff 36, ff 37, ff 38, ff 39, ff 40, ff 41, ff 42, ff 43, ff 44, ff 45, ff 46, ff 47, ff 48, ff 49, ff 50, ff 51, ff 52, ff 53, ff 54, ff 55, ff 56, ff 57, ff 58, ff 59, ff 60, ff 61, ff 62, ff 63, ff 64, ff 65, ff 66, ff 67, ff 68, ff 69, ff 70, ff 71, ff 72, ff 73, ff 74, ff 75, ff 76, ff 77, ff 78, ff 79, ff 80, ff 81, ff 82, ff 83, ff 84, ff 85, ff 86, ff 87, ff 88, ff 89, ff 90, ff 91, ff 92, ff 93, ff 94, ff 95, ff 96, ff 97, ff 98, ff 99], defers := mks ms } ∧ g = N + 3 - x ∧ x ≤ N + 2 ∧ Lw n who N gc gp s w F Y W x Nb ms far R ∧
    (x < R.length → Sr n who s x 0 far R) ∧ (R.length ≤ x → ∀ p c, Rc n who s p c → alongS n who p ≠ n - 1)
theorem GL.intro {n who N gc : Nat} {gp : Option Addr} {s : List Nat} {w : World} {F Y : Nat} {g : Nat} {a : Act} {W : World} (ms : List Nat) (x Nb : Nat) (far : Nat → Int) (R : List (List Nat)) (h : Lw n who N gc gp s w F Y W x Nb ms far R)
    (h1 : x < R.length → Sr n who s x 0 far R) (h2 : R.length ≤ x → ∀ p c, Rc n who s p c → alongS n who p ≠ n - 1) (hg : g = N + 3 - x) (hx : x ≤ N + 2) (ha : a = { tmps := #[(a.tmps[0]?.getD undef), (a.tmps[1]?.getD undef), .pointer (some ⟨w.heap.size, 0, none⟩), .pointer (some ⟨w.heap.size + 1, 0, none⟩), (a.tmps[4]?.getD undef), (a.tmps[5]?.getD undef), (a.tmps[6]?.getD undef), .pointer (some ⟨Y, 0, none⟩), .pointer (some ⟨Y + 1, 0, none⟩), .pointer (some ⟨Y + 1 + 1, 0, none⟩), .pointer (some ⟨Y + 1 + 1 + 1, 0, none⟩), (a.tmps[11]?.getD undef), .pointer (some ⟨Nb, 0, none⟩), (a.tmps[13]?.getD undef), (a.tmps[14]?.getD undef), (a.tmps[15]?.getD undef), (a.tmps[16]?.getD undef), (a.tmps[17]?.getD undef), (a.tmps[18]?.getD undef), (a.tmps[19]?.getD undef), (a.tmps[20]?.getD undef), (a.tmps[21]?.getD undef), (a.tmps[22]?.getD undef), (a.tmps[23]?.getD undef), (a.tmps[24]?.getD undef), (a.tmps[25]?.getD undef), (a.tmps[26]?.getD undef), (a.tmps[27]?.getD undef), (a.tmps[28]?.getD undef), (a.tmps[29]?.getD undef), (a.tmps[30]?.getD undef), (a.tmps[31]?.getD undef), (a.tmps[32]?.getD undef), (a.tmps[33]?.getD undef), (a.tmps[34]?.getD undef), (a.tmps[35]?.getD undef), (a.tmps[36]?.getD undef), (a.tmps[37]?.getD undef), (a.tmps[38]?.getD undef), (a.tmps[39]?.getD undef), (a.tmps[40]?.getD undef), (a.tmps[41]?.getD undef), (a.tmps[42]?.getD undef), (a.tmps[43]?.getD undef), (a.tmps[44]?.getD undef), (a.tmps[45]?.getD undef), (a.tmps[46]?.getD undef), (a.tmps[47]?.getD undef), (a.tmps[48]?.getD undef), (a.tmps[49]?.getD undef), (a.tmps[50]?.getD undef), (a.tmps[51]?.getD undef), (a.tmps[52]?.getD undef), (a.tmps[53]?.getD undef), (a.tmps[54]?.getD undef), (a.tmps[55]?.getD undef), (a.tmps[56]?.getD undef), (a.tmps[57]?.getD undef), (a.tmps[58]?.getD undef), (a.tmps[59]?.getD undef), (a.tmps[60]?.getD undef), (a.tmps[61]?.getD undef), (a.tmps[62]?.getD undef), (a.tmps[63]?.getD undef), (a.tmps[64]?.getD undef), (a.tmps[65]?.getD undef), (a.tmps[66]?.getD undef), (a.tmps[67]?.getD undef), (a.tmps[68]?.getD undef), (a.tmps[69]?.getD undef), (a.tmps[70]?.getD undef), (a.tmps[71]?.getD undef), (a.tmps[72]?.getD undef), (a.tmps[73]?.getD undef), (a.tmps[74]?.getD undef), (a.tmps[75]?.getD undef), (a.tmps[76]?.getD undef), (a.tmps[77]?.getD undef), (a.tmps[78]?.getD undef), (a.tmps[79]?.getD undef), (a.tmps[80]?.getD undef), (a.tmps[81]?.getD undef), (a.tmps[82]?.getD undef), (a.tmps[83]?.getD undef), (a.tmps[84]?.getD undef), (a.tmps[85]?.getD undef), (a.tmps[86]?.getD undef), (a.tmps[87]?.getD undef), (a.tmps[88]?.getD undef), (a.tmps[89]?.getD undef), (a.tmps[90]?.getD undef), (a.tmps[91]?.getD undef), (a.tmps[92]?.getD undef), (a.tmps[93]?.getD undef), (a.tmps[94]?.getD undef), (a.tmps[95]?.getD undef), (a.tmps[96]?.getD undef), (a.tmps[97]?.getD undef), (a.tmps[98]?.getD undef), (a.tmps[99]?.getD undef)], defers := mks ms }) : GL n who N gc gp s w F Y g a W :=
  ⟨fun i => a.tmps[i]?.getD undef, ms, x, Nb, far, R, ha, hg, hx, h, h1, h2⟩
def HL (n who N gc : Nat) (gp : Option Addr) (s : List Nat) (w : World) (F Y x Nb : Nat) (g : Nat) (a : Act) (W : World) : Prop :=
  ∃ (ff : Nat → Value) (ms : List Nat) (i : Nat) (far : Nat → Int) (R : List (List Nat)), a = { tmps := #[ff 0, ff 1, .pointer (some ⟨w.heap.size, 0, none⟩), .pointer (some ⟨w.heap.size + 1, 0, none⟩), ff 4, ff 5, ff 6, .pointer (some ⟨Y, 0, none⟩), .pointer (some ⟨Y + 1, 0, none⟩), .pointer (some ⟨Y + 1 + 1, 0, none⟩), .pointer (some ⟨Y + 1 + 1 + 1, 0, none⟩), ff 11, .pointer (some ⟨Nb, 0, none⟩), .int .i64 (i : Int), ff 14, ff 15, ff 16, ff 17, ff 18, ff 19, ff 20, ff 21, ff 22, ff 23, ff 24, ff 25, ff 26, ff 27, ff 28, ff 29, ff 30, ff 31, ff 32, ff 33, ff 34, ff 35, ff 36, ff 37, ff 38, ff 39, ff 40, ff 41, ff 42, ff 43, ff 44, ff 45, ff 46, ff 47, ff 48, ff 49, ff 50, ff 51, ff 52, ff 53, ff 54, ff 55, ff 56, ff 57, ff 58, ff 59, ff 60, ff 61, ff 62, ff 63, ff 64, ff 65, ff 66, ff 67, ff 68, ff 69, ff 70, ff 71, ff 72, ff 73, ff 74, ff 75, ff 76, ff 77, ff 78, ff 79, ff 80, ff 81, ff 82, ff 83, ff 84, ff 85, ff 86, ff 87, ff 88, ff 89, ff 90, ff 91, ff 92, ff 93, ff 94, ff 95, ff 96, ff 97, ff 98, ff 99], defers := mks ms } ∧ g = N - i ∧ i ≤ (Rm R x).length ∧ Lw n who N gc gp s w F Y W x Nb ms far R ∧ Sr n who s x i far R ∧ x < R.length
theorem HL.intro {n who N gc : Nat} {gp : Option Addr} {s : List Nat} {w : World} {F Y x Nb : Nat} {g : Nat} {a : Act} {W : World} (ms : List Nat) (i : Nat) (far : Nat → Int) (R : List (List Nat)) (h : Lw n who N gc gp s w F Y W x Nb ms far R)
    (h1 : Sr n who s x i far R) (h2 : x < R.length) (hg : g = N - i) (hi : i ≤ (Rm R x).length) (iv : Int) (ha : a = { tmps := #[(a.tmps[0]?.getD undef), (a.tmps[1]?.getD undef), .pointer (some ⟨w.heap.size, 0, none⟩), .pointer (some ⟨w.heap.size + 1, 0, none⟩), (a.tmps[4]?.getD undef), (a.tmps[5]?.getD undef), (a.tmps[6]?.getD undef), .pointer (some ⟨Y, 0, none⟩), .pointer (some ⟨Y + 1, 0, none⟩), .pointer (some ⟨Y + 1 + 1, 0, none⟩), .pointer (some ⟨Y + 1 + 1 + 1, 0, none⟩), (a.tmps[11]?.getD undef), .pointer (some ⟨Nb, 0, none⟩), .int .i64 iv, (a.tmps[14]?.getD undef), (a.tmps[15]?.getD undef), (a.tmps[16]?.getD undef), (a.tmps[17]?.getD undef), (a.tmps[18]?.getD undef), (a.tmps[19]?.getD undef), (a.tmps[20]?.getD undef), (a.tmps[21]?.getD undef), (a.tmps[22]?.getD undef), (a.tmps[23]?.getD undef), (a.tmps[24]?.getD undef), (a.tmps[25]?.getD undef), (a.tmps[26]?.getD undef), (a.tmps[27]?.getD undef), (a.tmps[28]?.getD undef), (a.tmps[29]?.getD undef), (a.tmps[30]?.getD undef), (a.tmps[31]?.getD undef), (a.tmps[32]?.getD undef), (a.tmps[33]?.getD undef), (a.tmps[34]?.getD undef), (a.tmps[35]?.getD undef), (a.tmps[36]?.getD undef), (a.tmps[37]?.getD undef), (a.tmps[38]?.getD undef), (a.tmps[39]?.getD undef), (a.tmps[40]?.getD undef), (a.tmps[41]?.getD undef), (a.tmps[42]?.getD undef), (a.tmps[43]?.getD undef), (a.tmps[44]?.getD undef), (a.tmps[45]?.getD undef), (a.tmps[46]?.getD undef), (a.tmps[47]?.getD undef), (a.tmps[48]?.getD undef), (a.tmps[49]?.getD undef), (a.tmps[50]?.getD undef), (a.tmps[51]?.getD undef), (a.tmps[52]?.getD undef), (a.tmps[53]?.getD undef), (a.tmps[54]?.getD undef), (a.tmps[55]?.getD undef), (a.tmps[56]?.getD undef), (a.tmps[57]?.getD undef), (a.tmps[58]?.getD undef), (a.tmps[59]?.getD undef), (a.tmps[60]?.getD undef), (a.tmps[61]?.getD undef), (a.tmps[62]?.getD undef), (a.tmps[63]?.getD undef), (a.tmps[64]?.getD undef), (a.tmps[65]?.getD undef), (a.tmps[66]?.getD undef), (a.tmps[67]?.getD undef), (a.tmps[68]?.getD undef), (a.tmps[69]?.getD undef), (a.tmps[70]?.getD undef), (a.tmps[71]?.getD undef), (a.tmps[72]?.getD undef), (a.tmps[73]?.getD undef), (a.tmps[74]?.getD undef), (a.tmps[75]?.getD undef), (a.tmps[76]?.getD undef), (a.tmps[77]?.getD undef), (a.tmps[78]?.getD undef), (a.tmps[79]?.getD undef), (a.tmps[80]?.getD undef), (a.tmps[81]?.getD undef), (a.tmps[82]?.getD undef), (a.tmps[83]?.getD undef), (a.tmps[84]?.getD undef), (a.tmps[85]?.getD undef), (a.tmps[86]?.getD undef), (a.tmps[87]?.getD undef), (a.tmps[88]?.getD undef), (a.tmps[89]?.getD undef), (a.tmps[90]?.getD undef), (a.tmps[91]?.getD undef), (a.tmps[92]?.getD undef), (a.tmps[93]?.getD undef), (a.tmps[94]?.getD undef), (a.tmps[95]?.getD undef), (a.tmps[96]?.getD undef), (a.tmps[97]?.getD undef), (a.tmps[98]?.getD undef), (a.tmps[99]?.getD undef)], defers := mks ms }) (hiv : iv = (i : Int)) : HL n who N gc gp s w F Y x Nb g a W :=
  ⟨fun i => a.tmps[i]?.getD undef, ms, i, far, R, by rw [← hiv]; exact ha, hg, hi, h, h1, h2⟩
/-- what holds in the range over a place's neighbours. -/
structure Rl (n who N gc : Nat) (gp : Option Addr) (s : List Nat) (w : World) (F Y x Nb X i p : Nat) (ms pre : List Nat) (W : World) (far : Nat → Int) (R : List (List Nat)) : Prop where
  px : Px n who N gc gp s w F Y (Zx Y Nb X) W far R
  nb : W.heap[Nb]? = some (.cells #[.int .i64 (x : Int)] 3 (0, 0))
  mrk : Mk w.heap.size ms W
  sr : Sr n who s x i far R
  il : i < (Rm R x).length
  ip : st (Rm R x) i = p
  fp : ¬ far p < x
  xl : x < R.length
  pr : ∀ c ∈ pre, st s c ≠ 3 - who → 0 ≤ far c ∧ far c ≤ (x : Int) + costS s c
  xb : W.heap[X]? = some (.cells #[.int .i64 (n : Int)] 3 (0, 0))
  xs : X + 2 ≤ W.heap.size
section
variable {n who N gc : Nat} {gp : Option Addr} {s : List Nat} {w : World} {F Y x Nb X i p : Nat} {ms pre : List Nat} {W W' : World} {far : Nat → Int} {R : List (List Nat)}
theorem Rl.mem (h : Rl n who N gc gp s w F Y x Nb X i p ms pre W far R) : p ∈ Rm R x := by
  rw [← h.ip]; exact st_mem h.il
theorem Rl.keep (h : Rl n who N gc gp s w F Y x Nb X i p ms pre W far R) (hg : W.grownBy W' (some (X + 3))) (hN0 : 0 < N) (hY : Y + 4 ≤ X) (hNb : Nb < X) (hms : ∀ D ∈ ms, D < X) (hgp : ∀ a, gp = some a → a.block < Y + 4) : Rl n who N gc gp s w F Y x Nb X i p ms pre W' far R := by
  have ne : ∀ k, k ≠ X + 3 → some k ≠ some (X + 3) := fun k h e => by injection e with e; exact h e
  exact ⟨h.px.grown hg hN0 (.inr (.inr (.inr rfl))) (by omega) hgp, (hg.block _ (lt_of_heap h.nb) (ne _ (by omega))).trans h.nb, ⟨h.mrk.1, fun D hD => ⟨(h.mrk.2 D hD).1, (hg.block D (lt_of_heap (h.mrk.2 D hD).2) (ne _ (by have := hms D hD; omega))).trans (h.mrk.2 D hD).2⟩⟩, h.sr, h.il, h.ip, h.fp, h.xl, h.pr, (hg.block X (lt_of_heap h.xb) (ne _ (by omega))).trans h.xb, Nat.le_trans h.xs hg.size⟩
theorem Rl.drew (h : Rl n who N gc gp s w F Y x Nb X i p ms pre W far R) : Rl n who N gc gp s w F Y x Nb X i p ms pre W.drew far R :=
  ⟨h.px.same rfl rfl rfl rfl, h.nb, ⟨h.mrk.1, h.mrk.2⟩, h.sr, h.il, h.ip, h.fp, h.xl, h.pr, h.xb, h.xs⟩
theorem Rl.put {c m : Nat} (h : Rl n who N gc gp s w F Y x Nb X i p ms pre W far R) (hc : Nx n p c) (hm : m = x + costS s c) (hF : F < Y + 4 ∧ Y + 1 + 1 < Y + 4) (hNb : Y + 4 ≤ Nb) (hX : Y + 4 ≤ X) (hk : Pk F (Y + 1 + 1) (Zx Y Nb X) W W')
    (hp1 : (st s c = 3 - who ∨ (0 ≤ far c ∧ far c ≤ m)) → Ps n who N gc N gp s w.heap.size (w.heap.size + 1) Y F (Y + 1 + 1) (Zx Y Nb X) W' far R)
    (hp2 : ¬ (st s c = 3 - who ∨ (0 ≤ far c ∧ far c ≤ m)) → Ps n who N gc N gp s w.heap.size (w.heap.size + 1) Y F (Y + 1 + 1) (Zx Y Nb X) W' (fupd far c m) (addR R m c)) : ∃ far' R', Rl n who N gc gp s w F Y x Nb X i p ms (pre ++ [c]) W' far' R' := by
  have hnb := (hk.block Nb (.inr (.inl rfl)) (by omega) (by omega)).trans h.nb
  have hxb := (hk.block X (.inr (.inr (.inl rfl))) (by omega) (by omega)).trans h.xb
  have hmk := h.mrk.keep hk.oth
  have hxs := Nat.le_trans h.xs hk.size
  by_cases hcd : st s c = 3 - who ∨ (0 ≤ far c ∧ far c ≤ (m : Int))
  · refine ⟨far, R, h.px.put (hp1 hcd) hk, hnb, hmk, h.sr, h.il, h.ip, h.fp, h.xl, fun d hd hs => ?_, hxb, hxs⟩
    rcases List.mem_append.1 hd with hd | hd
    · exact h.pr d hd hs
    · obtain rfl := List.mem_singleton.1 hd
      have := hcd.resolve_left hs
      exact ⟨this.1, by omega⟩
  · obtain ⟨e1, e2, e3⟩ := h.sr.sv.ent x p h.mem
    obtain ⟨_, c0, e4, hR⟩ := h.sr.sv.snd p e1
    obtain rfl : c0 = x := by have := h.fp; omega
    have hRc : Rc n who s c m := by rw [hm]; exact hR.step hc fun e => hcd (.inl e)
    have hle := cost_le s c
    have hget : ∀ j, j < (Rm R c0).length → st (Rm (addR R m c) c0) j = st (Rm R c0) j := fun j hj => by
      rw [Rm_addR]
      split
      · rename_i e
        rw [← e]
        unfold st; rw [List.getElem?_append_left hj]
      · rfl
    have hlen : (Rm R c0).length ≤ (Rm (addR R m c) c0).length := by
      rw [Rm_addR]
      split
      · rename_i e; rw [← e]; simp
      · exact Nat.le_refl _
    refine ⟨_, _, h.px.put (hp2 hcd) hk, hnb, hmk, h.sr.put (Nat.le_of_lt h.il) hRc (by omega) (by omega) (fun e => hcd (.inr e)), Nat.lt_of_lt_of_le h.il hlen, (hget i h.il).trans h.ip, ?_, ?_, fun d hd hs => ?_, hxb, hxs⟩
    · unfold fupd
      split
      · omega
      · exact h.fp
    · rw [addR_len]; have := h.xl; omega
    · unfold fupd
      split
      · rename_i e; subst e; omega
      · rename_i hne
        rcases List.mem_append.1 hd with hd | hd
        · exact h.pr d hd hs
        · exact absurd (List.mem_singleton.1 hd) hne
/-- the place is done. -/
theorem Rl.done (h : Rl n who N gc gp s w F Y x Nb X i p ms (nearL n p) W far R) (hp : p < n * n) (hl : alongS n who p ≠ n - 1) : Sr n who s x (i + 1) far R := by
  obtain ⟨e1, e2, e3⟩ := h.sr.sv.ent x p h.mem
  have hfp := h.fp
  refine h.sr.on (p := p) ?_ (.inr ⟨hl, fun q hq hs => ?_⟩)
  · have := h.il
    rw [← h.ip]; unfold st; rw [List.getElem?_eq_getElem this]; rfl
  · obtain ⟨a, b⟩ := h.pr q ((mem_near hp).2 hq) hs
    exact ⟨a, by omega⟩
end
end Go.Proofs.Ytcibkchfdiijfaa
