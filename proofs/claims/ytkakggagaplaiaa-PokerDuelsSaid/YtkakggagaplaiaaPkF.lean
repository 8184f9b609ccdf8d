/- poker.fives: what its iterator hands out: all fives of the places, as they come; conditions stand in each. -/
import Derived.RangeFuncBox
import Derived.RangeFuncLeaves
import Derived.Shelf.Abstract
import Derived.WalkKit
import Derived.OwnWalkIn
import Derived.TacticsInMore
import Derived.LoopNIn
import Derived.LoopIn
import Derived.Laws.EntriesVeiled
import Derived.Test.YtkakggagaplaiaaPkV
namespace Go.Proofs.Ytkakggagaplaiaa
open Go.RowKit Go.Shelf

section
attribute [local go_sem] Oper.semAt_some

theorem cell_cells {W : World} {a : Addr} {v : Value} (h : W.cell? a = some v) : ∃ o : Obj, W.heap[a.block]? = some o ∧ o.isCells = true := by
  unfold World.cell? at h
  cases ho : W.heap[a.block]? with
  | none => simp [ho] at h
  | some o => exact ⟨o, rfl, by cases o <;> simp_all [Obj.isCells]⟩
/-- what a round keeps: all cells but those of two blocks. -/
def KpX (b1 b2 : Nat) (W W' : World) : Prop := W.heap.size ≤ W'.heap.size ∧ ∀ k o, W.heap[k]? = some o → o.isCells = true → k ≠ b1 → k ≠ b2 → W'.heap[k]? = some o
theorem KpX.cell {b1 b2 : Nat} {W W' : World} (h : KpX b1 b2 W W') {a : Addr} {v : Value} (hc : W.cell? a = some v) (h1 : a.block ≠ b1) (h2 : a.block ≠ b2) : W'.cell? a = some v := by
  obtain ⟨o, ho, hi⟩ := cell_cells hc
  exact (World.cell?_of_block ((h.2 _ o ho hi h1 h2).trans ho.symm)).trans hc
theorem KpX.nums {b1 b2 : Nat} {W W' : World} (h : KpX b1 b2 W W') {g : Nat} {t : TypeId} {xs : List Int} (hc : Nums W g t xs) (h1 : g ≠ b1) (h2 : g ≠ b2) : Nums W' g t xs := h.2 _ _ hc rfl h1 h2
theorem KpX.trans {b1 b2 : Nat} {A B C : World} (h : KpX b1 b2 A B) (k : KpX b1 b2 B C) : KpX b1 b2 A C := ⟨Nat.le_trans h.1 k.1, fun i o ho hi h1 h2 => k.2 i o (h.2 i o ho hi h1 h2) hi h1 h2⟩
theorem KpX.ints {b1 b2 : Nat} {W W' : World} (h : KpX b1 b2 W W') {p : Option Addr} {n : Nat} {xs : List Int} (hx : IntsIn W p n xs) (ha : ∀ a, p = some a → a.block ≠ b1 ∧ a.block ≠ b2) : IntsIn W' p n xs :=
  ⟨hx.1, fun j hj => let ⟨b, o, e, hb, hc⟩ := hx.2 j hj; ⟨b, o, e, Nat.lt_of_lt_of_le hb h.1, h.cell hc (ha _ e).1 (ha _ e).2⟩⟩
/-- the walk's closure as it lies. -/
def pkV (Yb Bs : Nat) : Value := .func (.func 74) #[] #[.pointer (some ⟨Yb, 0, none⟩), .pointer (some ⟨Yb + 1, 0, none⟩), .pointer (some ⟨Yb + 2, 0, none⟩), .pointer (some ⟨Bs, 0, none⟩), .pointer (some ⟨Yb + 3, 0, none⟩)]
/-- the iterator's own cells, the first places being pr. -/
structure Fv (l Yb Bs : Nat) (p : Option Addr) (len cap : Nat) (L pr : List Nat) (W : World) : Prop where
  y : W.cell? ⟨Yb, 0, none⟩ = some (.func (.yield l) #[] #[])
  c : W.cell? ⟨Yb + 3, 0, none⟩ = some (pkV Yb Bs)
  b : W.cell? ⟨Bs, 0, none⟩ = some (.slice p len cap)
  i : IntsIn W p len (asI L)
  sz : Yb + 4 ≤ W.heap.size
  ph : ∃ ps hs, ps.length = 5 ∧ hs.length = 5 ∧ ps.take pr.length = pr ∧ hs.take pr.length = atS L pr ∧ Nums W (Yb + 1) 101 (asI ps) ∧ Nums W (Yb + 2) 101 (asI hs)
theorem Fv.kp {l Yb Bs b1 b2 len cap : Nat} {p : Option Addr} {L pr : List Nat} {W W' : World} (h : Fv l Yb Bs p len cap L pr W) (hk : KpX b1 b2 W W') (hB : Bs < Yb) (h1 : b1 < Bs) (h2 : b2 < Bs) (ha : ∀ a, p = some a → a.block ≠ b1 ∧ a.block ≠ b2) :
    Fv l Yb Bs p len cap L pr W' := by
  obtain ⟨ps, hs, e1, e2, e3, e4, n1, n2⟩ := h.ph
  exact ⟨hk.cell h.y (by simp; omega) (by simp; omega), hk.cell h.c (by simp; omega) (by simp; omega), hk.cell h.b (by simp; omega) (by simp; omega), hk.ints h.i ha, Nat.le_trans h.sz hk.1,
    ps, hs, e1, e2, e3, e4, hk.nums n1 (by omega) (by omega), hk.nums n2 (by omega) (by omega)⟩
/-- the prefix forgets its last. -/
theorem Fv.less {l Yb Bs len cap i : Nat} {p : Option Addr} {L pr : List Nat} {W : World} (h : Fv l Yb Bs p len cap L (pr ++ [i]) W) : Fv l Yb Bs p len cap L pr W := by
  obtain ⟨ps, hs, e1, e2, e3, e4, n1, n2⟩ := h.ph
  refine ⟨h.y, h.c, h.b, h.i, h.sz, ps, hs, e1, e2, ?_, ?_, n1, n2⟩
  · have := congrArg (List.take pr.length) e3
    rwa [List.take_take, List.length_append, List.take_append, List.take_of_length_le (Nat.le_refl _), Nat.sub_self, List.take_zero, List.append_nil, Nat.min_eq_left (by simp)] at this
  · have := congrArg (List.take pr.length) e4
    unfold atS at this ⊢
    rw [List.take_take, List.length_append, Nat.min_eq_left (by simp), List.map_append] at this
    rw [this, List.take_append_of_le_length (by simp), List.take_of_length_le (by simp)]
theorem load5 {W : World} {g : Nat} {s : List Nat} (h : Nums W g 101 (asI s)) (hl : s.length = 5) : ∀ i, i < 5 → W.cell? ⟨g, i, none⟩ = some (.int .i64 (st s i : Nat)) := fun i hi => by
  have := h.cell (i := i) (by rw [asI_len, hl]; exact hi)
  rwa [asI_at] at this

set_option maxRecDepth 100000 in
set_option maxHeartbeats 2000000 in
theorem pick0_in (l Yb Bs len cap k fr : Nat) (p : Option Addr) (L pr : List Nat) (R : Ending → World → Prop) (W : World) (hl : pr.length = 5) (hk : k = 5) (hF : Fv l Yb Bs p len cap L pr W)
    (hY : ∀ m, YieldAt Fence.wide m Try.prog l #[A5 pr, A5 (atS L pr)] W fun e W' => e = .returned (.bool true) ∧ R e W') :
    Calls Try.prog 74 #[.int .i64 fr, .int .i64 k, .pointer (some ⟨Yb, 0, none⟩), .pointer (some ⟨Yb + 1, 0, none⟩), .pointer (some ⟨Yb + 2, 0, none⟩), .pointer (some ⟨Bs, 0, none⟩), .pointer (some ⟨Yb + 3, 0, none⟩)] W fun e W' => e = .returned (.bool true) ∧ R e W' := by
  subst hk
  obtain ⟨ps, hs, e1, e2, e3, e4, n1, n2⟩ := hF.ph
  have hp : pr = ps := by rw [← e3, hl, List.take_of_length_le (by omega)]
  have hh : atS L pr = hs := by rw [← e4, hl, List.take_of_length_le (by omega)]
  rw [hp] at hY
  rw [← hp, hh, hp] at hY
  have q := load5 n1 e1
  have r := load5 n2 e2
  have p0 := q 0 (by omega); have p1 := q 1 (by omega); have p2 := q 2 (by omega); have p3 := q 3 (by omega); have p4 := q 4 (by omega)
  have h0 := r 0 (by omega); have h1 := r 1 (by omega); have h2 := r 2 (by omega); have h3 := r 3 (by omega); have h4 := r 4 (by omega)
  have hy := hF.y
  clear q r n1 n2 hF
  refine (callsIn_wide (n := 9)).1 ?_
  obtain ⟨fn, tmps, assign, body, hyy, hR⟩ := hY 8
  unfold A5 at hyy
  refine callsIn_of_wp Try.func74 rfl trivial ?_ rfl
  simp only [Try.ntmps74, List.size_toArray, List.length_cons, List.length_nil, Nat.reduceAdd, Nat.reduceSub, Array.replicate_succ, Array.replicate_zero, List.push_toArray, List.append_toArray, List.nil_append, List.cons_append]
  gi_wp2
  refine hR.mono ?_
  rintro e W' ⟨rfl, hr⟩
  gi_wp2
  go_ret
  exact ⟨rfl, hr⟩
end

/-- all blocks are as they were, but two. -/
structure Two (b1 b2 : Nat) (A B : World) : Prop where
  os : B.os = A.os
  tape : B.tape = A.tape
  output : B.output = A.output
  size : A.heap.size ≤ B.heap.size
  block : ∀ k, k < A.heap.size → k ≠ b1 → k ≠ b2 → B.heap[k]? = A.heap[k]?
theorem Two.refl (b1 b2 : Nat) (A : World) : Two b1 b2 A A := ⟨rfl, rfl, rfl, Nat.le_refl _, fun _ _ _ _ => rfl⟩
theorem Two.trans {b1 b2 : Nat} {A B C : World} (h : Two b1 b2 A B) (k : Two b1 b2 B C) : Two b1 b2 A C :=
  ⟨k.os.trans h.os, k.tape.trans h.tape, k.output.trans h.output, Nat.le_trans h.size k.size, fun i hi h1 h2 => (k.block i (Nat.lt_of_lt_of_le hi h.size) h1 h2).trans (h.block i hi h1 h2)⟩
theorem Two.set {b1 b2 : Nat} {A B : World} (h : Two b1 b2 A B) (a : Addr) (v : Value) (ha : a.block = b1 ∨ a.block = b2) : Two b1 b2 A (B.setCell a v) :=
  ⟨h.os, h.tape, h.output, by simpa [World.setCell] using h.size, fun k hk h1 h2 => (Below.heap_setCell B a v k (by omega)).trans (h.block k hk h1 h2)⟩
theorem Two.drew {b1 b2 : Nat} {A B : World} (h : Two b1 b2 A B) : Two b1 b2 A B.drew := ⟨h.os, h.tape, h.output, h.size, h.block⟩
theorem Two.drewN {b1 b2 : Nat} {A B : World} (h : Two b1 b2 A B) (n : Nat) : Two b1 b2 A (B.drewN n) := ⟨h.os, h.tape, h.output, h.size, h.block⟩
theorem Two.alloc {b1 b2 : Nat} {A B : World} (h : Two b1 b2 A B) (o : Obj) : Two b1 b2 A (B.alloc o) :=
  ⟨h.os, h.tape, h.output, Nat.le_trans h.size (by simp), fun k hk h1 h2 => (Below.heap_alloc B o k (Nat.lt_of_lt_of_le hk h.size)).trans (h.block k hk h1 h2)⟩
theorem Two.below {b1 b2 : Nat} {A B C : World} (h : Two b1 b2 A B) (k : Below B.heap.size B C) : Two b1 b2 A C :=
  h.trans ⟨k.os, k.tape, k.output, k.size, fun i hi _ _ => k.block i hi⟩
theorem Two.cell {b1 b2 : Nat} {A B : World} (h : Two b1 b2 A B) {a : Addr} (ha : a.block < A.heap.size) (h1 : a.block ≠ b1) (h2 : a.block ≠ b2) : B.cell? a = A.cell? a := World.cell?_of_block (h.block _ ha h1 h2)

/-- what has come when t rounds are over. -/
def upS (len d fr : Nat) (pr : List Nat) (t : Nat) : List (List Nat) := (List.range t).flatMap fun i => (ixs len d (fr + i + 1)).map fun y => pr ++ (fr + i) :: y
theorem upS_succ (len d fr : Nat) (pr : List Nat) (t : Nat) : upS len d fr pr (t + 1) = upS len d fr pr t ++ (ixs len d (fr + t + 1)).map fun y => (pr ++ [fr + t]) ++ y := by
  unfold upS
  rw [List.range_succ, List.flatMap_append]
  simp
theorem upS_all (len d fr : Nat) (pr : List Nat) : (ixs len (d + 1) fr).map (fun y => pr ++ y) = upS len d fr pr (len - fr) := by
  unfold upS
  rw [ixs, List.map_flatMap]
  simp only [List.map_map, Function.comp_def]
theorem take_set {s : List Nat} {k v : Nat} (h : k < s.length) : (s.set k v).take (k + 1) = s.take k ++ [v] := by
  rw [List.take_add_one]
  simp [h, List.take_set_of_le]
/-- two cells more are written. -/
theorem Fv.more {l Yb Bs len cap i : Nat} {p : Option Addr} {L pr : List Nat} {W : World} (h : Fv l Yb Bs p len cap L pr W) (hk : pr.length < 5) (hB : Bs < Yb) (ha : ∀ a, p = some a → a.block < Yb) :
    Fv l Yb Bs p len cap L (pr ++ [i]) ((W.setCell ⟨Yb + 1, pr.length, none⟩ (.int .i64 (i : Nat))).setCell ⟨Yb + 2, pr.length, none⟩ (.int .i64 (st L i : Nat))) := by
  obtain ⟨ps, hs, e1, e2, e3, e4, n1, n2⟩ := h.ph
  have hT : Two (Yb + 1) (Yb + 2) W ((W.setCell ⟨Yb + 1, pr.length, none⟩ (.int .i64 (i : Nat))).setCell ⟨Yb + 2, pr.length, none⟩ (.int .i64 (st L i : Nat))) := ((Two.refl (Yb + 1) (Yb + 2) W).set ⟨Yb + 1, pr.length, none⟩ _ (.inl rfl)).set ⟨Yb + 2, pr.length, none⟩ _ (.inr rfl)
  have hsz := h.sz
  refine ⟨(hT.cell (by simp; omega) (by simp) (by simp)).trans h.y, (hT.cell (by simp; omega) (by simp) (by simp)).trans h.c, (hT.cell (by simp; omega) (by simp; omega) (by simp; omega)).trans h.b, h.i.keep hT.size fun b o e => hT.block b ?_ ?_ ?_, Nat.le_trans hsz hT.size,
    ps.set pr.length i, hs.set pr.length (st L i), by simp [e1], by simp [e2], ?_, ?_, ?_, ?_⟩
  · have := ha _ e; simp at this; omega
  · have := ha _ e; simp at this; omega
  · have := ha _ e; simp at this; omega
  · rw [List.length_append, show [i].length = 1 from rfl, take_set (by omega), e3]
  · rw [List.length_append, show [i].length = 1 from rfl, take_set (by omega), e4]; simp [atS]
  · rw [asI_set]; exact (n1.set pr.length (i : Nat)).far (by simp) _
  · rw [asI_set]; exact (n2.far (p := ⟨Yb + 1, pr.length, none⟩) (by simp) _).set pr.length (st L i : Nat)
theorem Fv.drew {l Yb Bs len cap : Nat} {p : Option Addr} {L pr : List Nat} {W : World} (h : Fv l Yb Bs p len cap L pr W) : Fv l Yb Bs p len cap L pr W.drew := by
  obtain ⟨ps, hs, e1, e2, e3, e4, n1, n2⟩ := h.ph
  exact ⟨h.y, h.c, h.b, h.i.keep (Nat.le_refl _) fun _ _ _ => rfl, h.sz, ps, hs, e1, e2, e3, e4, n1, n2⟩

set_option maxRecDepth 100000 in
set_option maxHeartbeats 4000000 in
theorem pick_any (l Yb Bs b1 b2 len cap : Nat) (p : Option Addr) (L : List Nat) (J : List (List Nat) → World → Prop) (hlen : len ≤ 100) (hB : Bs < Yb) (h1 : b1 < Bs) (h2 : b2 < Bs) (ha : ∀ a, p = some a → a.block < Bs ∧ a.block ≠ b1 ∧ a.block ≠ b2)
    (hJ : ∀ pre A B, J pre A → Two (Yb + 1) (Yb + 2) A B → J pre B)
    (hY : ∀ m pre x W, x.length = 5 → J pre W → Yb + 4 ≤ W.heap.size → YieldAt Fence.wide m Try.prog l #[A5 x, A5 (atS L x)] W fun e W' => e = .returned (.bool true) ∧ J (pre ++ [x]) W' ∧ KpX b1 b2 W W') :
    ∀ d k fr pre pr W, k + d = 5 → pr.length = k → fr ≤ len → J pre W → Fv l Yb Bs p len cap L pr W →
      Calls Try.prog 74 #[.int .i64 (fr : Nat), .int .i64 (k : Nat), .pointer (some ⟨Yb, 0, none⟩), .pointer (some ⟨Yb + 1, 0, none⟩), .pointer (some ⟨Yb + 2, 0, none⟩), .pointer (some ⟨Bs, 0, none⟩), .pointer (some ⟨Yb + 3, 0, none⟩)] W
        fun e W' => e = .returned (.bool true) ∧ J (pre ++ (ixs len d fr).map (pr ++ ·)) W' ∧ Fv l Yb Bs p len cap L pr W' := by
  intro d
  induction d with
  | zero =>
    intro k fr pre pr W hk hpr hfr hj hF
    refine (pick0_in l Yb Bs len cap k fr p L pr (fun e W' => J (pre ++ [pr]) W' ∧ KpX b1 b2 W W') W (by omega) (by omega) hF fun m => hY m pre pr W (by omega) hj hF.sz).mono ?_
    rintro e W' ⟨rfl, hj', hk'⟩
    exact ⟨rfl, by simpa [ixs] using hj', hF.kp hk' hB h1 h2 fun a e => (ha a e).2⟩
  | succ d IH =>
    intro k fr pre pr W hk hpr hfr hj hF
    replace IH := Lib.hid IH
    replace hJ := Lib.hid hJ
    clear hY
    have hend : Hid ((ixs len (d + 1) fr).map (fun y => pr ++ y) = upS len d fr pr (len - fr)) := upS_all len d fr pr
    have hup : Hid (∀ t, upS len d fr pr (t + 1) = upS len d fr pr t ++ (ixs len d (fr + t + 1)).map fun y => (pr ++ [fr + t]) ++ y) := upS_succ len d fr pr
    have hu0 : upS len d fr pr 0 = [] := rfl
    rw [hend.out]
    have hk5 : decide ((k : Int) = 5) = false := decide_eq_false (by omega)
    have hk5' : ((k : Int) == 5) = false := by simpa using hk5
    replace hj := Lib.hid hj; replace hF := Lib.hid hF
    go_enter Try.func74, Try.ntmps74
    go_wp2_with fail
    go_loopg [10] (len - fr) (fun gk iv W' => ∃ t i : Nat, i = fr + t ∧ i ≤ len ∧ gk = len - i ∧ iv = .int .i64 i ∧ Hid (J (pre ++ upS len d fr pr t) W') ∧ Hid (Fv l Yb Bs p len cap L pr W'))
    case atStart => exact ⟨0, fr, rfl, hfr, rfl, rfl, by rw [hu0, List.append_nil]; exact hj, hF⟩
    case round =>
      clear hj hF
      obtain ⟨t, i, hit, hi, hgk, rfl, hj, hF⟩ := hrel
      obtain ⟨W1, rfl⟩ : ∃ W1 : World, W1 = wr := ⟨_, rfl⟩
      replace hgk := Lib.hid hgk; replace hit := Lib.hid hit
      have cb := hF.out.b
      have cc := hF.out.c
      unfold pkV at cc
      by_cases hlt : i < len
      · have hin := hF.out.i
        obtain ⟨b, o, hpe, hbb, hcc⟩ := hin.at (by omega)
        have hci := hcc i hlt
        rw [asI_at] at hci
        have hab := ha _ hpe
        simp only at hab
        rw [hpe] at cb
        have hF2 := (hF.out.more (i := i) (by omega) hB fun a e => by have := (ha a e).1; omega).drew
        have hj2 := hJ.out _ _ _ hj.out (((Two.refl (Yb + 1) (Yb + 2) W1).set ⟨Yb + 1, k, none⟩ (.int .i64 (i : Nat)) (.inl rfl)).set ⟨Yb + 2, k, none⟩ (.int .i64 (st L i : Nat)) (.inr rfl)).drew
        rw [hpr] at hF2
        have HI := IH.out (k + 1) (i + 1) _ (pr ++ [i]) _ (by omega) (by simp [hpr]) (by omega) hj2 hF2
        have ccc := hF2.c
        unfold pkV at ccc
        have ei : ((i + 1 : Nat) : Int) = (i : Int) + 1 := by push_cast; rfl
        have ek : ((k + 1 : Nat) : Int) = (k : Int) + 1 := by push_cast; rfl
        rw [ei, ek] at HI
        have eu : Hid (pre ++ upS len d fr pr t ++ (ixs len d (i + 1)).map (fun y => pr ++ [i] ++ y) = pre ++ upS len d fr pr (t + 1)) := by
          show _ = _
          rw [hup.out, List.append_assoc, hit.out]
        replace HI := Lib.hid HI
        clear hF2 hj2 ei ek
        obtain ⟨ps, hs, g1, g2, _, _, m1, m2⟩ := hF.out.ph
        have z1 := m1.free k
        have z2 := m2.free k
        have y1 := m1.cell (i := k) (by rw [asI_len]; omega)
        have y2 := m2.cell (i := k) (by rw [asI_len]; omega)
        rw [asI_at] at y1 y2
        clear hcc hin hpe m1 m2 g1 g2
        have n1 : (0 : Int) ≤ (k : Int) := by omega
        have n2 : (k : Int) < 5 := by omega
        have n3 : (0 : Int) ≤ (i : Int) := by omega
        have n4 : (i : Int) < (len : Int) := by omega
        go_wp2_with fail
        go_region_law (fail)
        all_goals
          generalize ((W1.setCell ⟨Yb + 1, k, none⟩ (.int .i64 (i : Nat))).setCell ⟨Yb + 2, k, none⟩ (.int .i64 (st L i : Nat))).drew = W2 at *
          go_wp2_with fail
          refine HI.out.mono ?_
          rintro e W3 ⟨rfl, hj3, hF3⟩
          have hj4 := Lib.hid hj3
          have hF4 := Lib.hid hF3.less
          clear hj3 hF3
          go_wp2_with fail
          have hgk := hgk.out
          go_roundg (len - (i + 1))
          case measure => omega
          case rel => exact ⟨t + 1, i + 1, by rw [hit.out]; omega, by omega, rfl, by go_num, by rw [← eu.out]; exact hj4, hF4⟩
      · obtain rfl : i = len := by omega
        have et : Hid (i - fr = t) := by have := hit.out; show _ = _; omega
        go_wp2_with fail
        go_ret
        exact ⟨rfl, by rw [et.out]; exact hj.out, hF.out⟩

theorem fives_any (p : Option Addr) (len cap : Nat) (w : World) :
    Calls Try.prog 59 #[.slice p len cap] w fun e w' => e = .returned (.func (.func 73) #[] #[.pointer (some ⟨w.heap.size, 0, none⟩)]) ∧ w' = w.alloc (.cells #[.slice p len cap] 22) := by
  go_enter Try.func59, Try.ntmps59
  go_wp2_with fail
  go_ret
  exact ⟨rfl, rfl⟩
set_option maxRecDepth 100000 in
set_option maxHeartbeats 2000000 in
theorem fives1_any (l Bs b1 b2 len cap : Nat) (p : Option Addr) (L : List Nat) (J : List (List Nat) → World → Prop) (W : World) (hlen : len ≤ 100) (hB : Bs < W.heap.size) (h1 : b1 < Bs) (h2 : b2 < Bs) (ha : ∀ a, p = some a → a.block < Bs ∧ a.block ≠ b1 ∧ a.block ≠ b2)
    (hJ : ∀ pre A B, J pre A → Two (W.heap.size + 1) (W.heap.size + 2) A B → J pre B)
    (hY : ∀ m pre x W', x.length = 5 → J pre W' → W.heap.size + 4 ≤ W'.heap.size → YieldAt Fence.wide m Try.prog l #[A5 x, A5 (atS L x)] W' fun e W'' => e = .returned (.bool true) ∧ J (pre ++ [x]) W'' ∧ KpX b1 b2 W' W'')
    (hb : W.cell? ⟨Bs, 0, none⟩ = some (.slice p len cap)) (hx : IntsIn W p len (asI L)) (h0 : J [] W) :
    Calls Try.prog 73 #[.func (.yield l) #[] #[], .pointer (some ⟨Bs, 0, none⟩)] W fun e W' => e = .returned (.tuple #[]) ∧ J (ixs len 5 0) W' := by
  have HP := Lib.hid (pick_any l W.heap.size Bs b1 b2 len cap p L J hlen hB h1 h2 ha hJ hY)
  clear hY
  replace hJ := Lib.hid hJ; replace h0 := Lib.hid h0; replace hx := Lib.hid hx; replace hb := Lib.hid hb
  go_enter Try.func73, Try.ntmps73
  go_upto_region 2 with fail
  obtain ⟨Y, hYz⟩ : ∃ Y, Y = W.heap.size := ⟨_, rfl⟩
  obtain ⟨W3, hW3⟩ : ∃ W3 : World, W3 = (((W.alloc (.cells #[.func (.yield l) #[] #[]] 116)).alloc (.cells #[.int .i64 0, .int .i64 0, .int .i64 0, .int .i64 0, .int .i64 0] 101)).alloc (.cells #[.int .i64 0, .int .i64 0, .int .i64 0, .int .i64 0, .int .i64 0] 101)) := ⟨_, rfl⟩
  have m0 : W3.heap[Y]? = some (.cells #[.func (.yield l) #[] #[]] 116 (0, 0)) := by
    rw [hW3, hYz]
    exact (Below.heap_alloc _ _ _ (by simp; omega)).trans ((Below.heap_alloc _ _ _ (by simp)).trans (heap_alloc_new W _))
  have m1 : W3.heap[Y + 1]? = some (.cells #[.int .i64 0, .int .i64 0, .int .i64 0, .int .i64 0, .int .i64 0] 101 (0, 0)) := by
    have h := heap_alloc_new (W.alloc (.cells #[.func (.yield l) #[] #[]] 116)) (.cells #[.int .i64 0, .int .i64 0, .int .i64 0, .int .i64 0, .int .i64 0] 101)
    rw [World.size_alloc] at h
    rw [hW3, hYz]
    exact (Below.heap_alloc _ _ _ (by simp)).trans h
  have m2 : W3.heap[Y + 2]? = some (.cells #[.int .i64 0, .int .i64 0, .int .i64 0, .int .i64 0, .int .i64 0] 101 (0, 0)) := by
    have h := heap_alloc_new ((W.alloc (.cells #[.func (.yield l) #[] #[]] 116)).alloc (.cells #[.int .i64 0, .int .i64 0, .int .i64 0, .int .i64 0, .int .i64 0] 101)) (.cells #[.int .i64 0, .int .i64 0, .int .i64 0, .int .i64 0, .int .i64 0] 101)
    rw [World.size_alloc, World.size_alloc] at h
    rw [hW3, hYz]
    exact h
  have hs3 : W3.heap.size = Y + 3 := by rw [hW3, hYz]; simp
  have hT3 : Two (Y + 1) (Y + 2) W W3 := by
    rw [hW3]; exact (((Two.refl _ _ _).alloc _).alloc _).alloc _
  rw [← hW3, ← hYz]
  rw [← hYz] at HP hJ hB
  replace hYz := Lib.hid hYz
  clear hW3
  have hF5 : Fv l Y Bs p len cap L [] (W3.alloc (.cells #[pkV Y Bs] 117)) := by
    have a0 := (Below.heap_alloc W3 (.cells #[pkV Y Bs] 117) Y (by omega)).trans m0
    have a1 := (Below.heap_alloc W3 (.cells #[pkV Y Bs] 117) (Y + 1) (by omega)).trans m1
    have a2 := (Below.heap_alloc W3 (.cells #[pkV Y Bs] 117) (Y + 2) (by omega)).trans m2
    have a3 := heap_alloc_new W3 (.cells #[pkV Y Bs] 117)
    rw [hs3] at a3
    have hT := hT3.alloc (.cells #[pkV Y Bs] 117)
    exact ⟨wcell (cs := [_]) a0 0, wcell (cs := [_]) a3 0, (hT.cell (by simp; have := hYz.out; omega) (by simp; omega) (by simp; omega)).trans hb.out,
      hx.out.keep hT.size fun b o e => hT.block b (by have := (ha _ e).1; have := hYz.out; simp at *; omega) (by have := (ha _ e).1; simp at *; omega) (by have := (ha _ e).1; simp at *; omega), by simp; omega,
      [0, 0, 0, 0, 0], [0, 0, 0, 0, 0], rfl, rfl, rfl, rfl, a1, a2⟩
  have hj5 := hJ.out _ _ _ h0.out (hT3.alloc (.cells #[pkV Y Bs] 117))
  have HQ := HP.out 5 0 0 [] [] _ (by omega) rfl (by omega) hj5 hF5
  have cl := hF5.c
  unfold pkV at HQ cl
  rw [← hs3] at HQ cl
  replace HQ := Lib.hid HQ
  clear hF5 hj5 hT3 m0 m1 m2 HP hJ hb hx h0
  replace hs3 := Lib.hid hs3
  go_wp2_with fail

  refine HQ.out.mono ?_
  rintro e W' ⟨rfl, hj, _⟩
  have e0 : [] ++ (ixs len 5 0).map (fun y => [] ++ y) = ixs len 5 0 := by simp
  rw [e0] at hj
  replace hj := Lib.hid hj
  go_wp2_with fail
  go_end0
  exact ⟨rfl, hj.out⟩
end Go.Proofs.Ytkakggagaplaiaa
