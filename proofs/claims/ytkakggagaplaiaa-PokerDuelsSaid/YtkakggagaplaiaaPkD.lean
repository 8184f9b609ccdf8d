/- poker.Showdown's inner function at a table of five: who wins; conditions stand in each. -/
import Derived.Test.YtkakggagaplaiaaPkC
import Derived.Laws.EntriesVeiled
namespace Go.Proofs.Ytkakggagaplaiaa
open Go.RowKit

/-- all blocks but three that count. -/
structure Thr (S : Nat) (A B : World) : Prop where
  os : B.os = A.os
  tape : B.tape = A.tape
  output : B.output = A.output
  size : A.heap.size ≤ B.heap.size
  block : ∀ k, k < A.heap.size → k ≠ S + 2 → k ≠ S + 3 → k ≠ S + 4 → B.heap[k]? = A.heap[k]?
theorem Thr.refl (S : Nat) (A : World) : Thr S A A := ⟨rfl, rfl, rfl, Nat.le_refl _, fun _ _ _ _ _ => rfl⟩
theorem Thr.trans {S : Nat} {A B C : World} (h : Thr S A B) (k : Thr S B C) : Thr S A C :=
  ⟨k.os.trans h.os, k.tape.trans h.tape, k.output.trans h.output, Nat.le_trans h.size k.size, fun i hi a b c => (k.block i (Nat.lt_of_lt_of_le hi h.size) a b c).trans (h.block i hi a b c)⟩
theorem Thr.set {S : Nat} {A B : World} (h : Thr S A B) (a : Addr) (v : Value) (ha : a.block = S + 2 ∨ a.block = S + 3 ∨ a.block = S + 4) : Thr S A (B.setCell a v) :=
  ⟨h.os, h.tape, h.output, by simpa [World.setCell] using h.size, fun k hk x y z => (Below.heap_setCell B a v k (by omega)).trans (h.block k hk x y z)⟩
theorem Thr.below {S : Nat} {A B C : World} (h : Thr S A B) (k : Below B.heap.size B C) : Thr S A C :=
  h.trans ⟨k.os, k.tape, k.output, k.size, fun i hi _ _ _ => k.block i hi⟩
theorem Thr.cell {S : Nat} {A B : World} (h : Thr S A B) {a : Addr} {v : Value} (hc : A.cell? a = some v) (ha : a.block < A.heap.size) (h1 : a.block < S + 2 ∨ S + 4 < a.block) : B.cell? a = some v := (World.cell?_of_block (h.block _ ha (by omega) (by omega) (by omega))).trans hc
theorem Thr.ints {S : Nat} {A B : World} (h : Thr S A B) {b o n : Nat} {xs : List Int} (hx : IntsIn A (some ⟨b, o, none⟩) n xs) (h1 : b < S + 2 ∨ S + 4 < b) : IntsIn B (some ⟨b, o, none⟩) n xs :=
  ⟨hx.1, fun j hj => let ⟨b', o', e, hb, hc⟩ := hx.2 j hj; ⟨b', o', e, Nat.lt_of_lt_of_le hb h.size, h.cell hc hb (by cases e; simpa using h1)⟩⟩

/-- the closure as it lies. -/
def fillV (S kb fb : Nat) : Value := .func (.func 36) #[] #[.pointer (some ⟨S, 0, none⟩), .pointer (some ⟨S + 1, 0, none⟩), .pointer (some ⟨S + 4, 0, none⟩), .pointer (some ⟨S + 2, 0, none⟩), .pointer (some ⟨S + 3, 0, none⟩), .pointer (some ⟨kb, 0, none⟩), .pointer (some ⟨fb, 0, none⟩)]
/-- two players, what is known, and what is counted. -/
structure SdI (S kb fb pa oa ca pb ob cb pk ok nk ck : Nat) (A B K : List Nat) (wi ti al : Nat) (W : World) : Prop where
  a : W.cell? ⟨S, 0, none⟩ = some (.slice (some ⟨pa, oa, none⟩) 2 ca)
  b : W.cell? ⟨S + 1, 0, none⟩ = some (.slice (some ⟨pb, ob, none⟩) 2 cb)
  w : Nums W (S + 2) 3 [(wi : Int)]
  t : Nums W (S + 3) 3 [(ti : Int)]
  l : Nums W (S + 4) 3 [(al : Int)]
  k : W.cell? ⟨kb, 0, none⟩ = some (.slice (some ⟨pk, ok, none⟩) nk ck)
  f : W.cell? ⟨fb, 0, none⟩ = some (fillV S kb fb)
  ia : IntsIn W (some ⟨pa, oa, none⟩) 2 (asI A)
  ib : IntsIn W (some ⟨pb, ob, none⟩) 2 (asI B)
  ik : IntsIn W (some ⟨pk, ok, none⟩) nk (asI K)
  kz : kb < W.heap.size
  fz : fb < W.heap.size
section
variable {S kb fb pa oa ca pb ob cb pk ok nk ck : Nat} {A B K : List Nat} {wi ti al : Nat} {W W' : World}
theorem SdI.below (h : SdI S kb fb pa oa ca pb ob cb pk ok nk ck A B K wi ti al W) (hb : Below W.heap.size W W') : SdI S kb fb pa oa ca pb ob cb pk ok nk ck A B K wi ti al W' := by
  have l0 := h.l.lt
  exact ⟨(hb.cell (p := ⟨S, 0, none⟩) (by simp; omega)).trans h.a, (hb.cell (p := ⟨S + 1, 0, none⟩) (by simp; omega)).trans h.b, h.w.below hb h.w.lt, h.t.below hb h.t.lt, h.l.below hb h.l.lt,
    (hb.cell (p := ⟨kb, 0, none⟩) h.kz).trans h.k, (hb.cell (p := ⟨fb, 0, none⟩) h.fz).trans h.f, h.ia.below hb, h.ib.below hb, h.ik.below hb, Nat.lt_of_lt_of_le h.kz hb.size, Nat.lt_of_lt_of_le h.fz hb.size⟩
/-- one more is counted. -/
theorem SdI.count (h : SdI S kb fb pa oa ca pb ob cb pk ok nk ck A B K wi ti al W) (hk : S + 4 < kb) (hf : S + 4 < fb) (ha : pa < S) (hb : pb < S) (hK : S + 4 < pk) :
    SdI S kb fb pa oa ca pb ob cb pk ok nk ck A B K wi ti (al + 1) (W.setCell ⟨S + 4, 0, none⟩ (.int .i64 (al + 1 : Nat))) ∧
    SdI S kb fb pa oa ca pb ob cb pk ok nk ck A B K (wi + 1) ti al (W.setCell ⟨S + 2, 0, none⟩ (.int .i64 (wi + 1 : Nat))) ∧
    SdI S kb fb pa oa ca pb ob cb pk ok nk ck A B K wi (ti + 1) al (W.setCell ⟨S + 3, 0, none⟩ (.int .i64 (ti + 1 : Nat))) := by
  have l0 := h.l.lt
  have T : ∀ (a : Addr) (v : Value), (a.block = S + 2 ∨ a.block = S + 3 ∨ a.block = S + 4) → Thr S W (W.setCell a v) := fun a v e => (Thr.refl S W).set a v e
  have key : ∀ (a : Addr) (v : Value) (e : a.block = S + 2 ∨ a.block = S + 3 ∨ a.block = S + 4) (wi' ti' al' : Nat), Nums (W.setCell a v) (S + 2) 3 [(wi' : Int)] → Nums (W.setCell a v) (S + 3) 3 [(ti' : Int)] → Nums (W.setCell a v) (S + 4) 3 [(al' : Int)] →
      SdI S kb fb pa oa ca pb ob cb pk ok nk ck A B K wi' ti' al' (W.setCell a v) := fun a v e wi' ti' al' n1 n2 n3 =>
    ⟨(T a v e).cell h.a (by simp; omega) (by simp), (T a v e).cell h.b (by simp; omega) (by simp), n1, n2, n3, (T a v e).cell h.k h.kz (.inr hk), (T a v e).cell h.f h.fz (.inr hf),
      (T a v e).ints h.ia (by omega), (T a v e).ints h.ib (by omega), (T a v e).ints h.ik (.inr hK), by simpa [World.setCell] using h.kz, by simpa [World.setCell] using h.fz⟩
  exact ⟨key _ _ (by simp) _ _ _ (h.w.far (by simp) _) (h.t.far (by simp) _) (h.l.set 0 _), key _ _ (by simp) _ _ _ (h.w.set 0 _) (h.t.far (by simp) _) (h.l.far (by simp) _), key _ _ (by simp) _ _ _ (h.w.far (by simp) _) (h.t.set 0 _) (h.l.far (by simp) _)⟩
end
/-- what a player has with a table. -/
def xS (A T : List Nat) : Int := (bestS (A ++ T)).1
theorem conc2_any (pa oa ca pt ot ct c1 : Nat) (A T : List Nat) (W : World) (hA : IntsIn W (some ⟨pa, oa, none⟩) 2 (asI A)) (hT : IntsIn W (some ⟨pt, ot, none⟩) 5 (asI T)) :
    Calls Try.prog 34 #[.slice (some ⟨W.heap.size, 0, none⟩) 2 c1] (W.alloc (.cells #[.slice (some ⟨pa, oa, none⟩) 2 ca, .slice (some ⟨pt, ot, none⟩) 5 ct] 22)) fun e w' => ∃ q c', e = .returned (.slice q 7 c') ∧ IntsIn w' q 7 (asI (A ++ T)) ∧ Below W.heap.size W w' := by
  have lA : A.length = 2 := by have := hA.len; rwa [asI_len] at this
  have lT : T.length = 5 := by have := hT.len; rwa [asI_len] at this
  have h0 := heap_alloc_new W (.cells #[.slice (some ⟨pa, oa, none⟩) 2 ca, .slice (some ⟨pt, ot, none⟩) 5 ct] 22)
  have hb0 : Below W.heap.size W (W.alloc (.cells #[.slice (some ⟨pa, oa, none⟩) 2 ca, .slice (some ⟨pt, ot, none⟩) 5 ct] 22)) := (Below.refl _ _).alloc (Nat.le_refl _) _
  have hl7 : (catP (fun i => if i = 0 then A else T) 2).length = 7 := by simp [catP, lA, lT]
  have hcat : catP (fun i => if i = 0 then A else T) 2 = A ++ T := rfl
  have := concatP_any 2 W.heap.size 0 c1 (fun i => if i = 0 then pa else pt) (fun i => if i = 0 then oa else ot) (fun i => if i = 0 then 2 else 5) (fun i => if i = 0 then ca else ct) (fun i => if i = 0 then A else T) _ (by omega) (by omega) (by omega)
    ⟨fun i hi => ⟨lt_of_heap h0, by match i, hi with
      | 0, _ => exact wcell (cs := [_, _]) h0 0
      | 1, _ => exact wcell (cs := [_, _]) h0 1⟩, fun i hi => by match i, hi with
      | 0, _ => exact hA.below hb0
      | 1, _ => exact hT.below hb0⟩
  rw [hl7, hcat] at this
  exact this.mono fun e w' ⟨q, c', h1, h2, h3⟩ => ⟨q, c', h1, h2.in, hb0.trans (h3.mono hb0.size)⟩
theorem bestX_any (A T : List Nat) (X : World) (q : Option Addr) (c : Nat) (hx : IntsIn X q 7 (asI (A ++ T))) (h52a : ∀ x ∈ A, x < 52) (h52t : ∀ x ∈ T, x < 52) :
    Calls Try.prog 37 #[.slice q 7 c] X fun e w' => ∃ q2 c2, e = .returned (.tuple #[.int .i64 (xS A T), .slice q2 5 c2]) ∧ Below X.heap.size X w' :=
  (best7_any q 7 c (A ++ T) X (by omega) (by omega) hx fun x hx => (List.mem_append.1 hx).elim (h52a x) (h52t x)).mono fun e w' ⟨q2, c2, h1, _, h3⟩ => ⟨q2, c2, h1, h3⟩
set_option maxRecDepth 100000 in
set_option maxHeartbeats 4000000 in
theorem leaf_any (S kb fb pa oa ca pb ob cb pk ok nk ck pt ot ct fr : Nat) (A B K T : List Nat) (wi ti al : Nat) (W : World) (hS : SdI S kb fb pa oa ca pb ob cb pk ok nk ck A B K wi ti al W)
    (hk : S + 4 < kb) (hf : S + 4 < fb) (ha : pa < S) (hb : pb < S) (hK : S + 4 < pk) (hT : IntsIn W (some ⟨pt, ot, none⟩) 5 (asI T)) (h52a : ∀ x ∈ A, x < 52) (h52b : ∀ x ∈ B, x < 52) (h52t : ∀ x ∈ T, x < 52) (hbd : wi + ti + al < 1000) :
    Calls Try.prog 36 #[.int .i64 (fr : Nat), .slice (some ⟨pt, ot, none⟩) 5 ct, .pointer (some ⟨S, 0, none⟩), .pointer (some ⟨S + 1, 0, none⟩), .pointer (some ⟨S + 4, 0, none⟩), .pointer (some ⟨S + 2, 0, none⟩), .pointer (some ⟨S + 3, 0, none⟩), .pointer (some ⟨kb, 0, none⟩), .pointer (some ⟨fb, 0, none⟩)] W
      fun e W' => e = .returned (.tuple #[]) ∧ SdI S kb fb pa oa ca pb ob cb pk ok nk ck A B K (wi + if xS B T < xS A T then 1 else 0) (ti + if xS A T = xS B T then 1 else 0) (al + 1) W' ∧ Thr S W W' := by
  have lA : A.length = 2 := by have := hS.ia.len; rwa [asI_len] at this
  have lB : B.length = 2 := by have := hS.ib.len; rwa [asI_len] at this
  have lT : T.length = 5 := by have := hT.len; rwa [asI_len] at this
  have ca0 := hS.a
  have cb0 := hS.b
  have hHA := Lib.hid (fun c1 => conc2_any pa oa ca pt ot ct c1 A T W hS.ia hT)
  have hHB : Hid (∀ X, Below W.heap.size W X → ∀ c1, _) := Lib.hid (fun X hX c1 => conc2_any pb ob cb pt ot ct c1 B T X (hS.ib.below hX) (hT.below hX))
  have hXA := Lib.hid (fun X q c hx => bestX_any A T X q c hx h52a h52t)
  have hXB := Lib.hid (fun X q c hx => bestX_any B T X q c hx h52b h52t)
  have hcbX : Hid (∀ X, Below W.heap.size W X → X.cell? ⟨S + 1, 0, none⟩ = some (.slice (some ⟨pb, ob, none⟩) 2 cb)) := fun X hX => (hS.below hX).b
  replace hS := Lib.hid hS
  generalize xS A T = x at *
  generalize xS B T = y at *
  clear hT h52a h52b h52t lA lB lT
  go_enter Try.func36, Try.ntmps36
  go_wp2_with fail
  refine (hHA.out _).mono ?_
  rintro e w1 ⟨q1, c1, rfl, hi1, hb1⟩
  have H1 := Lib.hid (hXA.out w1 q1 c1 hi1)
  clear hi1 hHA hXA
  go_wp2_with fail
  refine H1.out.mono ?_
  rintro e w2 ⟨q2, c2, rfl, hb2⟩
  have hb12 := hb1.trans (hb2.mono hb1.size)
  have cb2 := hcbX.out _ hb12
  have H2 := Lib.hid (hHB.out _ hb12)
  clear H1 hHB hb2 hb1
  go_wp2_with fail
  refine (H2.out _).mono ?_
  rintro e w3 ⟨q3, c3, rfl, hi3, hb3⟩
  have hb13 := hb12.trans (hb3.mono hb12.size)
  have H3 := Lib.hid (hXB.out w3 q3 c3 hi3)
  clear hi3 H2 hXB
  go_wp2_with fail
  refine H3.out.mono ?_
  rintro e w4 ⟨q4, c4, rfl, hb4⟩
  have hb14 := hb13.trans (hb4.mono hb13.size)
  have hS4 := hS.out.below hb14
  have hT4 : Hid (Thr S W w4) := (Thr.refl S W).below hb14
  clear hb12 hb3 hb13 hb4 hb14 H3 cb2 hcbX hS
  obtain ⟨u1, _, _⟩ := hS4.count hk hf ha hb hK
  have dl := hS4.l.cell (i := 0) (by simp)
  have fl := hS4.l.free 0
  simp only [List.getElem?_cons_zero, Option.getD_some] at dl
  obtain ⟨_, u2, u3⟩ := u1.count hk hf ha hb hK
  have dw := u1.w.cell (i := 0) (by simp)
  have fw := u1.w.free 0
  have dt := u1.t.cell (i := 0) (by simp)
  have ft := u1.t.free 0
  simp only [List.getElem?_cons_zero, Option.getD_some] at dw dt
  have e1 : (al : Int) + 1 = ((al + 1 : Nat) : Int) := by push_cast; rfl
  have e2 : (wi : Int) + 1 = ((wi + 1 : Nat) : Int) := by push_cast; rfl
  have e3 : (ti : Int) + 1 = ((ti + 1 : Nat) : Int) := by push_cast; rfl
  have hT5 : Hid (Thr S W (w4.setCell ⟨S + 4, 0, none⟩ (.int .i64 (al + 1 : Nat)))) := hT4.out.set _ _ (by simp)
  obtain ⟨al2, hal⟩ : ∃ al2, al2 = al + 1 := ⟨_, rfl⟩
  obtain ⟨wi2, hwi⟩ : ∃ wi2, wi2 = wi + 1 := ⟨_, rfl⟩
  obtain ⟨ti2, hti⟩ : ∃ ti2, ti2 = ti + 1 := ⟨_, rfl⟩
  have v1 : IntKind.i64.wrap (al2 : Int) = al2 := IntWalk.i64_in _ (by omega)
  have v2 : IntKind.i64.wrap (wi2 : Int) = wi2 := IntWalk.i64_in _ (by omega)
  have v3 : IntKind.i64.wrap (ti2 : Int) = ti2 := IntWalk.i64_in _ (by omega)
  rw [← hal] at e1 hT5 u1 u2 u3 dw dt fw ft
  rw [← hwi] at e2 u2
  rw [← hti] at e3 u3
  have hal' : al2 ≤ 1001 := by omega
  have hwi' : wi2 ≤ 1001 := by omega
  have hti' : ti2 ≤ 1001 := by omega
  replace hal := Lib.hid hal; replace hwi := Lib.hid hwi; replace hti := Lib.hid hti
  have hTw : Hid (Thr S W ((w4.setCell ⟨S + 4, 0, none⟩ (.int .i64 (al2 : Nat))).setCell ⟨S + 2, 0, none⟩ (.int .i64 (wi2 : Nat)))) := hT5.out.set _ _ (by simp)
  have hTt : Hid (Thr S W ((w4.setCell ⟨S + 4, 0, none⟩ (.int .i64 (al2 : Nat))).setCell ⟨S + 3, 0, none⟩ (.int .i64 (ti2 : Nat)))) := hT5.out.set _ _ (by simp)
  replace u1 := Lib.hid u1; replace u2 := Lib.hid u2; replace u3 := Lib.hid u3
  clear hS4
  by_cases h1 : y < x
  · have b1 : decide (y < x) = true := decide_eq_true h1
    have b2 : ¬ x = y := by omega
    replace b2 := Lib.hid b2
    go_wp2_with fail
    refine bodyPost_ret (results_none rfl _ _ _) rfl ?_
    exact ⟨rfl, by rw [← hwi.out, ← hal.out]; exact u2.out, hTw.out⟩
  · have b1 : decide (y < x) = false := decide_eq_false h1
    by_cases h2 : x = y
    · have b2 : (x == y) = true := by simpa using h2
      replace h2 := Lib.hid h2
      go_wp2_with fail
      refine bodyPost_ret (results_none rfl _ _ _) rfl ?_
      exact ⟨rfl, by rw [← hti.out, ← hal.out]; exact u3.out, hTt.out⟩
    · have b2 : (x == y) = false := by simpa using h2
      replace h2 := Lib.hid h2
      go_wp2_with fail
      refine bodyPost_ret (results_none rfl _ _ _) rfl ?_
      exact ⟨rfl, by rw [← hal.out]; exact u1.out, hT5.out⟩
end Go.Proofs.Ytkakggagaplaiaa
