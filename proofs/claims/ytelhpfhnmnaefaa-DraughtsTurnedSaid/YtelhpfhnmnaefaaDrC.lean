/- What slices.Contains tells, how worlds change while ways are told, and what an append to the ways leaves; conditions stand in each. -/
import Derived.Test.YtelhpfhnmnaefaaDrL
import Derived.Test.YtelhpfhnmnaefaaShelf
import Derived.Test.YtelhpfhnmnaefaaCln
namespace Go.Proofs.Ytelhpfhnmnaefaa
open Go.RowKit

theorem contains_asI (l : List Nat) (x : Nat) : (asI l).contains (x : Int) = decide (x ∈ l) := by
  unfold asI
  rw [Bool.eq_iff_iff]
  simp only [List.contains_iff_mem, decide_eq_true_eq, List.mem_map]
  constructor
  · rintro ⟨a, h, e⟩
    obtain rfl : a = x := by omega
    exact h
  · intro h; exact ⟨x, h, rfl⟩
theorem contains_any (p : Option Addr) (n c : Nat) (l : List Nat) (x : Nat) (W : World) (hn : n ≤ 9223372036854775807) (hx : IntsIn W p n (asI l)) :
    Calls Try.prog 24 #[.slice p n c, .int .i64 (x : Int)] W fun e W' => e = .returned (.bool (decide (x ∈ l))) ∧ W = W' := by
  have hl := hx.len
  rcases Nat.eq_zero_or_pos n with h0 | h0
  · subst h0
    have hl0 : l = [] := by rw [asI_len] at hl; exact List.eq_nil_of_length_eq_zero hl
    subst hl0
    exact (Sh.slices_Contains_int_empty p c (x : Int) W).mono fun e W' h => ⟨by rw [h.1]; simp, h.2.symm⟩
  · obtain ⟨b, o, rfl, _, hc⟩ := hx.at h0
    refine (Sh.slices_Contains_int b o n c (asI l) (x : Int) W (by omega) hn (fun j hj => ?_)).mono fun e W' h => ⟨?_, h.2.symm⟩
    · rw [hc j (by omega)]; rfl
    · rw [h.1, List.take_of_length_le (by omega), contains_asI]

/-- what may change while ways are told: the play's block, and the block of the row of ways. -/
structure Ch (pb : Nat) (q q' : Option Addr) (W W' : World) : Prop where
  os : W'.os = W.os
  tape : W'.tape = W.tape
  output : W'.output = W.output
  size : W.heap.size ≤ W'.heap.size
  block : ∀ k, k < W.heap.size → k ≠ pb → some k ≠ q.map (·.block) → W'.heap[k]? = W.heap[k]?
  row : q'.map (·.block) = q.map (·.block) ∨ ∀ a, q' = some a → W.heap.size ≤ a.block
theorem Ch.refl (pb : Nat) (q : Option Addr) (W : World) : Ch pb q q W W := ⟨rfl, rfl, rfl, Nat.le_refl _, fun _ _ _ _ => rfl, .inl rfl⟩
theorem Ch.of_below {pb : Nat} {q : Option Addr} {W W' : World} (h : Below W.heap.size W W') : Ch pb q q W W' := ⟨h.os, h.tape, h.output, h.size, fun k hk _ _ => h.block k hk, .inl rfl⟩
theorem Ch.trans {pb : Nat} {q q1 q2 : Option Addr} {W W1 W2 : World} (h : Ch pb q q1 W W1) (k : Ch pb q1 q2 W1 W2) : Ch pb q q2 W W2 := by
  refine ⟨k.os.trans h.os, k.tape.trans h.tape, k.output.trans h.output, Nat.le_trans h.size k.size, fun i hi h1 h2 => ?_, ?_⟩
  · refine (k.block i (Nat.lt_of_lt_of_le hi h.size) h1 ?_).trans (h.block i hi h1 h2)
    rcases h.row with e | e
    · rw [e]; exact h2
    · intro e2
      cases q1 with
      | none => cases e2
      | some a => simp at e2; have := e a rfl; omega
  · rcases k.row with e | e
    · rcases h.row with e2 | e2
      · left; rw [e, e2]
      · right
        intro a ha
        subst ha
        cases q1 with
        | none => cases e
        | some a1 => simp at e; have := e2 a1 rfl; omega
    · right; intro a ha; exact Nat.le_trans h.size (e a ha)
theorem Ch.below {pb : Nat} {q q1 : Option Addr} {W W1 W2 : World} (h : Ch pb q q1 W W1) (k : Below W1.heap.size W1 W2) : Ch pb q q1 W W2 := h.trans (Ch.of_below k)

/-- a slice that no telling touches. -/
def Sf (B : Nat) (q p : Option Addr) : Prop := ∀ a, p = some a → B ≤ a.block ∧ q.map (·.block) ≠ some a.block
theorem Sf.none (B : Nat) (q : Option Addr) : Sf B q none := fun a h => by cases h
theorem Sf.ch {pb B : Nat} {q q' p : Option Addr} {W W' : World} (h : Sf B q p) (hc : Ch pb q q' W W') (hp : ∀ a, p = some a → a.block < W.heap.size) : Sf B q' p := fun a ha => by
  refine ⟨(h a ha).1, fun e => ?_⟩
  rcases hc.row with e2 | e2
  · rw [e2] at e; exact (h a ha).2 e
  · cases q' with
    | none => cases e
    | some x => simp at e; have := e2 x rfl; have := hp a ha; omega
theorem IntsIn.ch {pb B : Nat} {q q' p : Option Addr} {n : Nat} {xs : List Int} {W W' : World} (hx : IntsIn W p n xs) (h : Sf B q p) (hpb : pb < B) (hc : Ch pb q q' W W') (hp : ∀ a, p = some a → a.block < W.heap.size) : IntsIn W' p n xs :=
  hx.keep hc.size fun b o e => hc.block b (hp _ e) (by have := (h _ e).1; simp at this; omega) (fun e2 => (h _ e).2 (by rw [e2]))

/-- one way more in the row. -/
theorem Py.told {pb g cb B : Nat} {b : List Int} {s : Int} {q q' : Option Addr} {c c' : Nat} {L : List (List Int)} {W W' : World} (h : Py pb g cb B b s q c L W) {l : List Int} (hO : OwnRows 22 B W' q' (L.length + 1) c' (L ++ [l])) (hg : W.grownBy W' (q.map (·.block)))
    (hor : q'.map (·.block) = q.map (·.block) ∨ ∀ a, q' = some a → W.heap.size ≤ a.block) :
    Py pb g cb B b s q' c' (L ++ [l]) (W'.setCell ⟨pb, 2, none⟩ (.slice q' (L.length + 1) c')) ∧ Ch pb q q' W (W'.setCell ⟨pb, 2, none⟩ (.slice q' (L.length + 1) c')) ∧ W'.cell? ⟨pb, 2, none⟩ = some (.slice q L.length c) ∧ W'.frozen? ⟨pb, 2, none⟩ = false := by
  have hqB : ∀ k, k < B → some k ≠ q.map (·.block) := fun k hk e => by
    obtain ⟨vs, hC, _⟩ := h.rw
    exact hC.apart k hk e
  obtain ⟨n1, n2, n3⟩ := h.ne
  have hsz := h.sz
  have hpl := lt_of_heap h.hd
  have hd' := (hg.block pb hpl (hqB pb n1)).trans h.hd
  have far : ∀ k, k ≠ pb → (W'.setCell ⟨pb, 2, none⟩ (.slice q' (L.length + 1) c')).heap[k]? = W'.heap[k]? := fun k hk => Below.heap_setCell W' _ _ k hk
  refine ⟨⟨?_, ?_, ?_, h.ne, ?_, h.sg, h.bv⟩, ⟨?_, ?_, ?_, ?_, ?_, hor⟩, wcell (cs := [_, _, _]) hd' 2, wfree hd' 2⟩
  · have := wset hd' 2 (.slice q' (L.length + 1) c')
    rw [this]
    simp
  · refine h.bd.keep ?_ fun b o e => ?_
    · show W.heap.size ≤ (W'.setCell _ _).heap.size
      simp [World.setCell]; exact hg.size
    · cases e
      exact (far g (Ne.symm n3)).trans (hg.block g (by omega) (hqB g n2))
  · have e : (L ++ [l]).length = L.length + 1 := by simp
    rw [e]
    obtain ⟨vs, hC, hl, hr⟩ := hO
    refine ⟨vs, hC.keep fun a ha => far _ (by have := hC.block a ha; omega), hl, fun i x hi => ?_⟩
    obtain ⟨p, m, c2, hv, hx, hne⟩ := hr i x hi
    refine ⟨p, m, c2, hv, hx.keep (by simp [World.setCell]) fun b o e => far b (by have := (hne _ e).2.1; simp at this; omega), fun a ha => ⟨(hne a ha).1, (hne a ha).2.1, by simpa [World.setCell] using (hne a ha).2.2⟩⟩
  · simp [World.setCell]; have := hg.size; omega
  · exact (show (W'.setCell _ _).os = W'.os from rfl).trans hg.os
  · exact (show (W'.setCell _ _).tape = W'.tape from rfl).trans hg.tape
  · exact (show (W'.setCell _ _).output = W'.output from rfl).trans hg.output
  · simp [World.setCell]; exact hg.size
  · exact fun k hk h1 h2 => (far k h1).trans (hg.block k hk h2)

/-- 'out = append(out, line)', and where the row lies then. -/
theorem wp_appendRowW {P : Program} {T E : TypeId} (hT : ElT P T E (.slice none 0 0) 1 24) {ops : Array Oper} {rest : List Oper} {o : Oper} {a : Act} {Q : Exit → Act → World → Prop} (w0 : World)
    (hg : o.guard = none) (s x : Operand) (hop : o.op = Op.call { callee := Callee.builtin Builtin.append, args := #[s, x], argTypes := #[T, T] })
    (B : Nat) (q : Option Addr) (n c : Nat) (ls : List (List Int)) (hs : a.eval s = .slice q n c) (own : OwnRows E B w0 q n c ls) (p : Option Addr) (m c' : Nat) (l : List Int) (hl : IntsIn w0 p m l)
    (hne : ∀ a, p = some a → q.map (·.block) ≠ some a.block ∧ B ≤ a.block ∧ a.block < w0.heap.size)
    (hx : a.eval x = .slice (some ⟨w0.heap.size, 0, none⟩) 1 1)
    (hn : n < 1099511627776) (hB : B ≤ w0.heap.size)
    (hK : ∀ q' c2 w', OwnRows E B w' q' (n + 1) c2 (ls ++ [l]) → w0.grownBy w' (q.map (·.block)) → (q'.map (·.block) = q.map (·.block) ∨ ∀ a, q' = some a → w0.heap.size ≤ a.block) →
      wpList P ops Q rest (a.put o.dst (.slice q' (n + 1) c2)) w') :
    wpList P ops Q (o :: rest) a (w0.alloc (.cells #[.slice p m c'] E)) := by
  obtain ⟨vs, hO, hll, hr⟩ := own
  refine wp_appendV hT w0 hg s x hop B q n c vs hs hO #[.slice p m c'] rfl rfl hx hn hB fun q' c2 w' hM hgr hor hz => hK q' c2 w' ⟨_, hM, by simp [hll], ?_⟩ hgr hor
  have hvl := hO.len
  have key : ∀ p2 : Option Addr, ∀ m2 : Nat, ∀ l2 : List Int, IntsIn w0 p2 m2 l2 → (∀ a, p2 = some a → q.map (·.block) ≠ some a.block ∧ B ≤ a.block ∧ a.block < w0.heap.size) → IntsIn w' p2 m2 l2 ∧ ∀ a, p2 = some a → q'.map (·.block) ≠ some a.block ∧ B ≤ a.block ∧ a.block < w'.heap.size := by
    intro p2 m2 l2 hx2 hn2
    refine ⟨hx2.keep hz fun b o e => hgr.block b (hn2 _ e).2.2 (fun e2 => (hn2 _ e).1 e2.symm), fun a ha => ⟨fun e2 => ?_, (hn2 a ha).2.1, Nat.lt_of_lt_of_le (hn2 a ha).2.2 hz⟩⟩
    rcases hor with h | h
    · rw [h] at e2; exact (hn2 a ha).1 e2
    · cases q' with
      | none => cases e2
      | some x =>
        have := h x rfl
        have h3 := (hn2 a ha).2.2
        simp at e2; omega
  intro i l2 hi
  by_cases hlt : i < ls.length
  · rw [List.getElem?_append_left hlt] at hi
    obtain ⟨p2, m2, c3, hv, hx2, hn2⟩ := hr i l2 hi
    obtain ⟨k1, k2⟩ := key p2 m2 l2 hx2 hn2
    exact ⟨p2, m2, c3, by rw [List.getElem?_append_left (by omega)]; exact hv, k1, k2⟩
  · have hil : i = ls.length := by
      have := (List.getElem?_eq_some_iff.1 hi).1
      simp at this; omega
    subst hil
    simp at hi
    subst hi
    obtain ⟨k1, k2⟩ := key p m l hl hne
    exact ⟨p, m, c', by rw [List.getElem?_append_right (by omega)]; simp [show ls.length - vs.length = 0 by omega], k1, k2⟩
end Go.Proofs.Ytelhpfhnmnaefaa
