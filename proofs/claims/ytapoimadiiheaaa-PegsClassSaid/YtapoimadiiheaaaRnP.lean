/- The state of a search in memory and how it lasts; and how many boards a search tries: no program in sight but its memory. -/
import Derived.Test.YtapoimadiiheaaaNewS
import Derived.Test.YtapoimadiiheaaaPgF
namespace Go.Proofs.Ytapoimadiiheaaa
open Go.RowKit Go.Maps

/-- how many boards a search adds at most. -/
def Bc : Nat → Nat
  | 0 => 1
  | c + 1 => 1 + 400 * Bc c
theorem Bc_pos (c : Nat) : 1 ≤ Bc c := by cases c <;> simp [Bc]
theorem Bc_mono {a b : Nat} (h : a ≤ b) : Bc a ≤ Bc b := by
  induction b with
  | zero => have : a = 0 := by omega
            subst this; exact Nat.le_refl _
  | succ b ih =>
    by_cases e : a = b + 1
    · subst e; exact Nat.le_refl _
    · have := ih (by omega)
      rw [Bc]; have := Bc_pos b; omega
theorem Bc_7 {c : Nat} (h : c ≤ 7) : Bc c ≤ 1642507518796992481 := Nat.le_trans (Bc_mono h) (by decide)
theorem TrdM.keep {n : Nat} {w w' : World} {mb : Nat} {ks : List (List Nat)} (h : TrdM n w mb ks) (hk : w'.heap[mb]? = w.heap[mb]?) : TrdM n w' mb ks := by
  obtain ⟨D, ⟨es, clock, hb, hr⟩, h2⟩ := h
  exact ⟨D, ⟨es, clock, hk.trans hb, hr⟩, h2⟩
/-- the numbers of a search. -/
structure Pm where
  sb : Nat
  g : Nat
  cg : Nat
  n : Nat
  m : Nat
  ca : Nat
  mb : Nat
  B : Nat
  R : Nat
  qa : Option Addr
  J : List Jm
structure PmOk (P : Pm) (eb : Nat → Prop) : Prop where
  sbR : P.sb < P.R
  gR : P.g < P.R
  mbR : P.mb < P.R
  qaR : ∀ a, P.qa = some a → 0 < P.m → a.block < P.R
  sbg : P.sb ≠ P.g
  sbm : P.sb ≠ P.mb
  gm : P.g ≠ P.mb
  qan : ∀ a, P.qa = some a → 0 < P.m → a.block ≠ P.g ∧ a.block ≠ P.mb ∧ ¬ eb a.block
  ebR : ∀ k, eb k → k < P.R
  ebn : ∀ k, eb k → k ≠ P.sb ∧ k ≠ P.g ∧ k ≠ P.mb
  BR : P.B ≤ P.R
  n100 : P.n ≤ 100
  n0 : 0 < P.n
  m400 : P.m ≤ 400
  wf : ∀ j ∈ P.J, wfJ P.n j
section
variable {α : Type} (P : Pm) (eb : Nat → Prop) (env0 env1 : World → α → Prop)
/-- the search's own blocks. -/
structure RS0 (W : World) (s : List Nat) (ks : List (List Nat)) : Prop where
  hd : W.heap[P.sb]? = some (.cells #[.slice (some ⟨P.g, 0, none⟩) P.n P.cg, .slice P.qa P.m P.ca, .map (some P.mb)] 52 (0, 0))
  own : Own 3 P.B W (some ⟨P.g, 0, none⟩) P.n P.cg (asI s)
  all : JIn P.B W P.qa P.m P.J
  trd : TrdM P.n W P.mb ks
  sz : P.R ≤ W.heap.size
variable {P eb env0 env1} {W W' : World} {s : List Nat} {ks : List (List Nat)}
theorem RS0.keep (ok : PmOk P eb) (h : RS0 P W s ks) (hs : W.heap.size ≤ W'.heap.size) (hk : ∀ k, k < P.R → (k = P.sb ∨ k = P.g ∨ k = P.mb ∨ ¬ eb k ∧ k ≠ P.g ∧ k ≠ P.mb) → W'.heap[k]? = W.heap[k]?) : RS0 P W' s ks where
  hd := (hk _ ok.sbR (.inl rfl)).trans h.hd
  own := h.own.keep fun a ha => by cases ha; exact hk _ ok.gR (.inr (.inl rfl))
  all := by
    rcases Nat.eq_zero_or_pos P.m with h0 | h0
    · exact ⟨h.all.1, fun i hi => by omega⟩
    · refine h.all.keep hs fun a ha _ _ => ?_
      have q := ok.qan a ha h0
      exact hk _ (ok.qaR a ha h0) (.inr (.inr (.inr ⟨q.2.2, q.1, q.2.1⟩)))
  trd := h.trd.keep (hk _ ok.mbR (.inr (.inr (.inl rfl))))
  sz := Nat.le_trans h.sz hs
theorem RS0.bw (ok : PmOk P eb) (h : RS0 P W s ks) (hb : Bw W W') : RS0 P W' s ks := h.keep ok (Below.size hb) fun k hk _ => Below.block hb k (Nat.lt_of_lt_of_le hk h.sz)
theorem RS0.turn (ok : PmOk P eb) {s' : List Nat} (h : RS0 P W s ks) (ho : Own 3 P.B W' (some ⟨P.g, 0, none⟩) P.n P.cg (asI s')) (hg : W.grownBy W' (some P.g)) : RS0 P W' s' ks where
  hd := (hg.block _ (Nat.lt_of_lt_of_le ok.sbR h.sz) (by intro e; injection e with e; exact ok.sbg e)).trans h.hd
  own := ho
  all := by
    rcases Nat.eq_zero_or_pos P.m with h0 | h0
    · exact ⟨h.all.1, fun i hi => by omega⟩
    · refine h.all.keep hg.size fun a ha _ _ => ?_
      have q := ok.qan a ha h0
      exact hg.block _ (Nat.lt_of_lt_of_le (ok.qaR a ha h0) h.sz) (by intro e; injection e with e; exact q.1 e)
  trd := h.trd.keep (hg.block _ (Nat.lt_of_lt_of_le ok.mbR h.sz) (by intro e; injection e with e; exact ok.gm e.symm))
  sz := Nat.le_trans h.sz hg.size
theorem RS0.put (ok : PmOk P eb) {ks' : List (List Nat)} (h : RS0 P W s ks) (ht : TrdM P.n W' P.mb ks') (hg : W.grownBy W' (some P.mb)) : RS0 P W' s ks' where
  hd := (hg.block _ (Nat.lt_of_lt_of_le ok.sbR h.sz) (by intro e; injection e with e; exact ok.sbm e)).trans h.hd
  own := h.own.keep fun a ha => by cases ha; exact hg.block _ (Nat.lt_of_lt_of_le ok.gR h.sz) (by intro e; injection e with e; exact ok.gm e)
  all := by
    rcases Nat.eq_zero_or_pos P.m with h0 | h0
    · exact ⟨h.all.1, fun i hi => by omega⟩
    · refine h.all.keep hg.size fun a ha _ _ => ?_
      have q := ok.qan a ha h0
      exact hg.block _ (Nat.lt_of_lt_of_le (ok.qaR a ha h0) h.sz) (by intro e; injection e with e; exact q.2.1 e)
  trd := ht
  sz := Nat.le_trans h.sz hg.size
/-- only blocks from R on. -/
theorem RS0.far (ok : PmOk P eb) (h : RS0 P W s ks) {S : Nat → Prop} (hS : ∀ k, S k → k < P.R → eb k) (hk : Kept S W W') : RS0 P W' s ks := by
  refine h.keep ok hk.size fun k hkR hc => hk.block k (Nat.lt_of_lt_of_le hkR h.sz) fun hs => ?_
  have he := hS k hs hkR
  have hn := ok.ebn k he
  rcases hc with e | e | e | e
  · exact hn.1 e
  · exact hn.2.1 e
  · exact hn.2.2 e
  · exact e.1 he
/-- what a run may change: the board, the map, the row's block, the closure's blocks. -/
def FrS (P : Pm) (eb : Nat → Prop) (p : Option Addr) (k : Nat) : Prop := k = P.g ∨ k = P.mb ∨ some k = p.map (·.block) ∨ eb k
end
section
variable {α : Type} {D : List Nat → List Jm → α → α × Bool} {J : List Jm} {n : Nat}
theorem runS_len (hJ : ∀ j ∈ J, wfJ n j) (hm : J.length ≤ 400) : ∀ f s row (z : List (List Nat) × α), s.length = n → (runS D J f s row z).1.1.length ≤ z.1.length + Bc (cnt1 s) := by
  intro f
  induction f with
  | zero => intro s row z _; simp [runS]
  | succ f ih =>
    intro s row z hs
    rw [runS]
    have hp := Bc_pos (cnt1 s)
    split
    · simp
    · split
      · simp
      · have key : ∀ (l : List Jm) (y : List (List Nat) × α), (∀ j ∈ l, j ∈ J) → (runL (runS D J f) s row l y).1.1.length ≤ y.1.length + l.length * Bc (cnt1 s - 1) := by
          intro l
          induction l with
          | nil => intro y _; simp [runL]
          | cons j l ihl =>
            intro y hl
            rw [runL]
            have hjJ := hl j (by simp)
            have hl' : ∀ x ∈ l, x ∈ J := fun x hx => hl x (by simp [hx])
            have e : (j :: l).length * Bc (cnt1 s - 1) = l.length * Bc (cnt1 s - 1) + Bc (cnt1 s - 1) := by rw [List.length_cons, Nat.succ_mul]
            rw [e]
            split
            · rename_i hc
              have hw := hJ j hjJ
              rw [← hs] at hw
              have hcn := doJ_cnt hw hc
              have hr := ih (doJ s j) (row ++ [j]) y (by rw [doJ_len]; exact hs)
              rw [show cnt1 (doJ s j) = cnt1 s - 1 by omega] at hr
              split
              · simp only; omega
              · have := ihl (runS D J f (doJ s j) (row ++ [j]) y).1 hl'; omega
            · have := ihl y hl'; omega
        have h1 := key J (s :: z.1, (D s row z.2).1) (fun j hj => hj)
        simp only [List.length_cons] at h1
        by_cases h0 : cnt1 s = 0
        · have hno : ∀ (l : List Jm) (y : List (List Nat) × α), (∀ j ∈ l, j ∈ J) → runL (runS D J f) s row l y = (y, false) := by
            intro l
            induction l with
            | nil => intro y _; rfl
            | cons j l ihl =>
              intro y hl
              rw [runL, if_neg (fun hc => by
                have hw := hJ j (hl j (by simp))
                rw [← hs] at hw
                have := doJ_cnt hw hc; omega)]
              exact ihl y fun x hx => hl x (by simp [hx])
          rw [hno J _ (fun j hj => hj)]
          simp only [List.length_cons]; omega
        · obtain ⟨c, hc⟩ : ∃ c, cnt1 s = c + 1 := ⟨cnt1 s - 1, by omega⟩
          rw [hc] at h1 ⊢
          rw [Nat.add_sub_cancel] at h1
          have := Nat.mul_le_mul_right (Bc c) hm
          rw [Bc]; omega
end
end Go.Proofs.Ytapoimadiiheaaa
