/- What the closure of pegs.Solve does: it tells the row's moves where one peg is left; conditions: rows of at most 1000 jumps. -/
import Derived.Test.YtapoimadiiheaaaRnQ
import Derived.Test.YtapoimadiiheaaaDn18
import Derived.Deep.AppendLies
import Derived.BigRegion
namespace Go.Proofs.Ytapoimadiiheaaa
open Go.RowKit

def mvv (j : Jm) : List Value := [.int .i64 (j.1 : Int), .int .i64 (j.2.2 : Int), .int .i64 0]
def mvals (J : List Jm) : List Value := J.flatMap mvv
theorem mvals_len (J : List Jm) : (mvals J).length = J.length * 3 := by
  induction J with
  | nil => rfl
  | cons j l ih =>
    show (mvv j ++ mvals l).length = _
    rw [List.length_append, ih, List.length_cons]; simp [mvv]; omega
theorem mvals_app (J K : List Jm) : mvals (J ++ K) = mvals J ++ mvals K := by simp [mvals]
/-- a row of the call's own that holds the moves of jumps. -/
def OwnM (B : Nat) (w : World) (p : Option Addr) (n c : Nat) (J : List Jm) : Prop := OwnC 32 3 B w p n c (mvals J)
theorem el32 : ElT Try.prog 28 32 (.agg #[.int .i64 0, .int .i64 0, .int .i64 0]) 3 24 := ⟨by kernel_rfl, by kernel_rfl, rfl, by omega, by omega⟩
theorem step_appendM {ops : Array Oper} {o : Oper} {a : Act} {K : Act → World → Prop} {Q : Exit → Act → World → Prop} {EE : Prop} (w : World) (hgd : o.guard = none) (s x : Operand)
    (hop : o.op = .call { callee := .builtin .append, args := #[s, x], argTypes := #[28, 28] })
    (B : Nat) (p : Option Addr) (n c : Nat) (ps : List Jm) (hs : a.eval s = .slice p n c) (own : OwnM B w p n c ps) (j : Jm) (sz : Nat) (hx : a.eval x = .slice (some ⟨sz, 0, none⟩) 1 1)
    (hc : w.heap[sz]? = some (.cells #[.int .i64 (j.1 : Int), .int .i64 (j.2.2 : Int), .int .i64 0] 32 (0, 0)))
    (hn : n < 1099511627776) (hB : B ≤ w.heap.size)
    (hK : ∀ p' c' w', OwnM B w' p' (n + 1) c' (ps ++ [j]) → w.grownBy w' (p.map (·.block)) → (p'.map (·.block) = p.map (·.block) ∨ ∀ a, p' = some a → w.heap.size ≤ a.block) → K (a.put o.dst (.slice p' (n + 1) c')) w') :
    if Region.wanted o (yielded ops a.tmps) = true then Oper.wp Try.prog o a w K Q else EE := by
  obtain ⟨i0, hi, hz0, hz1, hz2⟩ := info_parts el32.info
  refine step_append_lies w hgd s x 28 hop B 32 i0 (.agg #[.int .i64 0, .int .i64 0, .int .i64 0]) 3 24 el32.under hi hz0 hz1 hz2 rfl (by omega) (.slice p n c) n _ hs own ⟨sz, 0, none⟩ 1 1 (mvv j) hx rfl
    (fun k u hj => by
      match k, hj with
      | 0, hj => simp [mvv] at hj; subst hj; rw [Addr.add_lit]; exact wcell (cs := [_, _, _]) hc 0
      | 1, hj => simp [mvv] at hj; subst hj; rw [Addr.add_lit]; exact wcell (cs := [_, _, _]) hc 1
      | 2, hj => simp [mvv] at hj; subst hj; rw [Addr.add_lit]; exact wcell (cs := [_, _, _]) hc 2)
    (by intro u hu; simp [mvv] at hu; rcases hu with rfl | rfl | rfl <;> rfl) (by omega) (by unfold maxLen; omega) (by omega) hB w.heap.size rfl ?_
  intro g cap w' h1 h2 h3 h4
  refine hK _ _ _ ?_ ?_ ?_
  · show OwnC _ _ _ _ _ _ _ _
    rw [mvals_app, show mvals [j] = mvv j by simp [mvals]]; exact h1
  · refine ⟨h2.os, h2.tape, h2.output, h2.size, fun k hk hne => h2.block k hk ?_⟩
    intro e; apply hne; rw [e]; cases p <;> rfl
  · rcases h3 with h3 | h3
    · left; cases p <;> simp_all [Value.ownBlock]
    · right; intro a' ha; cases ha; simp; omega
/-- the row of moves behind i of them. -/
def MvR (R b8 : Nat) (V X : World) (p : Option Addr) (nr cr : Nat) (row : List Jm) (i : Nat) : Prop :=
  ∃ p' c', X.heap[b8]? = some (.cells #[.slice p' i c'] 28 (0, 0)) ∧ OwnM V.heap.size X p' i c' (row.take i) ∧ OwnJ R X p nr cr row ∧ (∀ a a2, p = some a → p' = some a2 → a.block ≠ a2.block) ∧ Kept (fun k => k = b8) V X
theorem leaf20 {R b8 nr cr i cm : Nat} {V W2 w7 : World} {p pm p' : Option Addr} {c' : Nat} {row : List Jm} {j : Jm} (hb : b8 < R) (h8 : W2.heap[b8]? = some (.cells #[.slice pm i cm] 28 (0, 0))) (hM : OwnM V.heap.size W2 pm i cm (row.take i)) (hJ : OwnJ R W2 p nr cr row)
    (hne : ∀ a a2, p = some a → pm = some a2 → a.block ≠ a2.block) (hK : Kept (fun k => k = b8) V W2) (hVR : R ≤ V.heap.size) (hji : row[i]? = some j) (hM7 : OwnM V.heap.size w7 p' (i + 1) c' (row.take i ++ [j])) (hg : W2.grownBy w7 (pm.map (·.block)))
    (hor : p'.map (·.block) = pm.map (·.block) ∨ ∀ a, p' = some a → W2.heap.size ≤ a.block) : MvR R b8 V (w7.setCell ⟨b8, 0, none⟩ (.slice p' (i + 1) c')) p nr cr row (i + 1) := by
  have hpb : some b8 ≠ pm.map (·.block) := by
    intro e
    cases pm with
    | none => cases e
    | some x => simp at e; have := (OwnC.block hM x rfl).1; omega
  have h87 : w7.heap[b8]? = some (.cells #[.slice pm i cm] 28 (0, 0)) := (hg.block _ (lt_of_heap h8) hpb).trans h8
  have far : ∀ (k : Nat), k ≠ b8 → (w7.setCell ⟨b8, 0, none⟩ (.slice p' (i + 1) c')).heap[k]? = w7.heap[k]? := fun k hk => Below.heap_setCell w7 ⟨b8, 0, none⟩ _ k hk
  refine ⟨p', c', box1_set h87 _, ?_, ?_, ?_, ?_⟩
  · have e : row.take (i + 1) = row.take i ++ [j] := by rw [List.take_add_one, hji]; rfl
    rw [e]
    exact OwnC.keep hM7 fun a ha => far _ (by have := (OwnC.block hM7 a ha).1; omega)
  · refine OwnC.keep hJ fun a ha => ?_
    have hb2 := OwnC.block hJ a ha
    refine (far _ (by omega)).trans (hg.block _ hb2.2 ?_)
    intro e
    cases pm with
    | none => cases e
    | some x => simp at e; exact hne a x ha rfl e
  · intro a a2 ha ha2
    rcases hor with h | h
    · rw [ha2] at h
      cases pm with
      | none => cases h
      | some x => simp at h; rw [h]; exact hne a x ha rfl
    · have := h a2 ha2
      have := (OwnC.block hJ a ha).2
      omega
  · refine ⟨?_, ?_, ?_, ?_, fun k hk hS => ?_⟩
    · exact (show (w7.setCell _ _).os = w7.os from rfl).trans (hg.os.trans hK.os)
    · exact (show (w7.setCell _ _).tape = w7.tape from rfl).trans (hg.tape.trans hK.tape)
    · exact (show (w7.setCell _ _).output = w7.output from rfl).trans (hg.output.trans hK.output)
    · have h1 := hK.size
      have h2 := hg.size
      show V.heap.size ≤ (w7.setCell _ _).heap.size
      simp [World.setCell]; omega
    · refine (far k hS).trans ((hg.block _ (Nat.lt_of_lt_of_le hk hK.size) ?_).trans (hK.block _ hk hS))
      intro e
      cases pm with
      | none => cases e
      | some x => simp at e; have := (OwnC.block hM x rfl).1; omega
/-- what the closure tells. -/
def lastD (N : Nat) (last : Int) (s : List Nat) (row : List Jm) (acc : List Jm) : List Jm × Bool := if row.length + 1 = N ∧ (last < 0 ∨ st s last.toNat = 1) then (acc ++ row, true) else (acc, false)
/-- the closure's blocks ahead of a find, and behind it. -/
structure EnvA (P : Pm) (b7 b3 b6 b8 N : Nat) (last : Int) (W : World) (acc : List Jm) : Prop where
  nil : acc = []
  h7 : W.heap[b7]? = some (.cells #[.int .i64 (N : Int)] 3 (0, 0))
  h3 : W.heap[b3]? = some (.cells #[.int .i64 last] 3 (0, 0))
  h6 : W.heap[b6]? = some (.cells #[.pointer (some ⟨P.sb, 0, none⟩)] 45 (0, 0))
  h8 : W.heap[b8]? = some (.cells #[.slice none 0 0] 28 (0, 0))
def EnvB (P : Pm) (b8 : Nat) (W : World) (acc : List Jm) : Prop := ∃ p n c, W.heap[b8]? = some (.cells #[.slice p n c] 28 (0, 0)) ∧ OwnM P.R W p n c acc
set_option maxHeartbeats 4000000 in
theorem done20 (P : Pm) (b7 b3 b6 b8 N : Nat) (last : Int) (ok : PmOk P fun k => k = b7 ∨ k = b3 ∨ k = b6 ∨ k = b8) (hbx : b8 ≠ b7 ∧ b8 ≠ b3 ∧ b8 ≠ b6) (hN : N ≤ 1000) (hl1 : -1 ≤ last) (hl2 : last < P.n)
    (W : World) (s : List Nat) (ks : List (List Nat)) (acc : List Jm) (row : List Jm) (p : Option Addr) (nr cr : Nat) (hrs : RS0 P W s ks) (henv : EnvA P b7 b3 b6 b8 N last W acc) (hrow : OwnJ P.R W p nr cr row) (hnr : nr ≤ 1000) :
    Calls Try.prog 20 #[.slice p nr cr, .pointer (some ⟨b7, 0, none⟩), .pointer (some ⟨b3, 0, none⟩), .pointer (some ⟨b6, 0, none⟩), .pointer (some ⟨b8, 0, none⟩)] W fun e W' =>
      e = .returned (.bool (lastD N last s row acc).2) ∧ ((lastD N last s row acc).2 = false → EnvA P b7 b3 b6 b8 N last W' (lastD N last s row acc).1) ∧ ((lastD N last s row acc).2 = true → EnvB P b8 W' (lastD N last s row acc).1) ∧ Kept (fun k => k = b7 ∨ k = b3 ∨ k = b6 ∨ k = b8) W W' := by
  obtain ⟨sb, g, cg, n, m, ca, mb, B, R, qa, J⟩ := P
  simp only at *
  have hrl := hrow.len
  have d7 : W.cell? ⟨b7, 0, none⟩ = some (.int .i64 (N : Int)) := wcell (cs := [_]) henv.h7 0
  have d3 : W.cell? ⟨b3, 0, none⟩ = some (.int .i64 last) := wcell (cs := [_]) henv.h3 0
  have d6 : W.cell? ⟨b6, 0, none⟩ = some (.pointer (some ⟨sb, 0, none⟩)) := wcell (cs := [_]) henv.h6 0
  have c0 : W.cell? ⟨sb, 0, none⟩ = some (.slice (some ⟨g, 0, none⟩) n cg) := wcell (cs := [_, _, _]) hrs.hd 0
  have hn100 := ok.n100
  simp only at hn100
  have hwN : IntKind.i64.wrap ((N : Int) - 1) = (N : Int) - 1 := IntWalk.i64_in _ (by omega)
  have hown := hrs.own
  simp only at hown
  have hz := henv.nil
  subst hz
  have hE0 : Hid (∀ X : World, X.heap = W.heap → X.os = W.os → X.tape = W.tape → X.output = W.output → EnvA ⟨sb, g, cg, n, m, ca, mb, B, R, qa, J⟩ b7 b3 b6 b8 N last X [] ∧ Kept (fun k => k = b7 ∨ k = b3 ∨ k = b6 ∨ k = b8) W X) := fun X h1 h2 h3 h4 =>
    ⟨⟨rfl, by rw [h1]; exact henv.h7, by rw [h1]; exact henv.h3, by rw [h1]; exact henv.h6, by rw [h1]; exact henv.h8⟩, h2, h3, h4, by rw [h1]; exact Nat.le_refl _, fun k _ _ => by rw [h1]⟩
  replace hrl := Lib.hid hrl; replace hrs := Lib.hid hrs; replace henv := Lib.hid henv; replace hrow := Lib.hid hrow; replace ok := Lib.hid ok; replace hbx := Lib.hid hbx; replace hown := Lib.hid hown
  obtain ⟨b, hb⟩ : ∃ b : Bool, b = (lastD N last s row []).2 := ⟨_, rfl⟩
  have hD0 : Hid (b = false → lastD N last s row [] = ([], false)) := fun h => by
    rw [h] at hb
    unfold lastD at hb ⊢
    split at hb
    · simp at hb
    · rename_i hc; rw [if_neg hc]
  have hD1 : Hid (b = true → lastD N last s row [] = (row, true)) := fun h => by
    rw [h] at hb
    unfold lastD at hb ⊢
    split at hb
    · rename_i hc; rw [if_pos hc]; rfl
    · simp at hb
  have hbv : Hid (b = decide (row.length + 1 = N ∧ (last < 0 ∨ st s last.toNat = 1))) := by
    show _ = _
    rw [hb]; unfold lastD
    split
    · rename_i hc; rw [decide_eq_true hc]
    · rename_i hc; rw [decide_eq_false hc]
  replace hb := Lib.hid hb
  go_enter Try.func20, Try.ntmps20
  go_upto_region 1 with fail
  go_cut [27] (fun v X => v = .bool (!b) ∧ X.heap = W.heap ∧ X.os = W.os ∧ X.tape = W.tape ∧ X.output = W.output)
  case first =>
    by_cases hq : nr + 1 = N
    · have hqb : ((nr : Int) != (N : Int) - 1) = false := by simp; omega
      by_cases hneg : last < 0
      · have hb1 : Hid (b = true) := by show _ = _; rw [hbv.out]; exact decide_eq_true ⟨by have := hrl.out; omega, .inl hneg⟩
        have hnb : decide (0 ≤ last) = false := decide_eq_false (by omega)
        have hnb2 : ¬ 0 ≤ last := by omega
        replace hq := Lib.hid hq
        go_quiet (fail)
        go_wp2_with fail
        go_meet
        exact ⟨by rw [hb1.out]; rfl, rfl, rfl, rfl, rfl⟩
      · obtain ⟨lt, rfl⟩ : ∃ lt : Nat, last = lt := ⟨last.toNat, by omega⟩
        have hln : lt < n := by omega
        have k0 := Own.cell hown.out hln
        rw [asI_at] at k0
        replace k0 : W.cell? ⟨g, lt, none⟩ = some (.int .i64 ((st s lt : Nat) : Int)) := k0
        have hbv2 : Hid (b = decide (st s lt = 1)) := by
          show _ = _
          rw [hbv.out]
          have := hrl.out
          by_cases hs1 : st s lt = 1
          · rw [decide_eq_true hs1]; exact decide_eq_true ⟨by omega, .inr (by simpa using hs1)⟩
          · rw [decide_eq_false hs1]; exact decide_eq_false (fun h => by rcases h.2 with h2 | h2; omega; exact hs1 (by simpa using h2))
        have f1 : (0 : Int) ≤ (lt : Int) := by omega
        have f2 : (lt : Int) < (n : Int) := by omega
        replace hq := Lib.hid hq
        generalize st s lt = v at *
        by_cases hv : v = 1
        · subst hv
          have hb1 : Hid (b = true) := by show _ = _; rw [hbv2.out]; rfl
          go_quiet (fail)
          go_wp2_with fail
          go_meet
          exact ⟨by rw [hb1.out]; rfl, rfl, rfl, rfl, rfl⟩
        · have hb1 : Hid (b = false) := by show _ = _; rw [hbv2.out]; exact decide_eq_false hv
          have hvb : ((v : Int) != 1) = true := by simp; omega
          replace hv := Lib.hid hv
          go_quiet (fail)
          go_wp2_with fail
          go_meet
          exact ⟨by rw [hb1.out]; rfl, rfl, rfl, rfl, rfl⟩
    · have hqb : ((nr : Int) != (N : Int) - 1) = true := by simp; omega
      have hb1 : Hid (b = false) := by show _ = _; rw [hbv.out]; exact decide_eq_false (fun h => hq (by have := hrl.out; omega))
      replace hq := Lib.hid hq
      go_quiet (fail)
      go_wp2_with fail
      go_meet
      exact ⟨by rw [hb1.out]; rfl, rfl, rfl, rfl, rfl⟩
  case rest =>
    obtain ⟨rfl, w1, w2, w3, w4⟩ := hcut
    obtain ⟨V, rfl⟩ : ∃ V : World, V = wc := ⟨_, rfl⟩
    have hEV := hE0.out V w1 w2 w3 w4
    have hrowV : Hid (OwnJ R V p nr cr row) := OwnC.keep hrow.out fun a _ => by rw [w1]
    have hEA : Hid (EnvA ⟨sb, g, cg, n, m, ca, mb, B, R, qa, J⟩ b7 b3 b6 b8 N last V []) := hEV.1
    have hKV : Hid (Kept (fun k => k = b7 ∨ k = b3 ∨ k = b6 ∨ k = b8) W V) := hEV.2
    have hRV : R ≤ V.heap.size := by rw [w1]; exact hrs.out.sz
    clear d7 d3 d6 c0 hwN hown hE0 hEV w1 w2 w3 w4
    cases b with
    | false =>
      have hd := Lib.hid (hD0.out rfl)
      go_wp2_with fail
      go_ret
      rw [hd.out]
      exact ⟨rfl, fun _ => hEA.out, fun h => by simp at h, hKV.out⟩
    | true =>
      have hd := Lib.hid (hD1.out rfl)
      have hb8R : b8 < R := ok.out.ebR b8 (.inr (.inr (.inr rfl)))
      have hS0 : Hid (Kept (fun k => k = b8) V V) := Kept.refl _ _
      have hM0 : Hid (OwnM V.heap.size V none 0 0 (row.take 0)) := OwnC.nil _ _ _ _
      have hN0 := Lib.hid hEA.out.h8
      go_upto_region 3 with fail
      go_wp2_with fail
      go_loopg [30] nr (fun gk iv W' => ∃ i : Nat, i ≤ nr ∧ gk = nr - i ∧ iv = .int .i64 i ∧ MvR R b8 V W' p nr cr row i)
      case atStart => exact ⟨0, Nat.zero_le _, rfl, rfl, none, 0, hN0.out, hM0.out, hrowV.out, (fun a a2 _ h => by cases h), hS0.out⟩
      case round =>
        obtain ⟨i, hin, hgk, rfl, pm, cm, h8, hM, hJ, hne, hK⟩ := hrel
        obtain ⟨W2, rfl⟩ : ∃ W2 : World, W2 = wr := ⟨_, rfl⟩
        replace hgk := Lib.hid hgk
        clear hN0 hM0 hS0
        by_cases hlt : i < nr
        · obtain ⟨ga, j, rfl, _, hga, hji, k0, k1, k2⟩ := hJ.at hlt
          have k0' : W2.cell? ⟨ga, i * 3, none⟩ = some (.int .i64 (j.1 : Int)) := by rw [Nat.mul_comm]; exact k0
          have k1' : W2.cell? ⟨ga, i * 3 + 1, none⟩ = some (.int .i64 (j.2.1 : Int)) := by rw [Nat.mul_comm]; exact k1
          have k2' : W2.cell? ⟨ga, i * 3 + 2, none⟩ = some (.int .i64 (j.2.2 : Int)) := by rw [Nat.mul_comm]; exact k2
          obtain ⟨jf, jo, jt⟩ := j
          simp only at k0 k1 k2 k0' k1' k2'
          have e5 := heap_alloc_new W2 (.cells #[.int .i64 (jf : Int), .int .i64 (jo : Int), .int .i64 (jt : Int)] 54)
          have hb5 : Hid (Bw W2 (W2.alloc (.cells #[.int .i64 (jf : Int), .int .i64 (jo : Int), .int .i64 (jt : Int)] 54))) := (Bw.refl W2).alloc _
          have a0 : (W2.alloc (.cells #[.int .i64 (jf : Int), .int .i64 (jo : Int), .int .i64 (jt : Int)] 54)).cell? ⟨W2.heap.size, 0, none⟩ = some (.int .i64 (jf : Int)) := wcell (cs := [_, _, _]) e5 0
          have a1 : (W2.alloc (.cells #[.int .i64 (jf : Int), .int .i64 (jo : Int), .int .i64 (jt : Int)] 54)).cell? ⟨W2.heap.size, 1, none⟩ = some (.int .i64 (jo : Int)) := wcell (cs := [_, _, _]) e5 1
          have a2 : (W2.alloc (.cells #[.int .i64 (jf : Int), .int .i64 (jo : Int), .int .i64 (jt : Int)] 54)).cell? ⟨W2.heap.size, 2, none⟩ = some (.int .i64 (jt : Int)) := wcell (cs := [_, _, _]) e5 2
          have h85 := (Below.block hb5.out b8 (lt_of_heap h8)).trans h8
          have d8 : (W2.alloc (.cells #[.int .i64 (jf : Int), .int .i64 (jo : Int), .int .i64 (jt : Int)] 54)).cell? ⟨b8, 0, none⟩ = some (.slice pm i cm) := wcell (cs := [_]) h85 0
          have HM : Hid (∀ X : World, Bw W2 X → Calls Try.prog 21 #[.agg #[.int .i64 (jf : Int), .int .i64 (jo : Int), .int .i64 (jt : Int)]] X fun e X' => e = .returned (.agg #[.int .i64 (jf : Int), .int .i64 (jt : Int), .int .i64 0]) ∧ Bw W2 X') := fun X hX => (move_any jf jo jt X).mono fun e X' h => ⟨h.1, hX.trans h.2⟩
          have hsz : Hid (∀ X : World, Bw W2 X → V.heap.size ≤ X.heap.size) := fun X hX => Nat.le_trans hK.size (Below.size hX)
          have hM2 : Hid (∀ X : World, Bw W2 X → OwnM V.heap.size X pm i cm (row.take i)) := fun X hX => OwnC.below hM hX (Nat.le_refl _)
          have h82 : Hid (∀ X : World, Bw W2 X → X.heap[b8]? = some (.cells #[.slice pm i cm] 28 (0, 0))) := fun X hX => (Below.block hX b8 (lt_of_heap h8)).trans h8
          have hJ2 : Hid (∀ X : World, Bw W2 X → OwnJ R X (some ⟨ga, 0, none⟩) nr cr row) := fun X hX => OwnC.below hJ hX (Nat.le_refl _)
          have hK2 : Hid (∀ X : World, Bw W2 X → Kept (fun k => k = b8) V X) := fun X hX => hK.trans (Kept.ofBelow hX)
          have hpb : Hid (some b8 ≠ pm.map (·.block)) := fun e => by
            cases pm with
            | none => cases e
            | some x => simp at e; have := (OwnC.block hM x rfl).1; omega
          have hi9 : i < 1099511627776 := by omega
          replace hM := Lib.hid hM; replace hJ := Lib.hid hJ; replace hne := Lib.hid hne; replace hK := Lib.hid hK; replace h8 := Lib.hid h8; replace h85 := Lib.hid h85; replace e5 := Lib.hid e5; replace hji := Lib.hid hji
          go_upto_region 6 with fail
          clear k0 k1 k2 k0' k1' k2'
          go_region_law (first
            | (refine step_appendM _ (by rfl) _ _ (by rfl) V.heap.size pm i cm (row.take i) (by rfl) (hM2.out _ (hb6.alloc _)) (jf, jo, jt) w6.heap.size (by rfl) (heap_alloc_new w6 _) hi9 (hsz.out _ (hb6.alloc _)) ?_; intro p9 c9 w9 hM9 hg9 hor9; have m0 : w9.cell? ⟨b8, 0, none⟩ = some (.slice pm i cm) := wcell (cs := [_]) ((hg9.block b8 (lt_of_heap (h82.out _ (hb6.alloc _))) hpb.out).trans (h82.out _ (hb6.alloc _))) 0; have m1 : w9.frozen? ⟨b8, 0, none⟩ = false := wfree ((hg9.block b8 (lt_of_heap (h82.out _ (hb6.alloc _))) hpb.out).trans (h82.out _ (hb6.alloc _))) 0; replace hM9 := Lib.hid hM9; replace hg9 := Lib.hid hg9; replace hor9 := Lib.hid hor9)
            | (go_simp; go_at_call 21; refine (HM.out _ ?_).mono ?_; exact hb5.out.drew; rintro e w6 ⟨rfl, hb6⟩; have d8' : w6.cell? ⟨b8, 0, none⟩ = some (.slice pm i cm) := wcell (cs := [_]) (h82.out _ hb6) 0; have d8'' : (w6.alloc (.cells #[.int .i64 (jf : Int), .int .i64 (jt : Int), .int .i64 0] 32)).cell? ⟨b8, 0, none⟩ = some (.slice pm i cm) := wcell (cs := [_]) (h82.out _ (hb6.alloc _)) 0))
          all_goals
            have hfin : Hid (MvR R b8 V (w9.setCell ⟨b8, 0, none⟩ (.slice p9 (i + 1) c9)) (some ⟨ga, 0, none⟩) nr cr row (i + 1)) := leaf20 hb8R (h82.out _ (hb6.alloc _)) (hM2.out _ (hb6.alloc _)) (hJ2.out _ (hb6.alloc _)) hne.out (hK2.out _ (hb6.alloc _)) hRV hji.out hM9.out hg9.out hor9.out
            go_wp2_with fail
            have hgk := hgk.out
            go_roundg (nr - (i + 1))
            case measure => omega
            case rel => exact ⟨i + 1, hlt, rfl, by go_num, hfin.out⟩
        · have hie : i = nr := by omega
          subst hie
          have hii : ¬ (i : Int) < (i : Int) := by omega
          have hmv : Hid (EnvB ⟨sb, g, cg, n, m, ca, mb, B, R, qa, J⟩ b8 W2 row) := ⟨pm, i, cm, h8, by
            have : row.take i = row := List.take_of_length_le (by have := hrl.out; omega)
            rw [this] at hM; exact OwnC.mono hM hRV⟩
          have hKE : Hid (Kept (fun k => k = b7 ∨ k = b3 ∨ k = b6 ∨ k = b8) W W2) := hKV.out.trans (hK.weak fun k _ h => .inr (.inr (.inr h)))
          clear hM hJ hne hK h8
          go_wp2_with fail
          go_ret
          rw [hd.out]
          exact ⟨rfl, fun h => by simp at h, fun _ => hmv.out, hKE.out⟩
end Go.Proofs.Ytapoimadiiheaaa
