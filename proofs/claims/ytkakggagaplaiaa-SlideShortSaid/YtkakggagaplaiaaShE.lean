/- What slide.Home's closure does at a ring; conditions: a board that is found by the 21st stage. -/
import Derived.Test.YtkakggagaplaiaaShW56
import Derived.Test.YtkakggagaplaiaaShV
namespace Go.Proofs.Ytkakggagaplaiaa
open Go.RowKit

theorem TwS.high {x1 x2 y1 y2 : Nat} {A B C : World} (h : TwS x1 x2 A B) (k : TwS y1 y2 B C) (h1 : A.heap.size ≤ y1) (h2 : A.heap.size ≤ y2) : TwS x1 x2 A C :=
  ⟨k.os.trans h.os, k.tape.trans h.tape, k.output.trans h.output, Nat.le_trans h.size k.size, fun i hi n1 n2 => (k.block i (Nat.lt_of_lt_of_le hi h.size) (by omega) (by omega)).trans (h.block i hi n1 n2)⟩
theorem mvB_back {a b d : Nat} {u t : List Nat} (h : mvB a b u d = some t) : ∃ k, frm a b (ixN u 0) d = some k ∧ t = exc u (ixN u 0) k := by
  unfold mvB at h
  cases hf : frm a b (ixN u 0) d with
  | none => rw [hf] at h; cases h
  | some k => rw [hf] at h; injection h with h; exact ⟨k, rfl, h.symm⟩
def JH (a b x1 x2 cp : Nat) (p : Option Addr) (L : List Nat) (d : Nat) (W : World) : Prop :=
  W.heap[x1]? = some (.cells #[.int .i64 (a : Int), .int .i64 (b : Int), .slice p 6 cp] 39 (0, 0)) ∧ W.heap[x2]? = some (.cells #[.slice none 0 0] 22 (0, 0)) ∧ IntsIn W p 6 (asI L) ∧ ∀ e, e < d → (lkC (stg a b e).1 L).isSome = false
def FH (a b x2 : Nat) (L : List Nat) (d : Nat) (W : World) : Prop := L ∈ (stg a b d).2 ∧ ∃ q c, W.heap[x2]? = some (.cells #[.slice q d c] 22 (0, 0))
theorem xor_two : ∀ x : Nat, x < 4 → bits BinOp.xor IntKind.i64 (x : Int) 2 = (((x + 2) % 4 : Nat) : Int) := by decide
theorem found_in {a b d : Nat} {L : List Nat} (hn : ∀ e, e < d → (lkC (stg a b e).1 L).isSome = false) (h : (lkC (stg a b d).1 L).isSome = true) : L ∈ (stg a b d).2 := by
  cases d with
  | zero => exact first_zero h
  | succ d => exact first_in h (hn d (by omega))
set_option maxRecDepth 20000 in
set_option maxHeartbeats 4000000 in
theorem homeC_any (a b x1 x2 d m c mb cp : Nat) (q p : Option Addr) (L : List Nat) (W : World) (hab : a = 2 ∧ b = 3 ∨ a = 3 ∧ b = 2) (hd : d ≤ 21) (hL : IsOrd 6 L) (hf : (lkC (stg a b 21).1 L).isSome = true) (hJ : JH a b x1 x2 cp p L d W) (hK : KnM W mb (stg a b d).1) :
    Calls Try.prog 56 #[.slice q m c, .map (some mb), .pointer (some ⟨x1, 0, none⟩), .pointer (some ⟨x2, 0, none⟩)] W fun e W' =>
      (e = .returned (.bool true) ∧ d < 21 ∧ JH a b x1 x2 cp p L (d + 1) W' ∧ TwS x1 x2 W W') ∨ (e = .returned (.bool false) ∧ FH a b x2 L d W' ∧ TwS x1 x2 W W') := by
  have hdd : 2 ≤ a ∧ a ≤ 3 ∧ 2 ≤ b ∧ b ≤ 3 ∧ a * b = 6 := by rcases hab with ⟨rfl, rfl⟩ | ⟨rfl, rfl⟩ <;> decide
  obtain ⟨d1, d2, d3, d4, d5⟩ := hdd
  obtain ⟨h1, h2, hx, hn⟩ := hJ
  have l1 := lt_of_heap h1
  have l2 := lt_of_heap h2
  have c2 : W.cell? ⟨x1, 2, none⟩ = some (.slice p 6 cp) := wcell (cs := [_, _, _]) h1 2
  have HN := Lib.hid (name_any p cp L W hx)
  unfold nmV at HN
  replace h1 := Lib.hid h1; replace h2 := Lib.hid h2; replace hx := Lib.hid hx; replace hn := Lib.hid hn; replace hK := Lib.hid hK
  go_enter Try.func56, Try.ntmps56
  go_wp2_with fail
  refine HN.out.mono ?_
  rintro e W1 ⟨rfl, hb1⟩
  have hK1 := hK.out.below hb1
  obtain ⟨x0, hlk, _⟩ := kn_look hK1 hL
  unfold nmV at hlk
  have q1 := (hb1.block x1 l1).trans h1.out
  have q2 := (hb1.block x2 l2).trans h2.out
  have hx1 := hx.out.below hb1
  have hT1 : TwS x1 x2 W W1 := (TwS.refl x1 x2 W).low hb1 (Nat.le_refl _)
  replace hK1 := Lib.hid hK1
  clear HN c2
  cases hlc : (lkC (stg a b d).1 L).isSome
  · rw [hlc] at hlk
    have hdl : d < 21 := by
      rcases Nat.lt_or_ge d 21 with h | h
      · exact h
      · obtain rfl : d = 21 := by omega
        rw [hf] at hlc; cases hlc
    have hfin : Hid (JH a b x1 x2 cp p L (d + 1) W1 ∧ TwS x1 x2 W W1) := ⟨⟨q1, q2, hx1, fun e he => by
      rcases Nat.lt_or_ge e d with h | h
      · exact hn.out e h
      · obtain rfl : e = d := by omega
        exact hlc⟩, hT1⟩
    clear hx1 hT1 q1 q2 hb1
    go_wp2_with fail
    go_ret
    exact .inl ⟨rfl, hdl, hfin.out.1, hfin.out.2⟩
  · rw [hlc] at hlk
    have hin : L ∈ (stg a b d).2 := found_in hn.out hlc
    have e0 : W1.cell? ⟨x1, 0, none⟩ = some (.int .i64 (a : Int)) := wcell (cs := [_, _, _]) q1 0
    have e1 : W1.cell? ⟨x1, 1, none⟩ = some (.int .i64 (b : Int)) := wcell (cs := [_, _, _]) q1 1
    have e2 : W1.cell? ⟨x1, 2, none⟩ = some (.slice p 6 cp) := wcell (cs := [_, _, _]) q1 2
    have hNT := Lib.hid (newTray_any a b 6 cp p L W1 (by omega) (by omega) hx1 hL)
    replace hT1 := Lib.hid hT1; replace q2 := Lib.hid q2
    have m2 : x2 < W1.heap.size := lt_of_heap q2.out
    have m1 : x1 < W1.heap.size := lt_of_heap q1
    clear hx1 hb1 q1 hx h1 h2 hK
    go_wp2_with fail
    refine hNT.out.mono ?_
    rintro e W2 ⟨tb, qt, ct, rfl, hTr, hb2⟩
    have q22 := (hb2.block x2 m2).trans q2.out
    have hT2 : TwS x1 x2 W W2 := hT1.out.low hb2 hT1.out.size
    have hK2 := hK1.out.below hb2
    obtain ⟨B, hB⟩ : ∃ B, B = W1.heap.size := ⟨_, rfl⟩
    rw [← hB] at hTr m1 m2
    have hb2s := Lib.hid hT1.out.size
    replace hB := Lib.hid hB
    have hz2 : B ≤ W2.heap.size := by have := hb2.size; have := hB.out; omega
    replace hTr := Lib.hid hTr; replace hT2 := Lib.hid hT2; replace hK2 := Lib.hid hK2; replace q22 := Lib.hid q22
    clear hNT hb2 e0 e1 e2
    obtain ⟨gt, rfl, hgB, hgl, _⟩ := OwnC.where (k := 1) hTr.out.own (show 0 < 6 by decide)
    have htl : tb < W2.heap.size := lt_of_heap hTr.out.box
    have htB : B ≤ tb := hTr.out.low
    have hWB : W.heap.size ≤ B := by rw [hB.out]; exact hb2s.out
    have hmb : mb < B := by rw [hB.out]; exact hK1.out.lt
    go_wp2_with fail
    go_loopg [10] d (fun gk _ W' => ∃ (i c : Nat) (q : Option Addr) (u : List Nat) (xs : List Int), i ≤ d ∧ gk = d - i ∧ Hid (u ∈ (stg a b (d - i)).2) ∧ Hid (Tray B W' tb a b 6 (some ⟨gt, 0, none⟩) ct (ixN u 0) u) ∧ Hid (KnM W' mb (stg a b d).1) ∧ Hid (W'.heap[x2]? = some (.cells #[.slice q i c] 22 (0, 0))) ∧ Hid (Own 3 W2.heap.size W' q i c xs) ∧ Hid (TwS x1 x2 W W') ∧ Hid (W2.heap.size ≤ W'.heap.size))
    case atStart => exact ⟨0, 0, none, L, [], by omega, by omega, hin, hTr, hK2, q22, Own.nil _ _ _, hT2, Nat.le_refl _⟩
    case round =>
      clear hTr hK2 q22 hT2
      obtain ⟨i, c, q, u, xs, hi, hgk, hu, hTr, hK2, q22, hO, hT2, hz⟩ := hrel
      obtain ⟨W3, rfl⟩ : ∃ W3 : World, W3 = wr := ⟨_, rfl⟩
      replace hgk := Lib.hid hgk
      have huo : IsOrd 6 u := ring_ord d1 d2 d3 d4 d5 (d - i) u hu.out
      have e2 : W3.cell? ⟨tb, 2, none⟩ = some (.slice (some ⟨gt, 0, none⟩) 6 ct) := wcell (cs := [_, _, _, _]) hTr.out.box 2
      have HN := Lib.hid (name_any (some ⟨gt, 0, none⟩) ct u W3 hTr.out.own.in)
      unfold nmV at HN
      replace huo := Lib.hid huo
      go_upto_region 5 with fail
      rcases Nat.lt_or_ge i d with hlt | hge
      · obtain ⟨e, he⟩ : ∃ e, d - i = e + 1 := ⟨d - i - 1, by omega⟩
        have hu2 := hu.out
        rw [he] at hu2
        obtain ⟨x, t, hx4, hlk2, ht, hmv⟩ := ring_back d1 d2 d3 d4 d5 (e := d) (by omega) hu2
        obtain ⟨k, hfr, htk⟩ := mvB_back hmv
        have dz : decide ((0 : Int) ≤ (x : Int)) = true := decide_eq_true (by omega)
        go_wp2_with fail
        refine HN.out.mono ?_
        rintro e' W4 ⟨rfl, hb4⟩
        have hK4 := hK2.out.below hb4
        have hg4 := kn_get hK4 huo.out hlk2
        unfold nmV at hg4
        have htl4 : tb < W3.heap.size := lt_of_heap hTr.out.box
        have hT4 : Tray B W4 tb a b 6 (some ⟨gt, 0, none⟩) ct (ixN u 0) u := ⟨(hb4.block tb htl4).trans hTr.out.box, OwnC.below (k := 1) hTr.out.own hb4 (Nat.le_refl _), htB, hTr.out.ne⟩
        have e24 : W4.cell? ⟨tb, 2, none⟩ = some (.slice (some ⟨gt, 0, none⟩) 6 ct) := wcell (cs := [_, _, _, _]) hT4.box 2
        have HN2 := Lib.hid (name_any (some ⟨gt, 0, none⟩) ct u W4 hT4.own.in)
        unfold nmV at HN2
        replace hK4 := Lib.hid hK4; replace hT4 := Lib.hid hT4
        go_wp2_with fail
        refine HN2.out.mono ?_
        rintro e' W5 ⟨rfl, hb5⟩
        have hK5 := hK4.out.below hb5
        have hg5 := kn_get hK5 huo.out hlk2
        unfold nmV at hg5
        have hT5 : Tray B W5 tb a b 6 (some ⟨gt, 0, none⟩) ct (ixN u 0) u := ⟨(hb5.block tb (lt_of_heap hT4.out.box)).trans hT4.out.box, OwnC.below (k := 1) hT4.out.own hb5 (Nat.le_refl _), htB, hT4.out.ne⟩
        have hb35 : Below W3.heap.size W3 W5 := hb4.trans (hb5.mono hb4.size)
        replace hK5 := Lib.hid hK5; replace hT5 := Lib.hid hT5; replace hb35 := Lib.hid hb35
        clear hb4 hb5 hT4 hK4 HN HN2
        go_upto_region 6 with fail
        rw [xor_two x hx4]
        obtain ⟨y, hy⟩ : ∃ y, (x + 2) % 4 = y := ⟨_, rfl⟩
        rw [hy] at hfr ⊢
        have hy4 : y < 4 := by omega
        have hix := ix_moved d1 d2 d3 d4 d5 huo.out hy4 hfr
        have HM := Lib.hid (move_two B tb a b 6 ct (ixN u 0) y k (some ⟨gt, 0, none⟩) u W5 d1 d2 d3 d4 d5.symm hy4 hT5.out huo.out rfl hfr)
        rw [← htk] at HM hix
        rw [hix] at HM
        refine HM.out.mono ?_
        rintro e' W6 ⟨rfl, hT6, _, hW6⟩
        have hW6 := hW6 gt rfl
        have hz5 : W2.heap.size ≤ W5.heap.size := Nat.le_trans hz.out hb35.out.size
        have hz6 : W2.heap.size ≤ W6.heap.size := Nat.le_trans hz5 hW6.size
        have q26 : W6.heap[x2]? = some (.cells #[.slice q i c] 22 (0, 0)) := (hW6.block x2 (by omega) (by omega) (by omega)).trans ((hb35.out.block x2 (lt_of_heap q22.out)).trans q22.out)
        have k26 : W6.cell? ⟨x2, 0, none⟩ = some (.slice q i c) := wcell (cs := [_]) q26 0
        have hqb : ∀ z, q.map (·.block) = some z → W2.heap.size ≤ z := fun z e => by
          cases q with
          | none => cases e
          | some ad => simp at e; subst e; exact (OwnC.block (k := 1) hO.out ad rfl).1
        have hO6 : Own 3 W2.heap.size W6 q i c xs := OwnC.keep (k := 1) (OwnC.below (k := 1) hO.out hb35.out (Nat.le_refl _)) fun ad had => by
          have h5 := (OwnC.block (k := 1) hO.out ad had)
          exact hW6.block _ (by have := hb35.out.size; omega) (by omega) (by omega)
        have hK6 := hK5.out.two hW6 (by omega) (by omega)
        have hmx : mb ≠ x2 := fun e => (hK6.notRow (i := 0) (v := .slice q i c)) (by rw [e]; exact k26)
        have hTw6 : TwS x1 x2 W W6 := (hT2.out.low hb35.out hT2.out.size).high hW6 (by omega) (by omega)
        replace hT6 := Lib.hid hT6; replace hO6 := Lib.hid hO6; replace hK6 := Lib.hid hK6; replace hTw6 := Lib.hid hTw6; replace q26 := Lib.hid q26; replace hqb := Lib.hid hqb
        clear HM hT5 hK5 hb35 hT2 hO q22 hK2 hTr hW6
        go_wp2_with (at_builtin; refine wp_append1 intG W6 rfl _ _ rfl W2.heap.size q i c _ rfl hO6.out (y : Int) rfl (by omega) hz6 ?_; intro q7 c7 W7 hO7 hg7 _ hz7; have q27 := (hg7.block x2 (lt_of_heap q26.out) (fun e => by have := hqb.out _ e.symm; omega)).trans q26.out; have fz := wfree q27 0; have k27 : W7.cell? ⟨x2, 0, none⟩ = some (.slice q i c) := wcell (cs := [_]) q27 0; replace q27 := Lib.hid q27; replace hO7 := Lib.hid hO7; replace hg7 := Lib.hid hg7; replace hz7 := Lib.hid hz7)
        have hB67 : Below W2.heap.size W6 W7 := (Below.refl _ W6).grown hg7.out hz6 (fun z e => hqb.out z e)
        have n1 : x2 < W2.heap.size := by omega
        obtain ⟨W8, hW8⟩ : ∃ W8, W8 = W7.setCell ⟨x2, 0, none⟩ (.slice q7 (i + 1) c7) := ⟨_, rfl⟩
        have hS8 : TwS x2 x2 W7 W8 := by rw [hW8]; exact (TwS.refl x2 x2 W7).set (.inl rfl) _
        have g1 : W8.heap[x2]? = some (.cells #[.slice q7 (i + 1) c7] 22 (0, 0)) := by rw [hW8]; exact wset q27.out 0 _
        have hbl : ∀ z, z < W2.heap.size → z ≠ x2 → W8.heap[z]? = W6.heap[z]? := fun z h1 h2 => (hS8.block z (Nat.lt_of_lt_of_le (Nat.lt_of_lt_of_le h1 hz6) hB67.size) h2 h2).trans (hB67.block z h1)
        have hT8 : Tray B W8 tb a b 6 (some ⟨gt, 0, none⟩) ct (ixN t 0) t := ⟨(hbl tb htl (by omega)).trans hT6.out.box, OwnC.keep (k := 1) hT6.out.own fun ad had => by cases had; exact hbl gt hgl (by omega), htB, hT6.out.ne⟩
        have hO8 : Own 3 W2.heap.size W8 q7 (i + 1) c7 _ := OwnC.keep (k := 1) hO7.out fun ad had => by
          have h5 := (OwnC.block (k := 1) hO7.out ad had)
          exact hS8.block _ h5.2 (by omega) (by omega)
        have hK8 := (hK6.out.grown hg7.out (fun e => by have := hqb.out _ e.symm; omega)).two hS8 hmx hmx
        have hT28 : TwS x1 x2 W W8 := by
          rw [hW8]
          exact (hTw6.out.low hB67 (by omega)).set (.inr rfl) _
        have hz8 : W2.heap.size ≤ W8.heap.size := Nat.le_trans hz6 (Nat.le_trans hB67.size hS8.size)
        have ht2 : t ∈ (stg a b (d - (i + 1))).2 := by rw [show d - (i + 1) = e by omega]; exact ht
        rw [← hW8]
        have hgk := hgk.out
        go_roundg (d - (i + 1))
        case measure => omega
        case rel => exact ⟨i + 1, c7, q7, t, _, by omega, rfl, ht2, hT8, hK8, g1, hO8, hT28, hz8⟩
      · obtain rfl : i = d := by omega
        have hu2 := hu.out
        rw [Nat.sub_self] at hu2
        obtain rfl := ring_zero hu2
        go_wp2_with fail
        refine HN.out.mono ?_
        rintro e W4 ⟨rfl, hb4⟩
        have hg := kn_get (hK2.out.below hb4) huo.out ring_home
        unfold nmV at hg
        have q24 := (hb4.block x2 (lt_of_heap q22.out)).trans q22.out
        have hfin : Hid (FH a b x2 L i W4 ∧ TwS x1 x2 W W4) := ⟨⟨hin, q, c, q24⟩, hT2.out.low hb4 hT2.out.size⟩
        clear HN hb4 q24 hTr
        go_wp2_with fail
        go_ret
        exact .inr ⟨rfl, hfin.out.1, hfin.out.2⟩
end Go.Proofs.Ytkakggagaplaiaa
