/- What slices.IndexFunc at the closure of pegs.Do computes: the first jump of a move that can be made; conditions: a board of at most 100 places. -/
import Derived.Test.YtapoimadiiheaaaDoC
namespace Go.Proofs.Ytapoimadiiheaaa
open Go.RowKit

def mtch (mf mt : Nat) (s : List Nat) (j : Jm) : Bool := decide (j.1 = mf ∧ j.2.2 = mt) && canJ s j
theorem clo25 (j : Jm) (mf mt a b n c b9 gb : Nat) (q : Option Addr) (s : List Nat) (W : World) (hn : n ≤ 100) (h9 : W.heap[b9]? = some (.cells #[.int .i64 (mf : Int), .int .i64 (mt : Int), .int .i64 0] 32 (0, 0))) (hg : W.heap[gb]? = some (.cells #[.int .i64 (a : Int), .int .i64 (b : Int), .slice q n c] 24 (0, 0)))
    (hx : IntsIn W q n (asI s)) (hw : wfJ n j) :
    Calls Try.prog 25 #[.agg #[.int .i64 (j.1 : Int), .int .i64 (j.2.1 : Int), .int .i64 (j.2.2 : Int)], .pointer (some ⟨b9, 0, none⟩), .pointer (some ⟨gb, 0, none⟩)] W fun e W' => e = .returned (.bool (mtch mf mt s j)) ∧ Bw W W' := by
  obtain ⟨jf, jo, jt⟩ := j
  unfold mtch
  simp only
  by_cases h1 : jf = mf
  · subst h1
    by_cases h2 : jt = mt
    · subst h2
      rw [decide_eq_true ⟨rfl, rfl⟩, Bool.true_and]
      exact clo25_yes jf jo jt a b n c b9 gb q s W hn h9 hg hx hw
    · rw [decide_eq_false (fun h => h2 h.2), Bool.false_and]
      exact clo25_noA jf jo jt mt a b n c b9 gb q W h9 hg h2
  · rw [decide_eq_false (fun h => h1 h.1), Bool.false_and]
    exact clo25_noB jf jo jt mf mt a b n c b9 gb q W h9 hg h1
def IdxP (mf mt m : Nat) (s : List Nat) (J : List Jm) (e : Ending) : Prop := ∃ (i : Nat) (j : Jm), e = .returned (.int .i64 (i : Int)) ∧ i < m ∧ J[i]? = some j ∧ mtch mf mt s j = true
set_option maxHeartbeats 2000000 in
theorem idx24 (mf mt a b n c b9 gb m cm B : Nat) (q p : Option Addr) (s : List Nat) (J : List Jm) (W : World) (hn : n ≤ 100) (hm : m ≤ 400) (h9 : W.heap[b9]? = some (.cells #[.int .i64 (mf : Int), .int .i64 (mt : Int), .int .i64 0] 32 (0, 0))) (hg : W.heap[gb]? = some (.cells #[.int .i64 (a : Int), .int .i64 (b : Int), .slice q n c] 24 (0, 0)))
    (hx : IntsIn W q n (asI s)) (hJ : JIn B W p m J) (hw : ∀ j ∈ J, wfJ n j) (hex : ∃ j ∈ J, mtch mf mt s j = true) :
    Calls Try.prog 24 #[.slice p m cm, .func (.func 25) #[] #[.pointer (some ⟨b9, 0, none⟩), .pointer (some ⟨gb, 0, none⟩)]] W fun e W' => IdxP mf mt m s J e ∧ Bw W W' := by
  have HC : Hid (∀ X : World, Bw W X → ∀ j ∈ J, Calls Try.prog 25 #[.agg #[.int .i64 (j.1 : Int), .int .i64 (j.2.1 : Int), .int .i64 (j.2.2 : Int)], .pointer (some ⟨b9, 0, none⟩), .pointer (some ⟨gb, 0, none⟩)] X fun e X' => e = .returned (.bool (mtch mf mt s j)) ∧ Bw W X') := fun X hX j hj =>
    (clo25 j mf mt a b n c b9 gb q s X hn ((Below.block hX _ (lt_of_heap h9)).trans h9) ((Below.block hX _ (lt_of_heap hg)).trans hg) (hx.below hX) (hw j hj)).mono fun e X' h => ⟨h.1, hX.trans h.2⟩
  have hJX : Hid (∀ X : World, Bw W X → JIn B X p m J) := fun X hX => hJ.below hX
  have hlen := Lib.hid hJ.1
  have hr0 := Lib.hid (Bw.refl W)
  replace hex := Lib.hid hex
  clear h9 hg hx hJ hw
  go_enter Try.func24, Try.ntmps24
  go_wp2_with fail
  go_loopg [8] m (fun gk iv W' => ∃ i : Nat, i ≤ m ∧ gk = m - i ∧ iv = .int .i64 i ∧ (∀ k j, k < i → J[k]? = some j → mtch mf mt s j = false) ∧ Bw W W')
  case atStart => exact ⟨0, Nat.zero_le _, rfl, rfl, fun k j h => absurd h (by omega), hr0.out⟩
  case round =>
    obtain ⟨i, him, hgk, rfl, hno, hb⟩ := hrel
    obtain ⟨W2, rfl⟩ : ∃ W2 : World, W2 = wr := ⟨_, rfl⟩
    replace hgk := Lib.hid hgk
    by_cases hlt : i < m
    · obtain ⟨ga, j, rfl, _, hga, hji, k0, k1, k2⟩ := (hJX.out W2 hb).2 i hlt
      have k0' : W2.cell? ⟨ga, i * 3, none⟩ = some (.int .i64 (j.1 : Int)) := by rw [Nat.mul_comm]; exact k0
      have k1' : W2.cell? ⟨ga, i * 3 + 1, none⟩ = some (.int .i64 (j.2.1 : Int)) := by rw [Nat.mul_comm]; exact k1
      have k2' : W2.cell? ⟨ga, i * 3 + 2, none⟩ = some (.int .i64 (j.2.2 : Int)) := by rw [Nat.mul_comm]; exact k2
      have H := Lib.hid (HC.out W2 hb j (List.mem_of_getElem? hji))
      obtain ⟨z, hz⟩ : ∃ z, z = mtch mf mt s j := ⟨_, rfl⟩
      rw [← hz] at H
      replace hz := Lib.hid hz; replace hji := Lib.hid hji; replace hno := Lib.hid hno; replace hb := Lib.hid hb
      obtain ⟨jf, jo, jt⟩ := j
      simp only at k0 k1 k2 k0' k1' k2' H
      cases z with
      | true =>
        go_wp2_with (go_at_call 25; refine H.out.mono ?_; rintro e w6 ⟨rfl, hb6⟩; replace hb6 := Lib.hid hb6)
        go_ret
        exact ⟨⟨i, (jf, jo, jt), rfl, hlt, hji.out, hz.out.symm⟩, hb6.out⟩
      | false =>
        go_wp2_with (go_at_call 25; refine H.out.mono ?_; rintro e w6 ⟨rfl, hb6⟩; replace hb6 := Lib.hid hb6)
        have hgk := hgk.out
        go_roundg (m - (i + 1))
        case measure => omega
        case rel => exact ⟨i + 1, hlt, rfl, by go_num, fun k j' hk hj' => by
          by_cases e : k = i
          · subst e; rw [hji.out] at hj'; cases hj'; exact hz.out.symm
          · exact hno.out k j' (by omega) hj', hb6.out⟩
    · exfalso
      obtain ⟨j, hj, hj1⟩ := hex.out
      obtain ⟨k, hk, e⟩ := List.mem_iff_getElem.1 hj
      have := hno k j (by have := hlen.out; omega) (by rw [List.getElem?_eq_getElem hk, e])
      rw [this] at hj1; cases hj1
end Go.Proofs.Ytapoimadiiheaaa
