/- What pegs.Jumps and gameroomkeep.ints compute, and pegs.Class where a board may not be; conditions: boards of 1 to 10 by 1 to 10 places. -/
import Derived.Test.YtapoimadiiheaaaExs
namespace Go.Proofs.Ytapoimadiiheaaa
open Go.RowKit

set_option maxHeartbeats 1000000 in
theorem ints_any (p : Option Addr) (n c : Nat) (xs : List Int) (w : World) (hn : n < 1099511627776) (h0 : 0 < n) (hx : IntsIn w p n xs) :
    Calls Try.prog 14 #[.slice p n c] w fun e w' => ∃ p' c', e = .returned (.slice p' n c') ∧ Own 3 w.heap.size w' p' n c' xs ∧ Below w.heap.size w w' := by
  obtain ⟨b, o, rfl, _, _⟩ := hx.at h0
  have hx' := Lib.hid hx
  clear hx
  go_enter Try.func14, Try.ntmps14
  go_wp2_with (at_builtin; refine wp_appendL intG w rfl _ _ rfl w.heap.size none 0 0 [] rfl (Own.nil 3 w.heap.size w) ⟨b, o, none⟩ n c xs rfl hx'.out (by omega) (Nat.le_refl _) ?_; intro p' c' w2 hO hg _ hz)
  have hB : Below w.heap.size w w2 := (Below.refl _ w).grown hg (Nat.le_refl _) (fun x hx => by cases hx)
  replace hO := Lib.hid hO; replace hB := Lib.hid hB
  clear hg hz
  go_ret
  exact ⟨p', c', by simp, by simpa using hO.out, hB.out⟩
/-- what Jumps hands back. -/
def JmpP (w' : World) (a b : Nat) (s : List Nat) (e : Ending) : Prop := ∃ p m c row, e = .returned (.tuple #[.slice p m c, .int .i64 0]) ∧ m ≤ 400 ∧ MvIn w' p m row ∧ ∀ j ∈ row, inJ a b s j ∧ canJ s j = true
/-- the row of moves so far. -/
def JmS (B : Nat) (W : World) (a b : Nat) (s : List Nat) (i : Nat) (v : Value) : Prop := ∃ p m c row, v = .slice p m c ∧ m ≤ i ∧ OwnM B W p m c row ∧ ∀ j ∈ row, inJ a b s j ∧ canJ s j = true
set_option maxHeartbeats 4000000 in
theorem jmp_yes (a b n c : Nat) (q : Option Addr) (s : List Nat) (w : World) (ha1 : 1 ≤ a) (ha : a ≤ 10) (hbp : 1 ≤ b) (hb : b ≤ 10) (hn : n = a * b) (hx : IntsIn w q n (asI s)) (hs2 : ∀ j, st s j ≤ 2) :
    Calls Try.prog 12 #[.agg #[.int .i64 (a : Int), .int .i64 (b : Int), .slice q n c]] w fun e w' => JmpP w' a b s e ∧ Bw w w' := by
  have hn100 : n ≤ 100 := by rw [hn]; exact Nat.mul_le_mul ha hb
  have hsl : s.length = n := by have := hx.len; rwa [asI_len] at this
  have hm : mayG a b (asI s) = true := mayG_of ha1 ha hbp hb (by rw [hsl, hn]) hs2
  have e0 := heap_alloc_new w (.cells #[.int .i64 (a : Int), .int .i64 (b : Int), .slice q n c] 24)
  have hb0 : Bw w (w.alloc (.cells #[.int .i64 (a : Int), .int .i64 (b : Int), .slice q n c] 24)) := (Bw.refl w).alloc _
  have hw0 := Lib.hid hx
  clear hx
  replace hn := Lib.hid hn
  go_enter Try.func12, Try.ntmps12
  go_upto_region 1 with fail
  generalize w.alloc (.cells #[.int .i64 (a : Int), .int .i64 (b : Int), .slice q n c] 24) = W0 at *
  have HX : Hid (∀ X : World, Bw W0 X → IntsIn X q n (asI s)) := fun X hX => hw0.out.below (hb0.trans hX)
  have G : Hid (∀ X : World, Bw W0 X → X.heap[w.heap.size]? = some (.cells #[.int .i64 (a : Int), .int .i64 (b : Int), .slice q n c] 24 (0, 0))) := fun X hX => (Below.block hX _ (lt_of_heap e0)).trans e0
  have HM := may_any q n c a b (asI s) W0 (by omega) (by omega) (by omega) (by omega) (by omega) (HX.out W0 (Bw.refl W0))
  rw [hm] at HM
  replace HM := Lib.hid HM
  have d0 : W0.cell? ⟨w.heap.size, 0, none⟩ = some (.int .i64 (a : Int)) := wcell (cs := [_, _, _]) e0 0
  have d1 : W0.cell? ⟨w.heap.size, 1, none⟩ = some (.int .i64 (b : Int)) := wcell (cs := [_, _, _]) e0 1
  have d2 : W0.cell? ⟨w.heap.size, 2, none⟩ = some (.slice q n c) := wcell (cs := [_, _, _]) e0 2
  replace e0 := Lib.hid e0; replace hb0 := Lib.hid hb0
  go_upto_region 4 with (go_at_call 11; refine HM.out.mono ?_; rintro e w1 ⟨rfl, hb1⟩; replace hb1 := Lib.hid hb1)
  have hb01 : Hid (Bw W0 w1) := hb1.out
  have HJ := Lib.hid (jumps_any a b n c q s w1 ha1 ha hb hn.out (HX.out w1 hb01.out))
  clear d0 d1 d2 HM
  have d0 : w1.cell? ⟨w.heap.size, 0, none⟩ = some (.int .i64 (a : Int)) := wcell (cs := [_, _, _]) (G.out w1 hb01.out) 0
  have d1 : w1.cell? ⟨w.heap.size, 1, none⟩ = some (.int .i64 (b : Int)) := wcell (cs := [_, _, _]) (G.out w1 hb01.out) 1
  have d2 : w1.cell? ⟨w.heap.size, 2, none⟩ = some (.slice q n c) := wcell (cs := [_, _, _]) (G.out w1 hb01.out) 2
  go_upto_region 5 with (go_at_call 23; refine HJ.out.mono ?_; rintro e w2 ⟨qa, m, cm, J, rfl, hm4, hJin, hperm, hB2⟩; replace hJin := Lib.hid hJin; replace hperm := Lib.hid hperm; replace hB2 := Lib.hid hB2)
  clear d0 d1 d2 HJ
  have hb02 : Hid (Bw W0 w2) := hb01.out.trans hB2.out
  have hJ : Hid (∀ j, j ∈ J ↔ inJ a b s j) := fun j => by rw [hperm.out.mem_iff, hn.out]; exact mem_allJ ha1
  have hJX : Hid (∀ X : World, Bw w2 X → JIn (w1.heap.size + 1) X qa m J) := fun X hX => hJin.out.below hX
  have hS0 : Hid (JmS w2.heap.size w2 a b s 0 (.slice none 0 0)) := ⟨none, 0, 0, [], rfl, Nat.le_refl _, OwnC.nil _ _ _ _, by simp⟩
  have hr2 := Lib.hid (Bw.refl w2)
  go_wp2_with fail
  go_loopg [4, 13] m (fun gk lv iv W' => ∃ i : Nat, i ≤ m ∧ gk = m - i ∧ iv = .int .i64 i ∧ JmS w2.heap.size W' a b s i lv ∧ Bw w2 W')
  case atStart => exact ⟨0, Nat.zero_le _, rfl, rfl, hS0.out, hr2.out⟩
  case round =>
    obtain ⟨i, him, hgk, rfl, hS, hbi⟩ := hrel
    obtain ⟨W2, rfl⟩ : ∃ W2 : World, W2 = wr := ⟨_, rfl⟩
    replace hgk := Lib.hid hgk
    clear hS0
    by_cases hlt : i < m
    · obtain ⟨ga, j, rfl, _, hga, hji, k0, k1, k2⟩ := (hJX.out W2 hbi).2 i hlt
      have k0' : W2.cell? ⟨ga, i * 3, none⟩ = some (.int .i64 (j.1 : Int)) := by rw [Nat.mul_comm]; exact k0
      have k1' : W2.cell? ⟨ga, i * 3 + 1, none⟩ = some (.int .i64 (j.2.1 : Int)) := by rw [Nat.mul_comm]; exact k1
      have k2' : W2.cell? ⟨ga, i * 3 + 2, none⟩ = some (.int .i64 (j.2.2 : Int)) := by rw [Nat.mul_comm]; exact k2
      have hin := (hJ.out j).1 (List.mem_of_getElem? hji)
      have hwf : wfJ n j := by
        have := inJ_wf (by rw [hsl, hn.out]) hin
        rw [hsl] at this; exact this
      obtain ⟨p, l, cl, row, rfl, hli, hO, hrow⟩ := hS
      have e9 := heap_alloc_new W2 (.cells #[.int .i64 (j.1 : Int), .int .i64 (j.2.1 : Int), .int .i64 (j.2.2 : Int)] 54)
      have hb9 : Bw W2 (W2.alloc (.cells #[.int .i64 (j.1 : Int), .int .i64 (j.2.1 : Int), .int .i64 (j.2.2 : Int)] 54)) := (Bw.refl W2).alloc _
      have h09 : Bw W0 (W2.alloc (.cells #[.int .i64 (j.1 : Int), .int .i64 (j.2.1 : Int), .int .i64 (j.2.2 : Int)] 54)) := hb02.out.trans (hbi.trans hb9)
      have a0 : (W2.alloc (.cells #[.int .i64 (j.1 : Int), .int .i64 (j.2.1 : Int), .int .i64 (j.2.2 : Int)] 54)).cell? ⟨W2.heap.size, 0, none⟩ = some (.int .i64 (j.1 : Int)) := wcell (cs := [_, _, _]) e9 0
      have a1 : (W2.alloc (.cells #[.int .i64 (j.1 : Int), .int .i64 (j.2.1 : Int), .int .i64 (j.2.2 : Int)] 54)).cell? ⟨W2.heap.size, 1, none⟩ = some (.int .i64 (j.2.1 : Int)) := wcell (cs := [_, _, _]) e9 1
      have a2 : (W2.alloc (.cells #[.int .i64 (j.1 : Int), .int .i64 (j.2.1 : Int), .int .i64 (j.2.2 : Int)] 54)).cell? ⟨W2.heap.size, 2, none⟩ = some (.int .i64 (j.2.2 : Int)) := wcell (cs := [_, _, _]) e9 2
      have d2 : (W2.alloc (.cells #[.int .i64 (j.1 : Int), .int .i64 (j.2.1 : Int), .int .i64 (j.2.2 : Int)] 54)).cell? ⟨w.heap.size, 2, none⟩ = some (.slice q n c) := wcell (cs := [_, _, _]) (G.out _ h09) 2
      have HC := can_any j n c q s (W2.alloc (.cells #[.int .i64 (j.1 : Int), .int .i64 (j.2.1 : Int), .int .i64 (j.2.2 : Int)] 54)) (by omega) (HX.out _ h09) hwf
      obtain ⟨z, hz⟩ : ∃ z, z = canJ s j := ⟨_, rfl⟩
      rw [← hz] at HC
      have hgood : Hid (z = true → inJ a b s j ∧ canJ s j = true) := fun h => ⟨hin, by rw [← hz]; exact h⟩
      have hl400 : l ≤ 400 := by omega
      replace HC := Lib.hid HC; replace hz := Lib.hid hz; replace hO := Lib.hid hO; replace hrow := Lib.hid hrow; replace e9 := Lib.hid e9; replace hb9 := Lib.hid hb9; replace h09 := Lib.hid h09; replace hbi := Lib.hid hbi; replace hji := Lib.hid hji; replace hin := Lib.hid hin; replace hwf := Lib.hid hwf
      obtain ⟨jf, jo, jt⟩ := j
      simp only at k0 k1 k2 k0' k1' k2' a0 a1 a2 d2 HC e9 hb9 h09 hgood
      cases z with
      | false =>
        go_wp2_with (go_at_call 26; (with_reducible refine HC.out.mono ?_); rintro e w6 ⟨rfl, hb6⟩; replace hb6 := Lib.hid hb6)
        have hfin : Hid (JmS w2.heap.size w6 a b s (i + 1) (.slice p l cl)) := ⟨p, l, cl, row, rfl, by omega, OwnC.below hO.out (hb9.out.trans hb6.out) (Nat.le_refl _), hrow.out⟩
        have hgk := hgk.out
        go_roundg (m - (i + 1))
        case measure => omega
        case rel => exact ⟨i + 1, hlt, rfl, by go_num, hfin.out, hbi.out.trans (hb9.out.trans hb6.out)⟩
      | true =>
        go_upto_region 8 with (go_at_call 26; (with_reducible refine HC.out.mono ?_); rintro e w6 ⟨rfl, hb6⟩; replace hb6 := Lib.hid hb6)
        have hb26 : Hid (Bw W2 w6) := hb9.out.trans hb6.out
        have e6 := (Below.block hb6.out _ (lt_of_heap e9.out)).trans e9.out
        have HV : Hid (Calls Try.prog 21 #[.agg #[.int .i64 (jf : Int), .int .i64 (jo : Int), .int .i64 (jt : Int)]] w6 fun e X' => e = .returned (.agg #[.int .i64 (jf : Int), .int .i64 (jt : Int), .int .i64 0]) ∧ Bw w6 X') := move_any jf jo jt w6
        clear a0 a1 a2 d2 k0 k1 k2 k0' k1' k2'
        have a0 : w6.cell? ⟨W2.heap.size, 0, none⟩ = some (.int .i64 (jf : Int)) := wcell (cs := [_, _, _]) e6 0
        have a1 : w6.cell? ⟨W2.heap.size, 1, none⟩ = some (.int .i64 (jo : Int)) := wcell (cs := [_, _, _]) e6 1
        have a2 : w6.cell? ⟨W2.heap.size, 2, none⟩ = some (.int .i64 (jt : Int)) := wcell (cs := [_, _, _]) e6 2
        have hs26 : w2.heap.size ≤ w6.heap.size := Nat.le_trans (Below.size hbi.out) (Below.size hb26.out)
        replace e6 := Lib.hid e6
        go_wp2_with (first
          | (go_at_call 21; (with_reducible refine HV.out.mono ?_); rintro e w7 ⟨rfl, hb7⟩; have hO7 := Lib.hid (OwnC.below hO.out (hb26.out.trans hb7) (Nat.le_refl _)); have hs7 : w2.heap.size ≤ w7.heap.size := Nat.le_trans hs26 (Below.size hb7); replace hb7 := Lib.hid hb7)
          | (at_builtin; refine wp_appendVs el32 w7 rfl _ _ rfl w2.heap.size p l cl (mvals row) rfl hO7.out #[.int .i64 (jf : Int), .int .i64 (jt : Int), .int .i64 0] rfl rfl w7.heap.size rfl rfl (by omega) hs7 ?_; intro p9 c9 w9 hO9 hg9 _ hz9; replace hO9 := Lib.hid hO9; replace hg9 := Lib.hid hg9))
        have hlow9 : Hid (Bw w2 w9) := by
          have h1 : Bw w2 w7 := hbi.out.trans (hb26.out.trans hb7.out)
          refine Below.grown h1 hg9.out (Below.size h1) ?_
          intro x hx
          cases p with
          | none => cases hx
          | some y => simp at hx; subst hx; exact (OwnC.block hO.out y rfl).1
        have hfin : Hid (JmS w2.heap.size w9 a b s (i + 1) (.slice p9 (l + 1) c9)) := ⟨p9, l + 1, c9, row ++ [(jf, jo, jt)], rfl, by omega, by
          show OwnC _ _ _ _ _ _ _ _
          rw [mvals_app, show mvals [(jf, jo, jt)] = [.int .i64 (jf : Int), .int .i64 (jt : Int), .int .i64 0] from rfl]
          exact hO9.out, fun x hx => by
          rcases List.mem_append.1 hx with h | h
          · exact hrow.out x h
          · rw [List.mem_singleton] at h; subst h; exact hgood.out trivial⟩
        have hgk := hgk.out
        go_roundg (m - (i + 1))
        case measure => omega
        case rel => exact ⟨i + 1, hlt, rfl, by go_num, hfin.out, hlow9.out⟩
    · have hie : i = m := by omega
      subst hie
      obtain ⟨p, l, cl, row, rfl, hli, hO, hrow⟩ := hS
      have hii : ¬ (i : Int) < (i : Int) := by omega
      have hfin : Hid (JmpP W2 a b s (.returned (.tuple #[.slice p l cl, .int .i64 0]))) := ⟨p, l, cl, row, rfl, by omega, OwnM.in hO, hrow⟩
      replace hO := Lib.hid hO; replace hrow := Lib.hid hrow; replace hbi := Lib.hid hbi
      go_wp2_with fail
      refine bodyPost_ret (v := .tuple #[.slice p l cl, .int .i64 0]) (by simp [results, Try.results12, go_sem]) rfl ⟨hfin.out, hb0.out.trans (hb02.out.trans hbi.out)⟩
end Go.Proofs.Ytapoimadiiheaaa
