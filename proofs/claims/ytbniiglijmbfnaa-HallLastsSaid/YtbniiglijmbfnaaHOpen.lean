/- What hall.Open computes of a list of bytes that begins with HALL; conditions: at most 4000 bytes. -/
import Derived.Test.YtbniiglijmbfnaaHBook
import Derived.Test.YtbniiglijmbfnaaShelf
import Derived.Deep.RegionHeld3
namespace Go.Proofs.Ytbniiglijmbfnaa
open Go.RowKit

theorem el9 : ElT Try.prog 22 9 (.string ByteArray.empty) 1 16 := ⟨Try.underlying22, by kernel_rfl, rfl, by omega, by omega⟩
def strs (ls : List (List Nat)) : List Value := ls.map fun l => Value.string (strB l)
theorem pre_hall (l : List Nat) (h : l.take 4 = hall) : Lib.hasPrefix (strB l).data.toList (ByteArray.mk #[72, 65, 76, 76]).data.toList = true := by
  have e : l = hall ++ l.drop 4 := by rw [← h, List.take_append_drop]
  rw [e]
  unfold strB
  rw [strOfNums_data]
  simp [hall, Lib.hasPrefix]
theorem opened_split (l : List Nat) (i : Nat) (h : i + 4 ≤ l.length) (h2 : at_ l (i + 1) = 255 - at_ l i) (h3 : i + 4 + at_ l i ≤ l.length) (h4 : enc (sub l (i + 2) (at_ l i)) = sub l i (4 + at_ l i)) : stepP l i = some (sub l (i + 2) (at_ l i)) := by
  unfold stepP; rw [if_pos ⟨h, h2, h3, h4⟩]
theorem bne_iff (a b : ByteArray) : (!(a.toList == b.toList)) = false ↔ a = b := by
  rw [Bool.not_eq_false', ByteArray.toList_eq, ByteArray.toList_eq]
  constructor
  · intro h
    exact ByteArray.ext (Array.toList_inj.1 (eq_of_beq h))
  · rintro rfl
    exact beq_self_eq_true _
theorem bcs_sub (l : List Nat) (i n : Nat) : ((bcs l).drop i).take n = bcs (sub l i n) := by unfold bcs sub; rw [List.map_take, List.map_drop]
theorem sub_lt {l : List Nat} (h : ∀ x ∈ l, x < 256) (i n : Nat) : ∀ x ∈ sub l i n, x < 256 := fun x hx => h x (List.mem_of_mem_drop (List.mem_of_mem_take hx))
theorem sub_len (l : List Nat) (i n : Nat) (h : i + n ≤ l.length) : (sub l i n).length = n := by unfold sub; rw [List.length_take, List.length_drop]; omega
theorem enc_lt (l : List Nat) (h : ∀ x ∈ l, x < 256) (hl : l.length ≤ 255) : ∀ x ∈ enc l, x < 256 := by
  intro x hx
  have hc : chk l < 65521 := Nat.mod_lt _ (by omega)
  unfold enc at hx
  simp at hx
  rcases hx with rfl | rfl | hx | rfl | rfl
  · omega
  · omega
  · exact h x hx
  · omega
  · omega

set_option maxRecDepth 100000 in
set_option maxHeartbeats 4000000 in
theorem open_any (p : Option Addr) (n c : Nat) (l : List Nat) (w : World) (hn : n ≤ 4000) (hnc : n ≤ c) (hl : l.length = n) (hh : l.take 4 = hall) (hb : ∀ x ∈ l, x < 256) (hx : CellsIn w p (bcs l)) :
    Calls Try.prog 5 #[.slice p n c] w fun e w' => ∃ q k c', e = .returned (.tuple #[.slice q k c', .int .i64 (opened l).2, .int .i64 0]) ∧ k = (opened l).1.length ∧ CellsIn w' q (strs (opened l).1) ∧ (opened l).1.length ≤ n ∧ Below w.heap.size w w' := by
  have hlen4 : 4 ≤ l.length := by have := congrArg List.length hh; rw [List.length_take] at this; simp [hall] at this; omega
  obtain ⟨b, o, rfl, hbw, hc⟩ := hx.at (by rw [bcs_len]; omega)
  have kc := run_conv Try.underlying23 Try.underlying5 Try.underlying9 w (some ⟨b, o, none⟩) n c l hl hx
  have HP := Lib.hid ((Sh.strings_HasPrefix (strB l) (ByteArray.mk #[72, 65, 76, 76]) w).mono fun _ _ h => (⟨h.1, h.2.symm⟩ : _ ∧ w = _))
  have hp := Lib.hid (pre_hall l hh)
  have hop : Hid (opened l = ([] ++ (parse l.length l 4).1, (parse l.length l 4).2)) := rfl
  replace hh := Lib.hid hh; replace hl := Lib.hid hl; replace hc := Lib.hid hc
  replace hx := Lib.hid hx
  go_enter Try.func5, Try.ntmps5
  go_wp2_with fail
  refine HP.out.mono ?_
  rintro e w' ⟨rfl, rfl⟩
  rw [hp.out]
  clear kc
  have d4 : decide (4000 < (n : Int)) = false := by simp; omega
  go_wp2_with fail
  go_loopg [5, 6] (n - 4) (fun gk qv iv W' => ∃ (i k c' : Nat) (q : Option Addr) (acc : List (List Nat)), 4 ≤ i ∧ i ≤ n ∧ gk = n - i ∧ iv = .int .i64 i ∧ qv = .slice q k c' ∧ OwnC 9 1 w.heap.size W' q k c' (strs acc) ∧ acc.length ≤ i ∧ opened l = (acc ++ (parse l.length l i).1, (parse l.length l i).2) ∧ Below w.heap.size w W')
  case atStart => exact ⟨4, 0, 0, none, [], by omega, by have := hl.out; omega, by omega, rfl, rfl, OwnC.nil _ _ _ _, by simp, hop.out, Below.refl _ _⟩
  case round =>
    clear hop
    obtain ⟨i, k, c', q, acc, hi4, hin, hgk, rfl, rfl, hO, hacc, hop, hB⟩ := hrel
    obtain ⟨W1, rfl⟩ : ∃ W1 : World, W1 = wr := ⟨_, rfl⟩
    replace hgk := Lib.hid hgk
    have hk : acc.length = k := by have := hO.len; simp [strs] at this; omega
    have hstop : stepP l i = none → opened l = (acc, i) := fun h => by rw [hop, parse_none _ _ _ h]; simp
    by_cases h1 : i + 4 ≤ n
    · have hbw1 : b < W1.heap.size := Nat.lt_of_lt_of_le hbw hB.size
      have hx1 := Lib.hid (hx.out.below hB)
      have c0 := (hB.cell (p := ⟨b, o + i, none⟩) hbw).trans (hc.out i _ (bcs_at l i (by have := hl.out; omega)))
      have c1 := (hB.cell (p := ⟨b, o + (i + 1), none⟩) hbw).trans (hc.out (i + 1) _ (bcs_at l (i + 1) (by have := hl.out; omega)))
      rw [show l[i]?.getD 0 = at_ l i from rfl] at c0
      rw [show l[i + 1]?.getD 0 = at_ l (i + 1) from rfl] at c1
      have b0 : at_ l i < 256 := by unfold at_; have : i < l.length := by have := hl.out; omega
                                    simp [this]; exact hb _ (List.getElem_mem this)
      have b1 : at_ l (i + 1) < 256 := by unfold at_; have : i + 1 < l.length := by have := hl.out; omega
                                          simp [this]; exact hb _ (List.getElem_mem this)
      have hstep := opened_split l i (by have := hl.out; omega)
      have hstepn : Hid (∀ m0 m1 : Nat, at_ l i = m0 → at_ l (i + 1) = m1 → (m1 ≠ 255 - m0 ∨ n < i + 4 + m0) → stepP l i = none) := fun m0 m1 e0 e1 h => by
        unfold stepP
        rw [if_neg]
        rintro ⟨_, h2, h3, _⟩
        have := hl.out
        omega
      replace hO := Lib.hid hO; replace hB := Lib.hid hB; replace hstep := Lib.hid hstep; replace hop := Lib.hid hop; replace hstop := Lib.hid hstop; replace hk := Lib.hid hk
      obtain ⟨m0, hm0⟩ : ∃ m0, at_ l i = m0 := ⟨_, rfl⟩
      obtain ⟨m1, hm1⟩ : ∃ m1, at_ l (i + 1) = m1 := ⟨_, rfl⟩
      rw [hm0] at c0 b0
      rw [hm1] at c1 b1
      have hsn := Lib.hid (hstepn.out m0 m1 hm0 hm1)
      clear hstepn
      replace hm0 := Lib.hid hm0; replace hm1 := Lib.hid hm1
      by_cases h2 : m1 = 255 - m0
      · subst h2
        have h255 : (255 : Int) - (m0 : Int) = ((255 - m0 : Nat) : Int) := by omega
        have z1 : ((((255 - m0 : Nat) : Nat) : Int) != ((255 - m0 : Nat) : Int)) = false := by simp
        by_cases h3 : i + 4 + m0 ≤ n
        · obtain ⟨L2, hL2⟩ : ∃ L2, sub l (i + 2) m0 = L2 := ⟨_, rfl⟩
          have hL2l : L2.length = m0 := by rw [← hL2]; exact sub_len _ _ _ (by have := hl.out; omega)
          have hL2b : Hid (∀ x ∈ L2, x < 256) := by rw [← hL2]; exact sub_lt hb _ _
          obtain ⟨L3, hL3⟩ : ∃ L3, sub l i (4 + m0) = L3 := ⟨_, rfl⟩
          have hL3l : L3.length = 4 + m0 := by rw [← hL3]; exact sub_len _ _ _ (by have := hl.out; omega)
          have hL3b : Hid (∀ x ∈ L3, x < 256) := by rw [← hL3]; exact sub_lt hb _ _
          have hx2 : CellsIn W1 (some ⟨b, o + (i + 2), none⟩) (bcs L2) := by
            have := hx1.out.part (i + 2) m0 (some ⟨b, o + (i + 2), none⟩) (fun _ => by rw [Option.map_some, Addr.add_lit])
            rwa [bcs_sub, hL2] at this
          have hx3 := Lib.hid (fun (W : World) (h : Below W1.heap.size W1 W) => show CellsIn W (some ⟨b, o + i, none⟩) (bcs L3) from by
            have := (hx1.out.below h).part i (4 + m0) (some ⟨b, o + i, none⟩) (fun _ => by rw [Option.map_some, Addr.add_lit])
            rwa [bcs_sub, hL3] at this)
          have hk2 := run_conv Try.underlying23 Try.underlying5 Try.underlying9 W1 (some ⟨b, o + (i + 2), none⟩) m0 (c - (i + 2)) L2 hL2l hx2
          have hz2 : ¬ c = i + 2 := by omega
          have hz3 : i + 2 + m0 - (i + 2) = m0 := by omega
          have HE := fun W => entry_any (strB L2) W (by rw [← bs_len, bs_strB L2 hL2b.out]; omega)
          have e1 : (strB L2).size = m0 := by rw [← bs_len, bs_strB L2 hL2b.out, hL2l]
          rw [bs_strB L2 hL2b.out, e1] at HE
          replace HE := Lib.hid HE
          have hst3 : Hid (enc L2 = L3 → stepP l i = some L2) := fun h => by
            have := hstep.out (by rw [hm1.out, hm0.out]) (by rw [hm0.out]; have := hl.out; omega) (by rw [hm0.out, hL2, hL3]; exact h)
            rwa [hm0.out, hL2] at this
          have hst4 : Hid (enc L2 ≠ L3 → stepP l i = none) := fun h => by
            unfold stepP
            rw [if_neg]
            rintro ⟨_, _, _, h4⟩
            rw [hm0.out, hL2, hL3] at h4
            exact h h4
          replace hL2 := Lib.hid hL2; replace hL3 := Lib.hid hL3; replace hL2l := Lib.hid hL2l; replace hL3l := Lib.hid hL3l
          clear hx2
          go_upto_region 11 with fail
          have hz4 : i + 4 + m0 - i = 4 + m0 := by omega
          have hz5 : ¬ c = i := by omega
          have k3 := run_conv Try.underlying23 Try.underlying5 Try.underlying9 W1.drew (some ⟨b, o + i, none⟩) (4 + m0) (c - i) L3 hL3l.out (hx3.out _ (below_drewN (Below.refl _ _) 1))
          have hencb := Lib.hid (enc_lt L2 hL2b.out (by rw [hL2l.out]; omega))
          clear hk2 hz2 hz3
          have hsame : ∃ z : Bool, (!((strB (enc L2)).toList == (strB L3).toList)) = z ∧ (z = false ↔ enc L2 = L3) := by
            refine ⟨_, rfl, ?_⟩
            constructor
            · intro h
              exact strB_inj hencb.out hL3b.out ((bne_iff _ _).1 h)
            · intro h; exact (bne_iff _ _).2 (by rw [h])
          obtain ⟨z, hz6, hz7⟩ := hsame
          replace hz7 := Lib.hid hz7
          have q1 : IntKind.i64.wrap ((i : Int) + 4) = (i : Int) + 4 := IntWalk.i64_in _ (by omega)
          have q2 : IntKind.i64.wrap ((i : Int) + 4 + (m0 : Int)) = (i : Int) + 4 + (m0 : Int) := IntWalk.i64_in _ (by omega)
          have q3 : 0 ≤ (i : Int) + 4 + (m0 : Int) := by omega
          have q4 : (i : Int) + 4 + (m0 : Int) ≤ (c : Int) := by omega
          have q5 : ((i : Int) + 4 + (m0 : Int)).toNat = i + 4 + m0 := by omega
          have q6 : i ≤ i + 4 + m0 := by omega
          go_cut [66] (fun v wx => v = .bool z ∧ Below W1.heap.size W1 wx)
          case first =>
            go_region_law (go_simp; refine (HE.out _).mono ?_; rintro e w2 ⟨p2, c2, rfl, hO2, hB2⟩; replace hB2 := (below_drewN (Below.refl W1.heap.size W1) 1).trans hB2; have k2 := run_conv Try.underlying23 Try.underlying5 Try.underlying9 w2 p2 (m0 + 4) c2 (enc L2) (by rw [enc_len, hL2l.out]) (OwnC.cells hO2); have k4 := run_conv Try.underlying23 Try.underlying5 Try.underlying9 w2 (some ⟨b, o + i, none⟩) (4 + m0) (c - i) L3 hL3l.out (hx3.out _ hB2); replace hO2 := Lib.hid hO2; replace hB2 := Lib.hid hB2)
            all_goals
              go_wp2_with fail
              go_meet
              exact ⟨rfl, hB2.out⟩
          case rest =>
            obtain ⟨rfl, hBc⟩ := hcut
            have hOc := Lib.hid (hO.out.below hBc (Nat.le_refl _))
            have hBB := Lib.hid (hB.out.trans (hBc.mono hB.out.size))
            have hwc : w.heap.size ≤ wc.heap.size := hBB.out.size
            clear c0 c1 hBc HE
            cases z with
            | true =>
              have hsp := Lib.hid (hstop.out (hst4.out (fun h => by have := hz7.out.2 h; cases this)))
              go_wp2_with fail
              go_ret3
              exact ⟨q, k, c', by rw [hsp.out]; rfl, by rw [hsp.out]; exact hk.out.symm, by rw [hsp.out]; exact OwnC.cells hOc.out, by rw [hsp.out]; exact Nat.le_trans hacc hin, hBB.out⟩
            | false =>
              have hst5 := Lib.hid (hst3.out (hz7.out.1 rfl))
              have hnew : Hid (opened l = ((acc ++ [L2]) ++ (parse l.length l (i + 4 + m0)).1, (parse l.length l (i + 4 + m0)).2)) := by
                show _ = _
                rw [hop.out, parse_some l.length l i (by omega) hst5.out, hL2l.out]
                simp
              have hn2 : k < 1099511627776 := by have := hk.out; omega
              have hw4 : IntKind.i64.wrap (4 + (m0 : Int)) = 4 + (m0 : Int) := IntWalk.i64_in _ (by omega)
              clear hz6 hz7 hst4
              go_upto_region 13 with (at_builtin; refine wp_appendV el9 wc rfl (.tmp 67) (.tmp 69) rfl w.heap.size q k c' (strs acc) rfl hOc.out #[.string (strB L2)] rfl rfl rfl hn2 hwc ?_; intro q3 c3 w3 hO3 hg3 hr3 hz3; have hB3 := Lib.hid (hBB.out.grown hg3 hwc (fun x hx => (by cases q with | none => cases hx | some y => simp at hx; subst hx; exact (hOc.out.block y rfl).1))); replace hO3 := Lib.hid hO3; clear hg3 hr3 hz3)
              go_wp2_with fail
              have hgk := hgk.out
              go_roundg (n - (i + 4 + m0))
              case measure => omega
              case rel => exact ⟨i + 4 + m0, k + 1, c3, q3, acc ++ [L2], by omega, by omega, rfl, by first | go_num | (simp; omega), rfl, by unfold strs; rw [List.map_append]; exact hO3.out, by simp; omega, hnew.out, hB3.out⟩
        · have hsp := Lib.hid (hstop.out (hsn.out (.inr (by omega))))
          have h3' : n < i + 4 + m0 := by omega
          clear h3
          go_wp2_with fail
          go_ret3
          exact ⟨q, k, c', by rw [hsp.out]; rfl, by rw [hsp.out]; exact hk.out.symm, by rw [hsp.out]; exact OwnC.cells hO.out, by rw [hsp.out]; exact Nat.le_trans hacc hin, hB.out⟩
      · have hsp := Lib.hid (hstop.out (hsn.out (.inl h2)))
        have h255 : (255 : Int) - (m0 : Int) = ((255 - m0 : Nat) : Int) := by omega
        have z1 : ((m1 : Int) != ((255 - m0 : Nat) : Int)) = true := by simp; omega
        go_wp2_with fail
        go_ret3
        exact ⟨q, k, c', by rw [hsp.out]; rfl, by rw [hsp.out]; exact hk.out.symm, by rw [hsp.out]; exact OwnC.cells hO.out, by rw [hsp.out]; exact Nat.le_trans hacc hin, hB.out⟩
    · have hsp := Lib.hid (hstop (by unfold stepP; rw [if_neg (by have := hl.out; omega)]))
      replace hO := Lib.hid hO; replace hB := Lib.hid hB; replace hop := Lib.hid hop; replace hstop := Lib.hid hstop; replace hk := Lib.hid hk
      go_wp2_with fail
      go_ret3
      exact ⟨q, k, c', by rw [hsp.out]; rfl, by rw [hsp.out]; exact hk.out.symm, by rw [hsp.out]; exact OwnC.cells hO.out, by rw [hsp.out]; exact Nat.le_trans hacc hin, hB.out⟩
end Go.Proofs.Ytbniiglijmbfnaa
