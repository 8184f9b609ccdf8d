/- What Pace, two and Show compute; conditions: the control is known, the time is below ten hours, and the library's table lies as its text lays it. -/
import Derived.Test.YtlmgfikjkflffaaDoorCkV
import Derived.Test.YtlmgfikjkflffaaDoorCkS
import Derived.Test.YtlmgfikjkflffaaDoorShelf
import Derived.Lib.SmallJoins
import Derived.WalkSmall
import Derived.Sort.Grow
import Derived.BigRegion
import Derived.Laws.Concat
namespace Go.Proofs.YtlmgfikjkflffaaDoor
open Go.RowKit

theorem below_grow (w : World) (k : Nat) (os : Array Obj) : Below w.heap.size w (Go.Sort.grow (w.drewN k) os) := by
  refine ⟨rfl, rfl, rfl, ?_, fun i hi => ?_⟩
  · show w.heap.size ≤ (w.heap ++ os).size
    simp
  · show (w.heap ++ os)[i]? = _
    rw [Array.getElem?_append_left hi]

/-- what the library reads of its own. -/
structure Gl (w : World) : Prop where
  tab : Lib.TabIs Tryd.prog w "internal/strconv.uint64pow10" .u64 Lib.pow10Tab
  ml : ∃ m, w.cell? ⟨3, 0, none⟩ = some (.int .i64 m)
theorem cell_lt {w : World} {a : Addr} {v : Value} (h : w.cell? a = some v) : a.block < w.heap.size := by
  unfold World.cell? at h
  cases ho : w.heap[a.block]? with
  | none => simp [ho] at h
  | some o => exact lt_of_heap ho
theorem Gl.below {w w' : World} (h : Gl w) (hb : Below w.heap.size w w') : Gl w' := by
  obtain ⟨t, m, hm⟩ := h
  have h3 : 3 < w.heap.size := cell_lt hm
  refine ⟨?_, m, (hb.cell (p := ⟨3, 0, none⟩) h3).trans hm⟩
  obtain ⟨g, hg⟩ : ∃ g, Tryd.prog.globalNamed "internal/strconv.uint64pow10" = some g := Option.isSome_iff_exists.1 (show (Tryd.prog.globalNamed "internal/strconv.uint64pow10").isSome = true by kernel_rfl)
  refine var?_below hb hg ?_ t
  unfold Lib.TabIs World.var? at t
  rw [hg] at t
  simp only [Option.bind_some] at t
  cases ho : w.heap[g]? with
  | none => rw [ho] at t; cases t
  | some o => exact lt_of_heap ho

set_option maxHeartbeats 2000000 in
theorem Pace_any (c : Ct) (k : Nat) (w : World) (h1 : c.base ≤ 36000000) (hb : c.bonus ≤ 36000000) (hmo : c.more ≤ 36000000) (hmv : c.moves ≤ 1000) (hkk : c.kind ≤ 3) (hk : k ≤ 200) :
    Calls Tryd.prog 6 #[ctl c.base c.kind c.bonus c.moves c.more, .int .i64 k] w fun e w' => e = .returned (.tuple #[.int .i64 (P c k : Nat), .int .i64 0]) ∧ Below w.heap.size w w' := by
  have hB := Lib.hid ((Below.refl w.heap.size w).alloc (Nat.le_refl _) (.cells #[.int .i64 c.base, .int .i64 c.kind, .int .i64 c.bonus, .int .i64 c.moves, .int .i64 c.more] 23))
  have hck : chkE c.base c.kind c.bonus c.moves c.more = 0 := (errD_of (s := []) h1 hb hmo hmv hkk (by simp) (fun j => by simp [st])).1
  have HC := check_any c.base c.kind c.bonus c.moves c.more (w.alloc (.cells #[.int .i64 c.base, .int .i64 c.kind, .int .i64 c.bonus, .int .i64 c.moves, .int .i64 c.more] 23))
  rw [hck] at HC
  have hbox : (w.alloc (.cells #[.int .i64 c.base, .int .i64 c.kind, .int .i64 c.bonus, .int .i64 c.moves, .int .i64 c.more] 23)).heap[w.heap.size]? = some (.cells #[.int .i64 c.base, .int .i64 c.kind, .int .i64 c.bonus, .int .i64 c.moves, .int .i64 c.more] 23) := heap_alloc_new _ _
  obtain ⟨x, hx⟩ : ∃ x, k * c.bonus = x := ⟨_, rfl⟩
  obtain ⟨q, hq⟩ : ∃ q, k / c.moves = q := ⟨_, rfl⟩
  obtain ⟨y, hy⟩ : ∃ y, q * c.more = y := ⟨_, rfl⟩
  have hxb : x ≤ 200 * 36000000 := by rw [← hx]; exact Nat.mul_le_mul hk hb
  have hqb : q ≤ 200 := by rw [← hq]; exact Nat.le_trans (Nat.div_le_self _ _) hk
  have hyb : y ≤ 200 * 36000000 := by rw [← hy]; exact Nat.mul_le_mul hqb hmo
  have hP : P c k = c.base + (if c.kind = 0 then 0 else x) + (if 0 < c.moves then y else 0) := by unfold P; rw [hx, hq, hy]
  have ex : (k : Int) * c.bonus = x := by rw [← hx]; push_cast; rfl
  have eq : (k : Int) / c.moves = q := by rw [← hq]; push_cast; rfl
  have ey : (q : Int) * c.more = y := by rw [← hy]; push_cast; rfl
  unfold ctl at *
  obtain ⟨n1, hn1⟩ : ∃ n1, c.base + (if c.kind = 0 then 0 else x) = n1 := ⟨_, rfl⟩
  have hn1b : n1 ≤ 36000000 + 200 * 36000000 := by rw [← hn1]; split <;> omega
  rw [hn1] at hP
  replace HC := Lib.hid HC; replace hbox := Lib.hid hbox; replace hP := Lib.hid hP; replace hck := Lib.hid hck; replace hx := Lib.hid hx; replace hq := Lib.hid hq; replace hy := Lib.hid hy
  go_enter Tryd.func6, Tryd.ntmps6
  go_wp2_with fail
  refine HC.out.mono ?_
  rintro e w1 ⟨rfl, hB2⟩
  have hBB := hB.out.trans (hB2.mono (by simp))
  have hb2 := (hB2.block w.heap.size (by simp)).trans hbox.out
  have c0 := wcell (cs := [_, _, _, _, _]) hb2 0
  have c1 := wcell (cs := [_, _, _, _, _]) hb2 1
  have c2 := wcell (cs := [_, _, _, _, _]) hb2 2
  have c3 := wcell (cs := [_, _, _, _, _]) hb2 3
  have c4 := wcell (cs := [_, _, _, _, _]) hb2 4
  replace hBB := Lib.hid hBB; replace hB2 := Lib.hid hB2; replace hb2 := Lib.hid hb2
  go_upto_if 23 with fail
  go_cut [7] (fun s wx => s = .int .i64 (n1 : Int) ∧ wx = w1)
  case first =>
    by_cases hz : c.kind = 0
    · have hz2 : ((c.kind : Int) != 0) = false := by simp [hz]
      have e1 : n1 = c.base := by rw [← hn1, if_pos hz]; rfl
      replace hz := Lib.hid hz; replace e1 := Lib.hid e1; replace hn1 := Lib.hid hn1
      go_wp2_with fail
      go_meet
      exact ⟨by rw [e1.out], rfl⟩
    · have hz2 : ((c.kind : Int) != 0) = true := by simp; omega
      have e1 : (c.base : Int) + x = n1 := by rw [← hn1, if_neg hz]; push_cast; rfl
      replace hz := Lib.hid hz; replace hn1 := Lib.hid hn1
      go_wp2_with fail
      go_meet
      exact ⟨rfl, rfl⟩
  case rest =>
    obtain ⟨rfl, hw0⟩ := hcut
    obtain rfl := hw0.symm
    clear hw0
    replace hn1 := Lib.hid hn1
    by_cases hz : 0 < c.moves
    · have hzm : 0 < (c.moves : Int) := by omega
      have hzd : decide (0 < c.moves) = true := decide_eq_true hz
      have hzn : ¬ ((c.moves : Int) = 0) := by omega
      have hzn2 : ((c.moves : Int) == 0) = false := by simp; omega
      have hP2 := hP.out
      rw [if_pos hz] at hP2
      replace hP2 := Lib.hid hP2
      clear hP
      go_wp2_with fail
      go_quiet (fail)
      go_wp2_with fail
      go_ret2
      exact ⟨by rw [hP2.out]; push_cast; rfl, below_drewN hBB.out _⟩
    · have hzm : ¬ 0 < (c.moves : Int) := by omega
      have hP2 := hP.out
      rw [if_neg hz] at hP2
      replace hP2 := Lib.hid hP2
      clear hP
      go_wp2_with fail
      go_ret2
      exact ⟨by rw [hP2.out]; rfl, hBB.out⟩

theorem two_any (n : Nat) (w : World) (hn : n < 60) (hg : Gl w) : Calls Tryd.prog 17 #[.int .i64 n] w fun e w' => e = .returned (.string (BS (two n))) ∧ Below w.heap.size w w' := by
  have H := Lib.hid (Sh.strconv_Itoa (100 + (n : Int)) (by omega) (by omega) w hg.tab)
  have hi := itoa_two (n := n) (by omega)
  replace hi := Lib.hid hi
  clear hg
  go_enter Tryd.func17, Tryd.ntmps17
  go_wp2_with fail
  refine H.out.mono ?_
  rintro e w1 ⟨rfl, k, os, rfl⟩
  have hB := Lib.hid (below_grow w k os)
  rw [hi.out]
  go_wp2_with fail
  go_ret
  refine ⟨?_, hB.out⟩
  have e := bs_extract (49 :: two n) 1 ((two n).length + 1)
  rw [List.drop_succ_cons, List.drop_zero, Nat.add_sub_cancel, List.take_length] at e
  exact congrArg (fun b => Ending.returned (Value.string b)) e

theorem bs_app (a b : List UInt8) : BS a ++ BS b = BS (a ++ b) := by
  unfold BS
  rw [ByteArray.mk_append_mk]
theorem itoa_any (n : Nat) (hn : n < 100) (w : World) : Calls Tryd.prog 16 #[.int .i64 n] w fun e w' => e = .returned (.string (BS (num n))) ∧ w' = w := by
  have h := Sh.strconv_Itoa_small n hn w
  rw [dec_num hn] at h
  exact h
theorem num_len (n : Nat) : (BS (num n)).size ≤ 2 := by rw [bs_size]; unfold num; split <;> simp
theorem two_len (n : Nat) : (BS (two n)).size ≤ 2 := by rw [bs_size]; simp [two]

set_option maxRecDepth 20000 in
set_option maxHeartbeats 2000000 in
theorem Show_any (n : Nat) (w : World) (hn : n ≤ 36000000) (hg : Gl w) : Calls Tryd.prog 8 #[.int .i64 n] w fun e w' => e = .returned (.tuple #[.string (BS (showS n)), .int .i64 0]) ∧ Below w.heap.size w w' := by
  have HF := Lib.hid (far_any (n : Int) w)
  have hf : Hid (farI (n : Int) = false) := by show _ = _; unfold farI; simp; omega
  rw [hf.out] at HF
  obtain ⟨s, hs⟩ : ∃ s, n / 1000 = s := ⟨_, rfl⟩
  have es : (n : Int) / 1000 = s := by omega
  have hsb : s ≤ 36000 := by omega
  have hsh : Hid (showS n = if 3600 ≤ s then num (s / 3600) ++ 58 :: (two (s / 60 % 60) ++ 58 :: two (s % 60)) else if 60 ≤ s then num (s / 60) ++ 58 :: two (s % 60) else num s ++ 46 :: num (n / 100 % 10)) := by show _ = _; unfold showS; rw [hs]
  replace hg := Lib.hid hg
  have hcl : (⟨#[58]⟩ : ByteArray).size = 1 := rfl
  have hdt : (⟨#[46]⟩ : ByteArray).size = 1 := rfl
  by_cases h1 : 3600 ≤ s
  · obtain ⟨a, ha⟩ : ∃ a, s / 3600 = a := ⟨_, rfl⟩
    obtain ⟨b, hb⟩ : ∃ b, s / 60 % 60 = b := ⟨_, rfl⟩
    obtain ⟨d, hd⟩ : ∃ d, s % 60 = d := ⟨_, rfl⟩
    have ea : (s : Int) / 3600 = a := by omega
    have eb : (s : Int) / 60 % 60 = b := by omega
    have ed : (s : Int) % 60 = d := by omega
    have hab : a < 100 := by omega
    have hbb : b < 60 := by omega
    have hdb : d < 60 := by omega
    have H1 := itoa_any a hab w
    have H2 := two_any b w hbb hg.out
    have H3 := fun W hW => two_any d W hdb hW
    have hs2 := congrArg BS hsh.out
    rw [if_pos h1, ha, hb, hd, ← bs_app] at hs2
    have l1 := num_len a
    have l2 := two_len b
    have l3 := two_len d
    obtain ⟨A, hA⟩ : ∃ A, BS (num a) = A := ⟨_, rfl⟩
    obtain ⟨B, hB⟩ : ∃ B, BS (two b) = B := ⟨_, rfl⟩
    obtain ⟨D, hD⟩ : ∃ D, BS (two d) = D := ⟨_, rfl⟩
    have hfin : BS (showS n) = A ++ ⟨#[58]⟩ ++ B ++ ⟨#[58]⟩ ++ D := by
      rw [← hA, ← hB, ← hD, hs2, show (⟨#[58]⟩ : ByteArray) = BS [58] from rfl]
      simp only [bs_app, List.append_assoc, List.nil_append, List.cons_append]
    rw [hA] at H1 l1
    rw [hB] at H2 l2
    rw [hD] at l3
    simp only [hD] at H3
    replace H1 := Lib.hid H1; replace H2 := Lib.hid H2; replace H3 := Lib.hid H3; replace hfin := Lib.hid hfin
    replace hs2 := Lib.hid hs2; replace hs := Lib.hid hs; replace ha := Lib.hid ha; replace hb := Lib.hid hb; replace hd := Lib.hid hd; replace hA := Lib.hid hA; replace hB := Lib.hid hB; replace hD := Lib.hid hD
    clear hsh
    go_enter Tryd.func8, Tryd.ntmps8
    go_wp2_with fail
    refine HF.out.mono ?_
    rintro e w1 ⟨rfl, rfl⟩
    go_wp2_with fail
    refine H1.out.mono ?_
    rintro e w1 ⟨rfl, rfl⟩
    go_wp2_with fail
    refine H2.out.mono ?_
    rintro e w2 ⟨rfl, hB2⟩
    have H4 := Lib.hid (H3.out w2 (hg.out.below hB2))
    replace hB2 := Lib.hid hB2
    go_wp2_with fail
    refine H4.out.mono ?_
    rintro e w3 ⟨rfl, hB3⟩
    replace hB3 := Lib.hid hB3
    go_wp2_with fail
    go_ret2
    exact ⟨by rw [hfin.out]; rfl, hB2.out.trans (hB3.out.mono hB2.out.size)⟩
  · by_cases h2 : 60 ≤ s
    · obtain ⟨a, ha⟩ : ∃ a, s / 60 = a := ⟨_, rfl⟩
      obtain ⟨d, hd⟩ : ∃ d, s % 60 = d := ⟨_, rfl⟩
      have ea : (s : Int) / 60 = a := by omega
      have ed : (s : Int) % 60 = d := by omega
      have h1' : s < 3600 := by omega
      have hab : a < 100 := by omega
      have hdb : d < 60 := by omega
      have H1 := itoa_any a hab w
      have H2 := two_any d w hdb hg.out
      have hs2 := congrArg BS hsh.out
      rw [if_neg h1, if_pos h2, ha, hd, ← bs_app] at hs2
      have l1 := num_len a
      have l2 := two_len d
      obtain ⟨A, hA⟩ : ∃ A, BS (num a) = A := ⟨_, rfl⟩
      obtain ⟨D, hD⟩ : ∃ D, BS (two d) = D := ⟨_, rfl⟩
      have hfin : BS (showS n) = A ++ ⟨#[58]⟩ ++ D := by
        rw [← hA, ← hD, hs2, show (⟨#[58]⟩ : ByteArray) = BS [58] from rfl]
        simp only [bs_app, List.append_assoc, List.nil_append, List.cons_append]
      rw [hA] at H1 l1
      rw [hD] at H2 l2
      replace H1 := Lib.hid H1; replace H2 := Lib.hid H2; replace hfin := Lib.hid hfin
      replace hs2 := Lib.hid hs2; replace hs := Lib.hid hs; replace ha := Lib.hid ha; replace hd := Lib.hid hd; replace hA := Lib.hid hA; replace hD := Lib.hid hD
      clear hsh
      go_enter Tryd.func8, Tryd.ntmps8
      go_wp2_with fail
      refine HF.out.mono ?_
      rintro e w1 ⟨rfl, rfl⟩
      go_wp2_with fail
      refine H1.out.mono ?_
      rintro e w1 ⟨rfl, rfl⟩
      go_wp2_with fail
      refine H2.out.mono ?_
      rintro e w2 ⟨rfl, hB2⟩
      replace hB2 := Lib.hid hB2
      go_wp2_with fail
      go_ret2
      exact ⟨by rw [hfin.out]; rfl, hB2.out⟩
    · obtain ⟨d, hd⟩ : ∃ d, n / 100 % 10 = d := ⟨_, rfl⟩
      have ed : (n : Int) / 100 % 10 = d := by omega
      have h1' : s < 3600 := by omega
      have h2' : s < 60 := by omega
      have hab : s < 100 := by omega
      have hdb : d < 100 := by omega
      have H1 := itoa_any s hab w
      have H2 := itoa_any d hdb w
      have hs2 := congrArg BS hsh.out
      rw [if_neg h1, if_neg h2, hd, ← bs_app] at hs2
      have l1 := num_len s
      have l2 := num_len d
      obtain ⟨A, hA⟩ : ∃ A, BS (num s) = A := ⟨_, rfl⟩
      obtain ⟨D, hD⟩ : ∃ D, BS (num d) = D := ⟨_, rfl⟩
      have hfin : BS (showS n) = A ++ ⟨#[46]⟩ ++ D := by
        rw [← hA, ← hD, hs2, show (⟨#[46]⟩ : ByteArray) = BS [46] from rfl]
        simp only [bs_app, List.append_assoc, List.nil_append, List.cons_append]
      rw [hA] at H1 l1
      rw [hD] at H2 l2
      replace H1 := Lib.hid H1; replace H2 := Lib.hid H2; replace hfin := Lib.hid hfin
      replace hs2 := Lib.hid hs2; replace hs := Lib.hid hs; replace hd := Lib.hid hd; replace hA := Lib.hid hA; replace hD := Lib.hid hD
      clear hsh
      go_enter Tryd.func8, Tryd.ntmps8
      go_wp2_with fail
      refine HF.out.mono ?_
      rintro e w1 ⟨rfl, rfl⟩
      go_wp2_with fail
      refine H1.out.mono ?_
      rintro e w1 ⟨rfl, rfl⟩
      go_wp2_with fail
      refine H2.out.mono ?_
      rintro e w2 ⟨rfl, rfl⟩
      go_wp2_with fail
      go_ret2
      exact ⟨by rw [hfin.out]; rfl, Below.refl _ _⟩
end Go.Proofs.YtlmgfikjkflffaaDoor
