/- The walk of gameroomkeep.PokerDuels; conditions: the numbers fit their kind. -/
import Derived.Test.YtkakggagaplaiaaPkH
import Derived.Test.YtkakggagaplaiaaPkN
import Derived.Deep.DeepCutAuto
namespace Go.Proofs.Ytkakggagaplaiaa
open Go.RowKit

theorem agg9 : (Value.agg ((cnL.map fun x : Nat => Value.int .i64 (x : Int)).toArray)) = .agg #[.int .i64 1302540, .int .i64 1098240, .int .i64 123552, .int .i64 54912, .int .i64 10200, .int .i64 5108, .int .i64 3744, .int .i64 624, .int .i64 40] := rfl
set_option maxRecDepth 100000 in
set_option maxHeartbeats 8000000 in
theorem duels_any (p : Option Addr) (nr c0 : Nat) (zs : List Int) (za : Int) (w : World) (hr : nr ≤ 9223372036854775807) (hx : IntsIn w p nr zs) (hz : ∀ j, j < nr → -9223372036854775808 ≤ zs[j]?.getD 0 ∧ zs[j]?.getD 0 ≤ 9223372036854775807)
    (ha : -9223372036854775808 ≤ za ∧ za ≤ 9223372036854775807) :
    Calls Try.prog 4 #[.slice p nr c0, .int .i64 za] w fun e w' => e = .returned (.bool true) ∧ Below w.heap.size w w' := by
  have PA := Lib.hid (fun W => picked_any za 2 W ha.1 ha.2 (by omega) (by omega) 2 rfl)
  have la := pick_lt za 2 (by omega)
  clear ha
  generalize pick za 2 = k at *
  obtain ⟨n, hn⟩ : ∃ n, n = 4 + k := ⟨_, rfl⟩
  have en : (4 : Int) + (k : Int) = (n : Int) := by omega
  have hn2 : n = 4 ∨ n = 5 := by omega
  obtain ⟨m, hm⟩ : ∃ m, m = 4 + n := ⟨_, rfl⟩
  have em : (4 : Int) + (n : Int) = (m : Int) := by omega
  have hm9 : m ≤ 9 := by omega
  have hm4 : 4 ≤ m := by omega
  have hmn : m - 4 = n := by omega
  have hmi : (m : Int) - 4 = (n : Int) := by omega
  have HH := Lib.hid (hand_any p nr c0 9 zs w (by omega) hr hx hz)
  have HN := Lib.hid (fun W => counts_any W)
  rw [agg9] at HN
  replace hn := Lib.hid hn
  replace hm := Lib.hid hm
  clear hx hz
  go_enter Try.func4, Try.ntmps4
  go_wp2_with fail
  refine HH.out.mono ?_
  rintro e w1 ⟨q, co, L, rfl, hO, hl, hd, h52, hB1⟩
  clear HH
  obtain ⟨g, rfl, hgB, hgw, hgc⟩ := OwnC.where (k := 1) hO (by omega)
  have hin := hO.in
  have tk : ∀ i j, ((asI L).take j).drop i = asI ((L.take j).drop i) := fun i j => by unfold asI; rw [List.map_drop, List.map_take]
  have iA := hin.part 0 2 (by omega) (by omega) (some ⟨g, 0, none⟩) (fun _ => by simp [Addr.add])
  have iB := hin.part 2 4 (by omega) (by omega) (some ⟨g, 2, none⟩) (fun _ => by simp [Addr.add])
  have iT := hin.part 4 m (by omega) (by omega) (some ⟨g, 4, none⟩) (fun _ => by simp [Addr.add])
  rw [tk] at iA iB iT
  rw [hmn] at iT
  have hcat : (L.take 2).drop 0 ++ (L.take 4).drop 2 ++ (L.take m).drop 4 = L.take m := by
    have e1 : (L.take 2).drop 0 ++ (L.take 4).drop 2 = L.take 4 := by
      rw [List.drop_zero]
      have : L.take 2 = (L.take 4).take 2 := by rw [List.take_take]; rfl
      rw [this, List.take_append_drop]
    rw [e1]
    have : L.take 4 = (L.take m).take 4 := by rw [List.take_take, Nat.min_eq_left hm4]
    rw [this, List.take_append_drop]
  have hd2 : (L.take m).Nodup := hd.sublist (List.take_sublist _ _)
  have h522 : ∀ x ∈ L.take m, x < 52 := fun x hx => h52 x (List.mem_of_mem_take hx)
  have hlen : ((L.take 2).drop 0 ++ (L.take 4).drop 2 ++ (L.take m).drop 4).length < 52 := by rw [hcat, List.length_take]; omega
  generalize (L.take 2).drop 0 = A at *
  generalize (L.take 4).drop 2 = B at *
  generalize (L.take m).drop 4 = T at *
  rw [← hcat] at hd2 h522
  have hpm : (B ++ A ++ T).Perm (A ++ B ++ T) := List.Perm.append_right T List.perm_append_comm
  have H1 := Lib.hid (fun X (hX : Below w1.heap.size w1 X) (ca cb ct : Nat) => show_any g 0 ca g 2 cb g 4 ct n A B T X hn2 (iA.below hX) (iB.below hX) (iT.below hX) hd2 h522)
  have H2 := Lib.hid (fun X (hX : Below w1.heap.size w1 X) (ca cb ct : Nat) => show_any g 2 ca g 0 cb g 4 ct n B A T X hn2 (iB.below hX) (iA.below hX) (iT.below hX) (hpm.nodup_iff.2 hd2) (fun x hx => h522 x (hpm.mem_iff.1 hx)))
  obtain ⟨l1, l2, l3, l4⟩ := sd_law hlen
  have l5 : sdN A B T ≤ 52 := sdN_le
  rw [← l1, ← l2] at H2
  generalize sdN A B T = z at *
  generalize sdT A B T = y at *
  generalize sdW A B T = x1 at *
  generalize sdW B A T = x2 at *
  clear l1 l2 hpm hd2 h522 hlen hcat iA iB iT hin tk hd h52 hO
  have e1 : (x1 : Int) + (x2 : Int) + (y : Int) = (z : Int) := by omega
  have d1 : decide ((0 : Int) < (z : Int)) = true := decide_eq_true (by omega)
  have hz2 : Hid (z = x1 + x2 + y ∧ z ≤ 52) := ⟨l3.symm, l5⟩
  have hco : (9 : Int) ≤ (co : Int) := by omega
  have i1 : (m : Int) ≤ (co : Int) := by omega
  have i2 : (4 : Int) ≤ (m : Int) := by omega
  have i3 : (2 : Int) ≤ (co : Int) := by omega
  have i4 : (4 : Int) ≤ (co : Int) := by omega
  have i5 : ¬ co = 0 := by omega
  have i6 : ¬ co = 2 := by omega
  have i7 : ¬ co = 4 := by omega
  have i8 : (0 : Int) ≤ (m : Int) := by omega
  have i9 : IntKind.i64.wrap (m : Int) = m := IntWalk.i64_in _ (by omega)
  replace hB1 := Lib.hid hB1
  replace l3 := Lib.hid l3
  go_wp2_with fail
  refine (PA.out _).mono ?_
  rintro e w' ⟨rfl, rfl⟩
  go_upto_region 3 with fail
  go_cut [7, 8, 9, 10] (fun a b c d wx => a = .int .i64 (x1 : Nat) ∧ b = .int .i64 (y : Nat) ∧ c = .int .i64 (z : Nat) ∧ d = .int .i64 0 ∧ Below w1.heap.size w1 wx)
  case first =>
    go_region_law ((go_simp; refine (H1.out _ (Below.refl _ _).drew _ _ _).mono ?_; rintro e w5 ⟨rfl, hb5⟩; replace hb5 := Lib.hid hb5))
    all_goals
      go_wp2_with fail
      go_simp
      go_meet
      exact ⟨rfl, rfl, rfl, rfl, bel_a hb5.out⟩
  case rest =>
    obtain ⟨rfl, rfl, rfl, rfl, hb2⟩ := hcut
    have H3 := Lib.hid (H2.out wc.drew hb2.drew)
    have hBc := Lib.hid (hB1.out.trans (hb2.mono hB1.out.size))
    clear H1 H2 hb2 hB1
    go_upto_region 4 with fail
    go_cut [11, 12, 13, 14] (fun a b c d wx => a = .int .i64 (x2 : Nat) ∧ b = .int .i64 (y : Nat) ∧ c = .int .i64 (z : Nat) ∧ d = .int .i64 0 ∧ Below wc.heap.size wc wx)
    case first =>
      go_region_law ((go_simp; refine (H3.out _ _ _).mono ?_; rintro e w5 ⟨rfl, hb5⟩; replace hb5 := Lib.hid hb5))
      all_goals
        go_wp2_with fail
        go_simp
        go_meet
        exact ⟨rfl, rfl, rfl, rfl, bel_a hb5.out⟩
    case rest =>
      obtain ⟨rfl, rfl, rfl, rfl, hb3⟩ := hcut
      have hBd := Lib.hid (hBc.out.trans (hb3.mono hBc.out.size))
      clear H3 hb3 hBc i1 i2 i3 i4 i5 i6 i7 i8 i9 em en hmi
      go_wp2_with fail
      refine (HN.out _).mono ?_
      rintro e w7 ⟨rfl, hb7⟩
      have hBe := Lib.hid (hBd.out.trans (hb7.mono hBd.out.size))
      clear HN hb7 hBd
      go_wp2_with fail
      refine wp_loop_rounds 10 ?_
      iterate 10 (rw [rounds_succ]; go_wp2_with fail)
      go_ret
      exact ⟨rfl, hBe.out.alloc hBe.out.size _⟩
end Go.Proofs.Ytkakggagaplaiaa
