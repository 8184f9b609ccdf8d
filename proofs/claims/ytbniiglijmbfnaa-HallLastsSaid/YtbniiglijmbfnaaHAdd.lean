/- What hall.Add computes of a list of bytes that begins with HALL; conditions: at most 4000 bytes, and so many behind it. -/
import Derived.Test.YtbniiglijmbfnaaHOpen
namespace Go.Proofs.Ytbniiglijmbfnaa
open Go.RowKit

theorem CellsIn.news {w : World} {ad : Addr} {vs : List Value} (h : CellsIn w (some ad) vs) : ∀ j u, vs[j]? = some u → w.cell? (ad.add j) = some u := fun j u hj => by
  obtain ⟨b, o', e, _, h2⟩ := h j u hj
  cases e
  rw [Addr.add_lit]; exact h2

set_option maxRecDepth 100000 in
set_option maxHeartbeats 4000000 in
theorem add_any (p : Option Addr) (n c : Nat) (l : List Nat) (s : ByteArray) (w : World) (hn : n ≤ 4000) (hnc : n ≤ c) (hl : l.length = n) (hh : l.take 4 = hall) (hb : ∀ x ∈ l, x < 256) (hx : CellsIn w p (bcs l)) (hs : s.size ≤ 255) (at0 : Nat) (hat : (opened l).2 = at0) (h1 : at0 + 4 + s.size ≤ 4000) (h2 : at0 ≤ n) (h4 : 4 ≤ at0) :
    Calls Try.prog 7 #[.slice p n c, .string s] w fun e w' => ∃ q c', e = .returned (.tuple #[.slice q (at0 + (s.size + 4)) c', .int .i64 0]) ∧ CellsIn w' q (bcs (l.take at0 ++ enc (bs s))) ∧ at0 + (s.size + 4) ≤ c' ∧ Below w.heap.size w w' := by
  have HO := Lib.hid (open_any p n c l w hn hnc hl hh hb hx)
  obtain ⟨b, o, rfl, hbw, _⟩ := hx.at (by rw [bcs_len]; omega)
  have hel := Lib.hid (enc_len (bs s))
  have hbl := Lib.hid (bs_len s)
  rw [hat] at HO
  have hx2 : CellsIn w (some ⟨b, o, none⟩) (bcs (l.take at0)) := by
    have := hx.part 0 at0 (some ⟨b, o, none⟩) (fun _ => by rw [Option.map_some, Addr.add_lit]; rfl)
    rwa [bcs_sub, show sub l 0 at0 = l.take at0 by simp [sub]] at this
  have htl : (l.take at0).length = at0 := by rw [List.length_take]; omega
  replace hx := Lib.hid hx; replace hl := Lib.hid hl; replace hh := Lib.hid hh; replace hat := Lib.hid hat; replace hx2 := Lib.hid hx2; replace htl := Lib.hid htl
  go_enter Try.func7, Try.ntmps7
  go_wp2_with fail
  refine HO.out.mono ?_
  rintro e w1 ⟨q1, k1, c1, rfl, hk, hs1, hn1, hB⟩
  have hx3 := Lib.hid (hx2.out.below hB)
  have hB1 := Lib.hid hB
  have hz1 : w.heap.size ≤ w1.heap.size := hB.size
  replace hk := Lib.hid hk
  clear hs1 hB HO
  have HE := Lib.hid (fun W => entry_any s W hs)
  go_wp2_with (at_builtin; refine wp_appendLV el5 w1 rfl _ (.tmp 32) rfl w.heap.size none 0 0 [] rfl (OwnC.nil _ _ _ _) ⟨b, o, none⟩ at0 c (bcs (l.take at0)) ?_ (bcs_one _) hx3.out.news rfl ?_ ?_ ?_; (rw [bcs_len, htl.out, Nat.mul_one]); (omega); (exact hz1); intro p2 c2 w2 hO2 hg2 hr2 hz2; rw [List.nil_append, Nat.zero_add] at hO2)
  have hB2 := Lib.hid (hB1.out.grown hg2 hz1 (fun x hx => by cases hx))
  have hz2' : w.heap.size ≤ w2.heap.size := hB2.out.size
  replace hO2 := Lib.hid hO2
  clear hg2 hr2 hz2
  go_wp2_with fail
  refine (HE.out _).mono ?_
  rintro e w3 ⟨p3, c3, rfl, hO3, hB3⟩
  obtain ⟨g3, rfl, _, _, _⟩ := hO3.where (by omega)
  have hin := Lib.hid (OwnC.cells hO3)
  have hO4 := Lib.hid (hO2.out.below hB3 (Nat.le_refl _))
  have hB4 := Lib.hid (hB2.out.trans (hB3.mono hz2'))
  have hz3 : w.heap.size ≤ w3.heap.size := hB4.out.size
  clear hO3 hB3
  go_wp2_with (at_builtin; refine wp_appendLV el5 w3 rfl (.tmp 33) (.tmp 35) rfl w.heap.size p2 at0 c2 _ rfl hO4.out ⟨g3, 0, none⟩ (s.size + 4) c3 (bcs (enc (bs s))) ?_ (bcs_one _) hin.out.news rfl ?_ hz3 ?_; (rw [bcs_len, hel.out, hbl.out, Nat.mul_one]); (omega); intro p5 c5 w5 hO5 hg5 hr5 hz5)
  have hB5 := Lib.hid (hB4.out.grown hg5 hz3 (fun x hx => by
    cases p2 with
    | none => cases hx
    | some y => simp at hx; subst hx; exact (hO4.out.block y rfl).1))
  rw [← bcs_app] at hO5
  replace hO5 := Lib.hid hO5
  clear hg5 hr5 hz5
  go_wp2_with fail
  go_ret2
  exact ⟨p5, c5, rfl, OwnC.cells hO5.out, hO5.out.cap, hB5.out⟩
end Go.Proofs.Ytbniiglijmbfnaa
