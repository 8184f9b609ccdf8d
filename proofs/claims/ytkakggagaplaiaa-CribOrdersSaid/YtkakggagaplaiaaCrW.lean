/- What crib.Show computes of four cards and a start; conditions: five unlike cards. -/
import Derived.Test.YtkakggagaplaiaaCrS
import Derived.Test.YtkakggagaplaiaaSlC
namespace Go.Proofs.Ytkakggagaplaiaa
open Go.RowKit

set_option maxHeartbeats 2000000 in
theorem Show_any (p : Option Addr) (c s : Nat) (cr : Bool) (l : List Nat) (w : World) (hx : IntsIn w p 4 (asI l)) (hl : ∀ x ∈ l ++ [s], x < 52) (hd : (l ++ [s]).Nodup) :
    Calls Try.prog 26 #[.slice p 4 c, .int .i64 s, .bool cr] w fun e w' => e = .returned (.tuple #[.int .i64 (show5 (l ++ [s]) cr : Nat), .int .i64 0]) ∧ Below w.heap.size w w' := by
  have HC := Lib.hid (clone_any p 4 c (asI l) w (by omega) hx)
  have hll : l.length = 4 := by have := hx.len; rwa [asI_len] at this
  have hst : Hid (∀ i, i < 5 → st (l ++ [s]) i < 52) := fun i hi => hl _ (st_mem (by simp [hll]; omega))
  replace hl := Lib.hid hl; replace hd := Lib.hid hd
  clear hx
  go_enter Try.func26, Try.ntmps26
  go_wp2_with fail
  refine HC.out.mono ?_
  rintro e w1 ⟨q, c1, rfl, hO, hB⟩
  replace hO := Lib.hid hO
  have hBs := Lib.hid hB.size
  have hqb := Lib.hid hO.out.rowb
  replace hB := Lib.hid hB
  clear HC
  go_wp2_with (at_builtin; refine wp_append1 intG w1 rfl _ _ rfl w.heap.size q 4 c1 (asI l) rfl hO.out (s : Int) rfl (by omega) hBs.out ?_; intro q2 c2 w2 hO2 hg2 _ hz2; replace hO2 := Lib.hid hO2; replace hg2 := Lib.hid hg2)
  have hO3 : Own 3 w.heap.size w2 q2 5 c2 (asI (l ++ [s])) := by
    have : asI (l ++ [s]) = asI l ++ [(s : Int)] := by rw [asI_app]; rfl
    rw [this]; exact hO2.out
  have hB2 := Lib.hid (hB.out.grown hg2.out hBs.out hqb.out)
  have hcap := OwnC.cap (k := 1) hO3
  have HK := Lib.hid (check_any q2 5 c2 (l ++ [s]) w2 (by omega) hO3.in hl.out hd.out)
  have hx3 := Lib.hid hO3.in
  clear hO2 hg2 hO hO3 hB hqb
  refine HK.out.mono ?_
  rintro e w3 ⟨rfl, hB3⟩
  have HS := Lib.hid (show_any q2 c2 cr (l ++ [s]) w3 hcap (hx3.out.below hB3) hst.out)
  have hB4 := Lib.hid (hB2.out.trans (hB3.mono hB2.out.size))
  clear HK hB3 hB2 hx3
  go_wp2_with fail
  refine HS.out.mono ?_
  rintro e w4 ⟨rfl, hB5⟩
  have hB6 := Lib.hid (hB4.out.trans (hB5.mono hB4.out.size))
  clear HS hB5 hB4
  go_wp2_with fail
  go_ret2
  exact ⟨rfl, hB6.out⟩
end Go.Proofs.Ytkakggagaplaiaa
