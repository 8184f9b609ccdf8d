/- Contracts of library functions at this program, laid by the tool; the conditions stand in each. -/
import Derived.Shelf.Bits.Mul64
import Derived.Ground.Names2Prog
import Derived.Test.YtebgliipeaelhaaDoorProg
namespace Go.Proofs.YtebgliipeaelhaaDoor
open Go.Shelf
def Sh.lays212_ren : Go.Shelf.Ren := ⟨fun | 212 => 23 | 263 => 26 | 264 => 27 | n => n, fun | 46 => 40 | 51 => 55 | 146 => 56 | 53 => 58 | 148 => 59 | n => n, fun | n => n⟩
theorem Sh.lays212 : Go.Proofs.Lays.n212 Tryd.prog Sh.lays212_ren := {
  mixed := by kernel_rfl
  f212 := Tryd.func23.trans (congrArg some (by kernel_rfl))
  f263 := Tryd.func26.trans (congrArg some (by kernel_rfl))
  f264 := Tryd.func27.trans (congrArg some (by kernel_rfl))
  t46 := Tryd.underlying40
  a46 := Tryd.isAgg40
  z46 := Tryd.sizeOf40
  v46 := Tryd.zeroValue40
  t51 := Tryd.underlying55
  a51 := Tryd.isAgg55
  z51 := Tryd.sizeOf55
  v51 := Tryd.zeroValue55
  t53 := Tryd.underlying58
  a53 := Tryd.isAgg58
  z53 := Tryd.sizeOf58
  v53 := Tryd.zeroValue58
  t146 := Tryd.underlying56
  a146 := Tryd.isAgg56
  z146 := Tryd.sizeOf56
  v146 := Tryd.zeroValue56
  t148 := Tryd.underlying59
  a148 := Tryd.isAgg59
  z148 := Tryd.sizeOf59
  v148 := Tryd.zeroValue59 }
open Go.RowKit Go.Lib in
theorem Sh.bits_Mul (x y : Nat) (hx : x < 18446744073709551616) (hy : y < 18446744073709551616) (w : World) :
    Calls Tryd.prog 23 #[.int .u64 x, .int .u64 y] w fun e w' => e = .returned (.tuple #[.int .u64 ((x * y / 18446744073709551616 : Nat) : Int), .int .u64 ((x * y % 18446744073709551616 : Nat) : Int)]) ∧ w' = w := Any.bits_Mul Sh.lays212 x y hx hy w
end Go.Proofs.YtebgliipeaelhaaDoor
