/- Contracts of library functions at this program, laid by the tool; the conditions stand in each. -/
import Derived.Shelf.Bits.Mul64
import Derived.Ground.Names2Prog
import Derived.Shelf.Slices.Clone
import Derived.Ground.SlgnProg
import Derived.Shelf.SlicesE.Clone
import Derived.Test.YtehcelajmhclmaaProg
namespace Go.Proofs.Ytehcelajmhclmaa
open Go.Shelf
def Sh.lays212_ren : Go.Shelf.Ren := ⟨fun | 212 => 22 | 263 => 24 | 264 => 25 | n => n, fun | 46 => 48 | 51 => 52 | 146 => 53 | 53 => 55 | 148 => 56 | n => n, fun | n => n⟩
theorem Sh.lays212 : Go.Proofs.Lays.n212 Try.prog Sh.lays212_ren := {
  mixed := by kernel_rfl
  f212 := Try.func22.trans (congrArg some (by kernel_rfl))
  f263 := Try.func24.trans (congrArg some (by kernel_rfl))
  f264 := Try.func25.trans (congrArg some (by kernel_rfl))
  t46 := Try.underlying48
  a46 := Try.isAgg48
  z46 := Try.sizeOf48
  v46 := Try.zeroValue48
  t51 := Try.underlying52
  a51 := Try.isAgg52
  z51 := Try.sizeOf52
  v51 := Try.zeroValue52
  t53 := Try.underlying55
  a53 := Try.isAgg55
  z53 := Try.sizeOf55
  v53 := Try.zeroValue55
  t146 := Try.underlying53
  a146 := Try.isAgg53
  z146 := Try.sizeOf53
  v146 := Try.zeroValue53
  t148 := Try.underlying56
  a148 := Try.isAgg56
  z148 := Try.sizeOf56
  v148 := Try.zeroValue56 }
open Go.RowKit Go.Lib in
theorem Sh.bits_Mul (x y : Nat) (hx : x < 18446744073709551616) (hy : y < 18446744073709551616) (w : World) :
    Calls Try.prog 22 #[.int .u64 x, .int .u64 y] w fun e w' => e = .returned (.tuple #[.int .u64 ((x * y / 18446744073709551616 : Nat) : Int), .int .u64 ((x * y % 18446744073709551616 : Nat) : Int)]) ∧ w' = w := Any.bits_Mul Sh.lays212 x y hx hy w
end Go.Proofs.Ytehcelajmhclmaa
