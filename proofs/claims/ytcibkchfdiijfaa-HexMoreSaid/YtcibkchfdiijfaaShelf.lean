/- Contracts of library functions at this program, laid by the tool; the conditions stand in each. -/
import Derived.Shelf.Small.Bits
import Derived.Shelf.Small.Wraps
import Derived.Shelf.Strconv.Itoa0
import Derived.Shelf.Sort.Plain
import Derived.Shelf.Bits.Mul64
import Derived.Ground.Names2Prog
import Derived.Shelf.Slices.Clone
import Derived.Shelf.Slices.SearchI
import Derived.Shelf.Slices.In.SortNone
import Derived.Test.YtcibkchfdiijfaaProg
namespace Go.Proofs.Ytcibkchfdiijfaa
open Go.Shelf
def Sh.lays189_ren : Go.Shelf.Ren := ⟨fun | 189 => 26 | 125 => 33 | 257 => 32 | 128 => 47 | 129 => 48 | 294 => 38 | 295 => 39 | 296 => 40 | 297 => 41 | 298 => 42 | 299 => 43 | 216 => 44 | 300 => 45 | 301 => 46 | 328 => 49 | 329 => 50 | 330 => 51 | 331 => 52 | 332 => 53 | 215 => 54 | 343 => 55 | n => n, fun | 28 => 22 | 3 => 3 | 46 => 56 | 0 => 0 | 51 => 70 | 53 => 65 | 4 => 4 | 183 => 77 | 182 => 76 | 131 => 69 | 5 => 5 | 9 => 9 | 218 => 85 | 222 => 89 | 228 => 91 | 229 => 92 | n => n, fun | n => n⟩
theorem Sh.lays189 : Go.Proofs.Lays.n189 Try.prog Sh.lays189_ren := {
  mixed := by kernel_rfl
  f125 := Try.func33.trans (congrArg some (by kernel_rfl))
  f128 := Try.func47.trans (congrArg some (by kernel_rfl))
  f129 := Try.func48.trans (congrArg some (by kernel_rfl))
  f189 := Try.func26.trans (congrArg some (by kernel_rfl))
  f215 := Try.func54.trans (congrArg some (by kernel_rfl))
  f216 := Try.func44.trans (congrArg some (by kernel_rfl))
  f257 := Try.func32.trans (congrArg some (by kernel_rfl))
  f294 := Try.func38.trans (congrArg some (by kernel_rfl))
  f295 := Try.func39.trans (congrArg some (by kernel_rfl))
  f296 := Try.func40.trans (congrArg some (by kernel_rfl))
  f297 := Try.func41.trans (congrArg some (by kernel_rfl))
  f298 := Try.func42.trans (congrArg some (by kernel_rfl))
  f299 := Try.func43.trans (congrArg some (by kernel_rfl))
  f300 := Try.func45.trans (congrArg some (by kernel_rfl))
  f301 := Try.func46.trans (congrArg some (by kernel_rfl))
  f328 := Try.func49.trans (congrArg some (by kernel_rfl))
  f329 := Try.func50.trans (congrArg some (by kernel_rfl))
  f330 := Try.func51.trans (congrArg some (by kernel_rfl))
  f331 := Try.func52.trans (congrArg some (by kernel_rfl))
  f332 := Try.func53.trans (congrArg some (by kernel_rfl))
  f343 := Try.func55.trans (congrArg some (by kernel_rfl))
  t0 := Try.underlying0
  a0 := Try.isAgg0
  z0 := Try.sizeOf0
  v0 := Try.zeroValue0
  t3 := Try.underlying3
  a3 := Try.isAgg3
  z3 := Try.sizeOf3
  v3 := Try.zeroValue3
  t4 := Try.underlying4
  a4 := Try.isAgg4
  z4 := Try.sizeOf4
  v4 := Try.zeroValue4
  t5 := Try.underlying5
  a5 := Try.isAgg5
  z5 := Try.sizeOf5
  v5 := Try.zeroValue5
  t9 := Try.underlying9
  a9 := Try.isAgg9
  z9 := Try.sizeOf9
  v9 := Try.zeroValue9
  t28 := Try.underlying22
  a28 := Try.isAgg22
  z28 := Try.sizeOf22
  v28 := Try.zeroValue22
  t46 := Try.underlying56
  a46 := Try.isAgg56
  z46 := Try.sizeOf56
  v46 := Try.zeroValue56
  t51 := Try.underlying70
  a51 := Try.isAgg70
  z51 := Try.sizeOf70
  v51 := Try.zeroValue70
  t53 := Try.underlying65
  a53 := Try.isAgg65
  z53 := Try.sizeOf65
  v53 := Try.zeroValue65
  t131 := Try.underlying69
  a131 := Try.isAgg69
  z131 := Try.sizeOf69
  v131 := Try.zeroValue69
  t182 := Try.underlying76
  a182 := Try.isAgg76
  z182 := Try.sizeOf76
  v182 := Try.zeroValue76
  t183 := Try.underlying77
  a183 := Try.isAgg77
  z183 := Try.sizeOf77
  v183 := Try.zeroValue77
  t218 := Try.underlying85
  a218 := Try.isAgg85
  z218 := Try.sizeOf85
  v218 := Try.zeroValue85
  t222 := Try.underlying89
  a222 := Try.isAgg89
  z222 := Try.sizeOf89
  v222 := Try.zeroValue89
  t228 := Try.underlying91
  a228 := Try.isAgg91
  z228 := Try.sizeOf91
  v228 := Try.zeroValue91
  t229 := Try.underlying92
  a229 := Try.isAgg92
  z229 := Try.sizeOf92
  v229 := Try.zeroValue92 }
open Go.Sort Go.RowKit in
theorem Sh.slices_Sort_int (blk off cap : Nat) (zs : List Int) (w : World) (hH : Holds (Value.int .i64) w blk off zs.toArray) (hblk : blk < w.heap.size) (hsz : zs.length < 4611686018427387904) :
    Calls Try.prog 26 #[.slice (some ⟨blk, off, none⟩) zs.length cap] w fun e w' =>
      e = .returned (.tuple #[]) ∧ ∃ n os, w' = grow (putRow (Value.int .i64) (Sort.ahead w n) blk off (zs.mergeSort fun x y => decide (x ≤ y)).toArray) os := Any.slices_Sort_int Sh.lays189 blk off cap zs w hH hblk hsz
def Sh.lays212_ren : Go.Shelf.Ren := ⟨fun | 212 => 29 | 263 => 36 | 264 => 37 | n => n, fun | 46 => 56 | 51 => 70 | 146 => 71 | 53 => 65 | 148 => 73 | n => n, fun | n => n⟩
theorem Sh.lays212 : Go.Proofs.Lays.n212 Try.prog Sh.lays212_ren := {
  mixed := by kernel_rfl
  f212 := Try.func29.trans (congrArg some (by kernel_rfl))
  f263 := Try.func36.trans (congrArg some (by kernel_rfl))
  f264 := Try.func37.trans (congrArg some (by kernel_rfl))
  t46 := Try.underlying56
  a46 := Try.isAgg56
  z46 := Try.sizeOf56
  v46 := Try.zeroValue56
  t51 := Try.underlying70
  a51 := Try.isAgg70
  z51 := Try.sizeOf70
  v51 := Try.zeroValue70
  t53 := Try.underlying65
  a53 := Try.isAgg65
  z53 := Try.sizeOf65
  v53 := Try.zeroValue65
  t146 := Try.underlying71
  a146 := Try.isAgg71
  z146 := Try.sizeOf71
  v146 := Try.zeroValue71
  t148 := Try.underlying73
  a148 := Try.isAgg73
  z148 := Try.sizeOf73
  v148 := Try.zeroValue73 }
open Go.RowKit Go.Lib in
theorem Sh.bits_Mul (x y : Nat) (hx : x < 18446744073709551616) (hy : y < 18446744073709551616) (w : World) :
    Calls Try.prog 29 #[.int .u64 x, .int .u64 y] w fun e w' => e = .returned (.tuple #[.int .u64 ((x * y / 18446744073709551616 : Nat) : Int), .int .u64 ((x * y % 18446744073709551616 : Nat) : Int)]) ∧ w' = w := Any.bits_Mul Sh.lays212 x y hx hy w
open Go.RowKit Go.Sort in
theorem Sh.slices_Sort_int_none (p : Option Addr) (cap : Nat) (w : World) :
    Calls Try.prog 26 #[.slice p 0 cap] w fun e w' => e = .returned (.tuple #[]) ∧ w' = w := Any.slices_Sort_int_none Sh.lays189 p cap w
end Go.Proofs.Ytcibkchfdiijfaa
