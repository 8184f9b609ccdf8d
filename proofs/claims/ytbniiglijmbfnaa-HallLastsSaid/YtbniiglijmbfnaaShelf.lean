/- Contracts of library functions at this program, laid by the tool; the conditions stand in each. -/
import Derived.Shelf.Strings.Prefix
import Derived.Test.YtbniiglijmbfnaaProg
namespace Go.Proofs.Ytbniiglijmbfnaa
open Go.Shelf
def Sh.lays206_ren : Go.Shelf.Ren := ⟨fun | 206 => 10 | n => n, fun | 9 => 9 | 4 => 4 | 3 => 3 | n => n, fun | n => n⟩
theorem Sh.lays206 : Go.Proofs.Lays.n206 Try.prog Sh.lays206_ren := {
  mixed := by kernel_rfl
  f206 := Try.func10.trans (congrArg some (by kernel_rfl))
  t3 := Try.underlying3
  a3 := Try.isAgg3
  z3 := Try.sizeOf3
  v3 := Try.zeroValue3
  t4 := Try.underlying4
  a4 := Try.isAgg4
  z4 := Try.sizeOf4
  v4 := Try.zeroValue4
  t9 := Try.underlying9
  a9 := Try.isAgg9
  z9 := Try.sizeOf9
  v9 := Try.zeroValue9 }
open Go.RowKit Go.Lib in
theorem Sh.stringslite_HasPrefix (s p : ByteArray) (w : World) :
    Calls Try.prog 10 #[.string s, .string p] w fun e w' => e = .returned (.bool (Lib.hasPrefix s.data.toList p.data.toList)) ∧ w' = w := Any.stringslite_HasPrefix Sh.lays206 s p w
def Sh.lays99_ren : Go.Shelf.Ren := ⟨fun | 99 => 9 | 206 => 10 | n => n, fun | 9 => 9 | 4 => 4 | 3 => 3 | n => n, fun | n => n⟩
theorem Sh.lays99 : Go.Proofs.Lays.n99 Try.prog Sh.lays99_ren := {
  mixed := by kernel_rfl
  f99 := Try.func9.trans (congrArg some (by kernel_rfl))
  f206 := Try.func10.trans (congrArg some (by kernel_rfl))
  t3 := Try.underlying3
  a3 := Try.isAgg3
  z3 := Try.sizeOf3
  v3 := Try.zeroValue3
  t4 := Try.underlying4
  a4 := Try.isAgg4
  z4 := Try.sizeOf4
  v4 := Try.zeroValue4
  t9 := Try.underlying9
  a9 := Try.isAgg9
  z9 := Try.sizeOf9
  v9 := Try.zeroValue9 }
open Go.RowKit Go.Lib in
theorem Sh.strings_HasPrefix (s p : ByteArray) (w : World) :
    Calls Try.prog 9 #[.string s, .string p] w fun e w' => e = .returned (.bool (Lib.hasPrefix s.data.toList p.data.toList)) ∧ w' = w := Any.strings_HasPrefix Sh.lays99 s p w
end Go.Proofs.Ytbniiglijmbfnaa
