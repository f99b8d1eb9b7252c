/- The contract of math/bits.Len64 at this seat: the lines that the kit's lay-plain.mjs wrote, turned to names. -/
import Derived.Shelf.Strconv.Itoa0
import Derived.Test.YtfnhaoindehjdaaDoorRows
namespace Go.Proofs
open Go.Shelf
set_option linter.unusedVariables false
def YtfnhaoindehjdaaDoorlays129_ren : Go.Shelf.Ren := ⟨fun | 129 => 97 | n => n, fun | 53 => 112 | 3 => 3 | 4 => 4 | 46 => 75 | 5 => 5 | 9 => 9 | n => n, fun | n => n⟩
theorem YtfnhaoindehjdaaDoorlays129 : Go.Proofs.Lays.n129 Tryd.prog YtfnhaoindehjdaaDoorlays129_ren := {
  mixed := by kernel_rfl
  f129 := Tryd.func97.trans (congrArg some (by kernel_rfl))
  t3 := Tryd.underlying3
  a3 := Tryd.isAgg3
  z3 := Tryd.sizeOf3
  v3 := Tryd.zeroValue3
  t4 := Tryd.underlying4
  a4 := Tryd.isAgg4
  z4 := Tryd.sizeOf4
  v4 := Tryd.zeroValue4
  t5 := Tryd.underlying5
  a5 := Tryd.isAgg5
  z5 := Tryd.sizeOf5
  v5 := Tryd.zeroValue5
  t9 := Tryd.underlying9
  a9 := Tryd.isAgg9
  z9 := Tryd.sizeOf9
  v9 := Tryd.zeroValue9
  t46 := Tryd.underlying75
  a46 := Tryd.isAgg75
  z46 := Tryd.sizeOf75
  v46 := Tryd.zeroValue75
  t53 := Tryd.underlying112
  a53 := Tryd.isAgg112
  z53 := Tryd.sizeOf112
  v53 := Tryd.zeroValue112 }
/-- bits.Len64: how many bits a number has. -/
theorem YtfnhaoindehjdaaDoorbits_Len64 (x : Int) (w : World) (h0 : 0 ≤ x) (h1 : x ≤ 18446744073709551615) :
    Calls Tryd.prog 97 #[.int .u64 x] w fun e w' => e = .returned (.int .i64 (Lib.bitLen x.toNat)) ∧ w' = w := Any.bits_Len64 YtfnhaoindehjdaaDoorlays129 x w h0 h1
end Go.Proofs
