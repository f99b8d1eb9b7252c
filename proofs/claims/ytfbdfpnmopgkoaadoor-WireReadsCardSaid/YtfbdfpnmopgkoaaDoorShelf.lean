/- The contract of math/bits.Len64 at this seat: the lines that the kit's lay-plain.mjs wrote, turned to names. -/
import Derived.Shelf.Strconv.Itoa0
import Derived.Test.YtfbdfpnmopgkoaaDoorRows
namespace Go.Proofs
open Go.Shelf
set_option linter.unusedVariables false
def YtfbdfpnmopgkoaaDoorlays129_ren : Go.Shelf.Ren := ⟨fun | 129 => 67 | n => n, fun | 53 => 38 | 3 => 3 | 4 => 4 | 46 => 67 | 5 => 5 | 9 => 9 | n => n, fun | n => n⟩
theorem YtfbdfpnmopgkoaaDoorlays129 : Go.Proofs.Lays.n129 Tryd.prog YtfbdfpnmopgkoaaDoorlays129_ren := {
  mixed := by kernel_rfl
  f129 := Tryd.func67.trans (congrArg some (by kernel_rfl))
  t3 := Tryd.underlying3
  a3 := Tryd.isAgg3
  z3 := Tryd.sizeOf3
  v3 := Tryd.zeroValue3
  t4 := Tryd.underlying4
  a4 := Tryd.isAgg4
  z4 := Tryd.sizeOf4
  v4 := Tryd.zeroValue4
  t5 := Tryd.underlying5
  a5 := Tryd.isAgg5
  z5 := Tryd.sizeOf5
  v5 := Tryd.zeroValue5
  t9 := Tryd.underlying9
  a9 := Tryd.isAgg9
  z9 := Tryd.sizeOf9
  v9 := Tryd.zeroValue9
  t46 := Tryd.underlying67
  a46 := Tryd.isAgg67
  z46 := Tryd.sizeOf67
  v46 := Tryd.zeroValue67
  t53 := Tryd.underlying38
  a53 := Tryd.isAgg38
  z53 := Tryd.sizeOf38
  v53 := Tryd.zeroValue38 }
/-- bits.Len64: how many bits a number has. -/
theorem YtfbdfpnmopgkoaaDoorbits_Len64 (x : Int) (w : World) (h0 : 0 ≤ x) (h1 : x ≤ 18446744073709551615) :
    Calls Tryd.prog 67 #[.int .u64 x] w fun e w' => e = .returned (.int .i64 (Lib.bitLen x.toNat)) ∧ w' = w := Any.bits_Len64 YtfbdfpnmopgkoaaDoorlays129 x w h0 h1
end Go.Proofs
