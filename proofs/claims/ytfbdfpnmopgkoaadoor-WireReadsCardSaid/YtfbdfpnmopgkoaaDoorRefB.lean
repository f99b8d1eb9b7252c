/- The walks of the reference's PutInt, PutFlag, PutBytes. -/
import Derived.Test.YtfbdfpnmopgkoaaDoorRefA
import Derived.Test.YtfbdfpnmopgkoaaDoorWireG
namespace Go.Proofs.YtfbdfpnmopgkoaaDoor
open Go.RowKit
set_option linter.unusedVariables false
set_option linter.unusedSimpArgs false

/-- PutInt. -/
theorem putInt_any (z : Int) (w : World) (h1 : -9223372036854775808 ≤ z) (h2 : z ≤ 9223372036854775807) :
    Calls Tryd.prog 46 #[.int .i64 z] w fun e w' => ∃ A n c, e = .returned (.slice A n c) ∧ OwnB w' w.heap.size (.slice A n c) n (enc (zig z)) ∧ Below w.heap.size w w' := by
  have hzl := zig_lt h1 h2
  have hu := put_any (zig z) w hzl
  by_cases hz : z < 0
  · have hz' : ¬ 0 ≤ z := by omega
    have e : ((zig z : Nat) : Int) = 2 * (-(z + 1)) + 1 := by unfold zig; rw [if_pos hz]; omega
    rw [e] at hu
    clear e hzl
    go_enter Tryd.func46, Tryd.ntmps46
    go_wp2_with fail
    refine hu.mono ?_
    rintro e w1 ⟨A, n, c, rfl, hw1⟩
    go_wp2_with fail
    go_ret
    exact ⟨A, n, c, rfl, hw1⟩
  · have hz' : 0 ≤ z := by omega
    have e : ((zig z : Nat) : Int) = 2 * z := by unfold zig; rw [if_neg hz]; omega
    rw [e] at hu
    clear e hzl
    go_enter Tryd.func46, Tryd.ntmps46
    go_wp2_with fail
    refine hu.mono ?_
    rintro e w1 ⟨A, n, c, rfl, hw1⟩
    go_wp2_with fail
    go_ret
    exact ⟨A, n, c, rfl, hw1⟩
end Go.Proofs.YtfbdfpnmopgkoaaDoor
