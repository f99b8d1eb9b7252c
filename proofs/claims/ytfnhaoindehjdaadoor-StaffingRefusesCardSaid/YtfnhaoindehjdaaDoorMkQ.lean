/- Plain: the problems that layer 42's laws are about. -/
import Derived.Test.YtfnhaoindehjdaaDoorStR
import Derived.Test.YtfnhaoindehjdaaDoorStX
import Derived.Test.YtfnhaoindehjdaaDoorStC
import Derived.Test.YtfnhaoindehjdaaDoorAllP
import Derived.Test.YtfnhaoindehjdaaDoorPm
namespace Go.Proofs.YtfnhaoindehjdaaDoor
open Go.RowKit
set_option linter.unusedVariables false

theorem mkP_fix6 (R : Rw) : ∀ u ∈ (mkP R).fix, u ≤ 6 := fun u hu => by
  obtain ⟨k, _, rfl⟩ := List.mem_map.1 (show u ∈ (List.range (rn R)).map (mkF R) from hu)
  unfold mkF
  split <;> omega
theorem mkP_four (R : Rw) (z : Nat) : (memZ (eligA (mkP R) (z : Int))).length ≤ 4 := by
  have hlt : eligA (mkP R) (z : Int) < 2 ^ 5 := by
    unfold eligA
    rw [Int.toNat_natCast]
    cases hz : (mkP R).elig[z]? with
    | none => simp
    | some M => simpa using mkP_32 R M (List.mem_of_getElem? hz)
  have hb : (eligA (mkP R) (z : Int)).testBit 0 = false := by
    unfold eligA
    rw [Int.toNat_natCast]
    cases hz : (mkP R).elig[z]? with
    | none => simp
    | some M => simpa using ((chkP_ok (chkP_mkP R)).eli M (List.mem_of_getElem? hz)).1
  unfold memZ
  rw [List.length_map, memM_memT hlt]
  unfold memT
  rw [show List.range 5 = [0, 1, 2, 3, 4] from rfl, List.filter_cons, hb]
  simp only [Bool.false_eq_true, if_false]
  exact Nat.le_trans (List.length_filter_le _ _) (by simp)
theorem mkP_sm (R : Rw) : SmP (mkP R) := ⟨(mkP_few R).e1, fun z => Nat.le_trans (mkP_four R z) (by omega)⟩
theorem mkP_sols (R : Rw) : solsL (mkP R) = allL (mkP R) := solsL_all (chkP_mkP R) (few128_of (mkP_32 R)) (mkP_fix6 R)
end Go.Proofs.YtfnhaoindehjdaaDoor
