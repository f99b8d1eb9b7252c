/- Plain: what the functions give at layer 42's examples. -/
import Derived.Test.YtfnhaoindehjdaaDoorSc
import Derived.Test.YtfnhaoindehjdaaDoorSa
import Derived.Test.YtfnhaoindehjdaaDoorAw
namespace Go.Proofs.YtfnhaoindehjdaaDoor
open Go.RowKit
set_option linter.unusedVariables false

def awQ1 : Pr := ⟨[ofL [1, 2], ofL [1, 2], ofL [1, 2, 3]], [(0, 1)], [(1, 2)], [], [0, 0, 0]⟩
def awQ2 : Pr := ⟨[ofL [1, 2], ofL [1, 2], ofL [1, 2]], [(0, 1), (1, 2), (0, 2)], [], [], [0, 0, 0]⟩
theorem awq1 : solveR awQ1 0 = (some [1, 2, 2], [], 0) := by decide +kernel
theorem awq2 : (solveR awQ2 0).1 = none ∧ (solveR awQ2 0).2.2 = 0 ∧ chkR awQ2 (solveR awQ2 0).2.1 = (1, 0) ∧ (solveR awQ2 0).2.1.length ≤ 1000000 := by decide +kernel
theorem awq3 : countR awQ1 10 = (2, 0) := by decide +kernel
theorem awq4 : critL awQ1 = [1, 2] := by decide +kernel
theorem sm_of {P : Pr} (hf : Few128 P) (h0 : ∀ M ∈ P.elig, M.testBit 0 = false) (hl : P.elig.length ≤ 5) : SmP P := by
  refine ⟨hl, fun z => ?_⟩
  have h1 := elig_128 hf (z : Int)
  have hb : (eligA P (z : Int)).testBit 0 = false := by
    unfold eligA
    rw [Int.toNat_natCast]
    cases hz : P.elig[z]? with
    | none => simp
    | some M => simpa using h0 M (List.mem_of_getElem? hz)
  unfold memZ
  rw [List.length_map, memM_memT h1]
  unfold memT
  rw [show List.range 7 = [0, 1, 2, 3, 4, 5, 6] from rfl, List.filter_cons, hb]
  simp only [Bool.false_eq_true, if_false]
  exact Nat.le_trans (List.length_filter_le _ _) (by simp)
theorem awq5 : SmP awQ1 := sm_of (by unfold Few128; decide +kernel) (by decide +kernel) (by decide)
theorem awq6 : SmP awQ2 := sm_of (by unfold Few128; decide +kernel) (by decide +kernel) (by decide)
end Go.Proofs.YtfnhaoindehjdaaDoor
