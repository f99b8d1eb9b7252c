/- The laid table: what the rows' list gives; a world that holds it. -/
import Derived.Test.YtfnhaoindehjdaaDoorCards
import Derived.Test.YtfnhaoindehjdaaDoorTie
import Derived.Test.YtfnhaoindehjdaaDoorPb
import Derived.Test.YtfnhaoindehjdaaDoorPk
import Derived.ProofKit
import Derived.Deep.DeepHandedRow
import Derived.Lib.LaidTab
namespace Go.Proofs.YtfnhaoindehjdaaDoor
open Go.ChangeShapes Go.WideShapes Go.ChangeAt Go.RowKit
set_option linter.unusedVariables false
set_option linter.unusedSimpArgs false

theorem gTab : Tryd.prog.globalNamed "math/bits.deBruijn64tab" = some 0 := by kernel_rfl
theorem gTabType : (Tryd.prog.globals[0]?).map (·.type) = some 151 := by kernel_rfl
theorem cellsTab : Tryd.prog.cellsOf 151 = 64 := by kernel_rfl
theorem cellsU8 : Tryd.prog.cellsOf 5 = 1 := by kernel_rfl
theorem laid_fact {W : World} (h : laidMetH Tryd.prog [("math/bits.deBruijn64tab", Rows.laid_math_bits_deBruijn64tab)] W) : Tab W := by
  have h1 : Lib.TabIs Tryd.prog W "math/bits.deBruijn64tab" .u8 (Lib.deBruijn64tab.map fun x : Nat => (x : Int)) :=
    Lib.tabIs_of_head (rest := []) gTab gTabType Tryd.underlying151 Tryd.underlying5 cellsU8 cellsTab h
  intro j hj
  have := h1.cell gTab j (by simpa [Lib.deBruijn64tab] using hj)
  rw [this]
  have e : (Lib.deBruijn64tab.map fun x : Nat => (x : Int)).getD j 0 = ((Lib.deBruijn64tab.getD j 0 : Nat) : Int) := by
    have hl : j < Lib.deBruijn64tab.length := by simpa [Lib.deBruijn64tab] using hj
    simp [List.getD, hl]
  rw [e]
/-- A world that holds the table. -/
noncomputable def laidWorld (os : Os) : World :=
  { World.holding Tryd.prog os ⟨#[], #[], []⟩ with heap := (World.holding Tryd.prog os ⟨#[], #[], []⟩).heap.modify 0 fun
      | .cells _ t frozen => .cells ((Lib.deBruijn64tab.map fun x : Nat => Value.int .u8 (x : Int)).toArray) t frozen
      | o => o }
end Go.Proofs.YtfnhaoindehjdaaDoor
