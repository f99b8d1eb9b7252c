/- The laid table: what the rows' list gives; a world that holds it. -/
import Derived.Test.YtcnofhlgiffkjaaGreatDoorCards
import Derived.Test.YtcnofhlgiffkjaaGreatDoorTie
import Derived.Test.YtcnofhlgiffkjaaGreatDoorPb
import Derived.Test.YtcnofhlgiffkjaaGreatDoorPk
import Derived.ProofKit
import Derived.Deep.DeepHandedRow
import Derived.Lib.LaidTab
namespace Go.Proofs.YtcnofhlgiffkjaaGreatDoor
open Go.ChangeShapes Go.WideShapes Go.ChangeAt Go.RowKit
set_option linter.unusedVariables false
set_option linter.unusedSimpArgs false

theorem gTab : Tryz.prog.globalNamed "math/bits.deBruijn64tab" = some 0 := by kernel_rfl
theorem gTabType : (Tryz.prog.globals[0]?).map (·.type) = some 153 := by kernel_rfl
theorem cellsTab : Tryz.prog.cellsOf 153 = 64 := by kernel_rfl
theorem cellsU8 : Tryz.prog.cellsOf 5 = 1 := by kernel_rfl
theorem laid_fact {W : World} (h : laidMetH Tryz.prog [("math/bits.deBruijn64tab", Rows.laid_math_bits_deBruijn64tab)] W) : Tab W := by
  have h1 : Lib.TabIs Tryz.prog W "math/bits.deBruijn64tab" .u8 (Lib.deBruijn64tab.map fun x : Nat => (x : Int)) :=
    Lib.tabIs_of_head (rest := []) gTab gTabType Tryz.underlying153 Tryz.underlying5 cellsU8 cellsTab h
  intro j hj
  have := h1.cell gTab j (by simpa [Lib.deBruijn64tab] using hj)
  rw [this]
  have e : (Lib.deBruijn64tab.map fun x : Nat => (x : Int)).getD j 0 = ((Lib.deBruijn64tab.getD j 0 : Nat) : Int) := by
    have hl : j < Lib.deBruijn64tab.length := by simpa [Lib.deBruijn64tab] using hj
    simp [List.getD, hl]
  rw [e]
/-- A world that holds the table. -/
noncomputable def laidWorld (os : Os) : World :=
  { World.holding Tryz.prog os ⟨#[], #[], []⟩ with heap := (World.holding Tryz.prog os ⟨#[], #[], []⟩).heap.modify 0 fun
      | .cells _ t frozen => .cells ((Lib.deBruijn64tab.map fun x : Nat => Value.int .u8 (x : Int)).toArray) t frozen
      | o => o }
end Go.Proofs.YtcnofhlgiffkjaaGreatDoor
