/-
  DERIVED. GIVEN WITH THE SEED: THE CARDS: each row of YtfnhaoindehjdaaDoorRows.lean that lists a variable, with what it lists TIED to the program's text (the seventh form; the later family's looks); each row that meets fmt, with fmt's text TOLD by the authors' own Lean function (tested against real Go, not proved from fmt's source: count such statements apart). THE CARD IS WHAT COUNTS. Prove the row's statement (the work); the ties are given (YtfnhaoindehjdaaDoorTie.lean); close each card by the builder's one call (the guide's Derived/Test/ToyasCard.lean, 'card_holds'). Laid BY PROGRAM, IN A SANDBOX (cutbox-door.mjs). By AI agents, Wed Nov 11 2026. No macro, syntax, notation, axiom, sorry.
-/
import Derived.Test.YtfnhaoindehjdaaDoorRows
import GoSem.ClaimSeven
namespace Go.Proofs.YtfnhaoindehjdaaDoor
namespace Rows

/-- THE TIED CARD OF 'arbaclaw42.StaffingCounts'. -/
def staffingCountsCard : Claim7 := { stood := { row := staffingCountsRow, standIns := [], harness := (true, "af3534ea262c6f98177d42dddc9ceb70ee6eafec966822528b55be0fd88792cb"), looks := false }, kinds := [], alts := [], laidByText := true, laidKinds := [.data], laidTests := true, laidLooks := .later }
def StaffingCountsCardSaid : Prop := Claim7.holds Tryd.pinned (.plain (OpenSpec.ofChange staffingCountsSpec)) staffingCountsCard

/-- THE TIED CARD OF 'arbaclaw42.StaffingLimits'. -/
def staffingLimitsCard : Claim7 := { stood := { row := staffingLimitsRow, standIns := [], harness := (true, "af3534ea262c6f98177d42dddc9ceb70ee6eafec966822528b55be0fd88792cb"), looks := false }, kinds := [], alts := [], laidByText := true, laidKinds := [.data], laidTests := true, laidLooks := .later }
def StaffingLimitsCardSaid : Prop := Claim7.holds Tryd.pinned (.plain (OpenSpec.ofChange staffingLimitsSpec)) staffingLimitsCard

/-- THE TIED CARD OF 'arbaclaw42.StaffingSolves'. -/
def staffingSolvesCard : Claim7 := { stood := { row := staffingSolvesRow, standIns := [], harness := (true, "af3534ea262c6f98177d42dddc9ceb70ee6eafec966822528b55be0fd88792cb"), looks := false }, kinds := [], alts := [], laidByText := true, laidKinds := [.data], laidTests := true, laidLooks := .later }
def StaffingSolvesCardSaid : Prop := Claim7.holds Tryd.pinned (.plain (OpenSpec.ofChange staffingSolvesSpec)) staffingSolvesCard

/-- THE TIED CARD OF 'arbaclaw42.StaffingPossible'. -/
def staffingPossibleCard : Claim7 := { stood := { row := staffingPossibleRow, standIns := [], harness := (true, "af3534ea262c6f98177d42dddc9ceb70ee6eafec966822528b55be0fd88792cb"), looks := false }, kinds := [], alts := [], laidByText := true, laidKinds := [.data], laidTests := true, laidLooks := .later }
def StaffingPossibleCardSaid : Prop := Claim7.holds Tryd.pinned (.plain (OpenSpec.ofChange staffingPossibleSpec)) staffingPossibleCard

/-- THE TIED CARD OF 'arbaclaw42.StaffingFixes'. -/
def staffingFixesCard : Claim7 := { stood := { row := staffingFixesRow, standIns := [], harness := (true, "af3534ea262c6f98177d42dddc9ceb70ee6eafec966822528b55be0fd88792cb"), looks := false }, kinds := [], alts := [], laidByText := true, laidKinds := [.data], laidTests := true, laidLooks := .later }
def StaffingFixesCardSaid : Prop := Claim7.holds Tryd.pinned (.plain (OpenSpec.ofChange staffingFixesSpec)) staffingFixesCard

/-- THE TIED CARD OF 'arbaclaw42.StaffingRefuses'. -/
def staffingRefusesCard : Claim7 := { stood := { row := staffingRefusesRow, standIns := [], harness := (true, "af3534ea262c6f98177d42dddc9ceb70ee6eafec966822528b55be0fd88792cb"), looks := false }, kinds := [], alts := [], laidByText := true, laidKinds := [.data], laidTests := true, laidLooks := .later }
def StaffingRefusesCardSaid : Prop := Claim7.holds Tryd.pinned (.plain (OpenSpec.ofChange staffingRefusesSpec)) staffingRefusesCard

/-- THE TIED CARD OF 'arbaclaw42.StaffingShrinks'. -/
def staffingShrinksCard : Claim7 := { stood := { row := staffingShrinksRow, standIns := [], harness := (true, "af3534ea262c6f98177d42dddc9ceb70ee6eafec966822528b55be0fd88792cb"), looks := false }, kinds := [], alts := [], laidByText := true, laidKinds := [.data], laidTests := true, laidLooks := .later }
def StaffingShrinksCardSaid : Prop := Claim7.holds Tryd.pinned (.plain (OpenSpec.ofChange staffingShrinksSpec)) staffingShrinksCard

/-- THE TIED CARD OF 'arbaclaw42.StaffingProblems'. -/
def staffingProblemsCard : Claim7 := { stood := { row := staffingProblemsRow, standIns := [], harness := (true, "af3534ea262c6f98177d42dddc9ceb70ee6eafec966822528b55be0fd88792cb"), looks := false }, kinds := [], alts := [], laidByText := true, laidKinds := [.data], laidTests := true, laidLooks := .later }
def StaffingProblemsCardSaid : Prop := Claim7.holds Tryd.pinned (.plain (OpenSpec.ofChange staffingProblemsSpec)) staffingProblemsCard

/-- THE TIED CARD OF 'arbaclaw42.StaffingMatches'. -/
def staffingMatchesCard : Claim7 := { stood := { row := staffingMatchesRow, standIns := [], harness := (true, "af3534ea262c6f98177d42dddc9ceb70ee6eafec966822528b55be0fd88792cb"), looks := false }, kinds := [], alts := [], laidByText := true, laidKinds := [.data], laidTests := true, laidLooks := .later }
def StaffingMatchesCardSaid : Prop := Claim7.holds Tryd.pinned (.plain (OpenSpec.ofChange staffingMatchesSpec)) staffingMatchesCard

/-- THE SECOND FORM's CARD OF 'arbaclaw42.StaffingCounts'. -/
def staffingCountsUptoCard : Claim7 := { stood := { row := staffingCountsUptoRow, standIns := [], harness := (true, "af3534ea262c6f98177d42dddc9ceb70ee6eafec966822528b55be0fd88792cb"), looks := false }, kinds := [], alts := [], laidByText := true, laidKinds := [.data], laidTests := true, laidLooks := .later }
def StaffingCountsUptoCardSaid : Prop := Claim7.holds Tryd.pinned (.plain (OpenSpec.upto staffingCountsSpec)) staffingCountsUptoCard

/-- THE SECOND FORM's CARD OF 'arbaclaw42.StaffingLimits'. -/
def staffingLimitsUptoCard : Claim7 := { stood := { row := staffingLimitsUptoRow, standIns := [], harness := (true, "af3534ea262c6f98177d42dddc9ceb70ee6eafec966822528b55be0fd88792cb"), looks := false }, kinds := [], alts := [], laidByText := true, laidKinds := [.data], laidTests := true, laidLooks := .later }
def StaffingLimitsUptoCardSaid : Prop := Claim7.holds Tryd.pinned (.plain (OpenSpec.upto staffingLimitsSpec)) staffingLimitsUptoCard

/-- THE SECOND FORM's CARD OF 'arbaclaw42.StaffingSolves'. -/
def staffingSolvesUptoCard : Claim7 := { stood := { row := staffingSolvesUptoRow, standIns := [], harness := (true, "af3534ea262c6f98177d42dddc9ceb70ee6eafec966822528b55be0fd88792cb"), looks := false }, kinds := [], alts := [], laidByText := true, laidKinds := [.data], laidTests := true, laidLooks := .later }
def StaffingSolvesUptoCardSaid : Prop := Claim7.holds Tryd.pinned (.plain (OpenSpec.upto staffingSolvesSpec)) staffingSolvesUptoCard

/-- THE SECOND FORM's CARD OF 'arbaclaw42.StaffingPossible'. -/
def staffingPossibleUptoCard : Claim7 := { stood := { row := staffingPossibleUptoRow, standIns := [], harness := (true, "af3534ea262c6f98177d42dddc9ceb70ee6eafec966822528b55be0fd88792cb"), looks := false }, kinds := [], alts := [], laidByText := true, laidKinds := [.data], laidTests := true, laidLooks := .later }
def StaffingPossibleUptoCardSaid : Prop := Claim7.holds Tryd.pinned (.plain (OpenSpec.upto staffingPossibleSpec)) staffingPossibleUptoCard

/-- THE SECOND FORM's CARD OF 'arbaclaw42.StaffingFixes'. -/
def staffingFixesUptoCard : Claim7 := { stood := { row := staffingFixesUptoRow, standIns := [], harness := (true, "af3534ea262c6f98177d42dddc9ceb70ee6eafec966822528b55be0fd88792cb"), looks := false }, kinds := [], alts := [], laidByText := true, laidKinds := [.data], laidTests := true, laidLooks := .later }
def StaffingFixesUptoCardSaid : Prop := Claim7.holds Tryd.pinned (.plain (OpenSpec.upto staffingFixesSpec)) staffingFixesUptoCard

/-- THE SECOND FORM's CARD OF 'arbaclaw42.StaffingRefuses'. -/
def staffingRefusesUptoCard : Claim7 := { stood := { row := staffingRefusesUptoRow, standIns := [], harness := (true, "af3534ea262c6f98177d42dddc9ceb70ee6eafec966822528b55be0fd88792cb"), looks := false }, kinds := [], alts := [], laidByText := true, laidKinds := [.data], laidTests := true, laidLooks := .later }
def StaffingRefusesUptoCardSaid : Prop := Claim7.holds Tryd.pinned (.plain (OpenSpec.upto staffingRefusesSpec)) staffingRefusesUptoCard

/-- THE SECOND FORM's CARD OF 'arbaclaw42.StaffingShrinks'. -/
def staffingShrinksUptoCard : Claim7 := { stood := { row := staffingShrinksUptoRow, standIns := [], harness := (true, "af3534ea262c6f98177d42dddc9ceb70ee6eafec966822528b55be0fd88792cb"), looks := false }, kinds := [], alts := [], laidByText := true, laidKinds := [.data], laidTests := true, laidLooks := .later }
def StaffingShrinksUptoCardSaid : Prop := Claim7.holds Tryd.pinned (.plain (OpenSpec.upto staffingShrinksSpec)) staffingShrinksUptoCard

/-- THE SECOND FORM's CARD OF 'arbaclaw42.StaffingProblems'. -/
def staffingProblemsUptoCard : Claim7 := { stood := { row := staffingProblemsUptoRow, standIns := [], harness := (true, "af3534ea262c6f98177d42dddc9ceb70ee6eafec966822528b55be0fd88792cb"), looks := false }, kinds := [], alts := [], laidByText := true, laidKinds := [.data], laidTests := true, laidLooks := .later }
def StaffingProblemsUptoCardSaid : Prop := Claim7.holds Tryd.pinned (.plain (OpenSpec.upto staffingProblemsSpec)) staffingProblemsUptoCard

/-- THE SECOND FORM's CARD OF 'arbaclaw42.StaffingMatches'. -/
def staffingMatchesUptoCard : Claim7 := { stood := { row := staffingMatchesUptoRow, standIns := [], harness := (true, "af3534ea262c6f98177d42dddc9ceb70ee6eafec966822528b55be0fd88792cb"), looks := false }, kinds := [], alts := [], laidByText := true, laidKinds := [.data], laidTests := true, laidLooks := .later }
def StaffingMatchesUptoCardSaid : Prop := Claim7.holds Tryd.pinned (.plain (OpenSpec.upto staffingMatchesSpec)) staffingMatchesUptoCard
end Rows
end Go.Proofs.YtfnhaoindehjdaaDoor
