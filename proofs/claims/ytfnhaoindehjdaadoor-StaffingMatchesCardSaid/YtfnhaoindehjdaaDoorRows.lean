/-
  NARROWER THAN 'FOR EVERY INPUT', by the rows' own cells (each row's printed sentence says how): StaffingCounts: laid · StaffingLimits: laid · StaffingSolves: laid · StaffingPossible: laid · StaffingFixes: laid · StaffingRefuses: laid · StaffingShrinks: laid · StaffingProblems: laid · StaffingMatches: laid.
  DERIVED. THE GIVEN ROWS OF THIS SEAT. 9 by the template 'for every input the law returns true; each argument reads behind the call as it read before'; 0 by the template 'total and deterministic' (their statements: YtfnhaoindehjdaaDoorTotals.lean).
  GIVEN WITH THE SEED: the statements are not yours to turn. If you find one false, say at which input.
  Laid BY PROGRAM, IN A SANDBOX (cutbox-rows.mjs): the forced cells as the released guide's own fill.sh prints them over the translation 20fd9dc895a66c9c… (all of the seat's roots in one cut). By AI agents, Wed Nov 11 2026. No macro, syntax, notation, axiom, sorry.
-/
import Derived.Test.YtfnhaoindehjdaaDoorChecked
import GoSem.Claim
import GoSem.ClaimJoined
import GoSem.ClaimMapViews
import Derived.JoinedTies
import Derived.KernelRfl
namespace Go.Proofs.YtfnhaoindehjdaaDoor
/- THE CELL 'sum', in the pinned program and in every row, IS THE sha256 OF THE DUMP (.gsa) THAT YtfnhaoindehjdaaDoorProg.lean LOADS. Nothing in Lean hashes anything: it is a label: what it is worth is what the hold of that sum in a sandbox is worth. -/
noncomputable def Tryd.pinned : Pinned := { name := "ytfnhaoindehjdaadoor", sum := "20fd9dc895a66c9cd6616978b21845d809dd766605c1a9756f0c78f59dc53fe2", checked := Tryd.checked }
namespace Rows
def none {H : Type} : Left H := { results := [], args := [] }

/- WHAT THE LISTED PACKAGE-LEVEL VARIABLES READ AS WHEN THE CALL BEGINS. Each datum BY PROGRAM (the guide's laid-datum.mjs) off the statement by which the dump's own 'gosem.cut.vars' lays the variable. In a bare row this is a premise. The card (YtfnhaoindehjdaaDoorCards.lean) ties it to the program's text. -/
def laid_math_bits_deBruijn64tab {H : Type} : DataW H := .agg [.lit (.int .u8 0), .lit (.int .u8 1), .lit (.int .u8 56), .lit (.int .u8 2), .lit (.int .u8 57), .lit (.int .u8 49), .lit (.int .u8 28), .lit (.int .u8 3), .lit (.int .u8 61), .lit (.int .u8 58), .lit (.int .u8 42), .lit (.int .u8 50), .lit (.int .u8 38), .lit (.int .u8 29), .lit (.int .u8 17), .lit (.int .u8 4), .lit (.int .u8 62), .lit (.int .u8 47), .lit (.int .u8 59), .lit (.int .u8 36), .lit (.int .u8 45), .lit (.int .u8 43), .lit (.int .u8 51), .lit (.int .u8 22), .lit (.int .u8 53), .lit (.int .u8 39), .lit (.int .u8 33), .lit (.int .u8 30), .lit (.int .u8 24), .lit (.int .u8 18), .lit (.int .u8 12), .lit (.int .u8 5), .lit (.int .u8 63), .lit (.int .u8 55), .lit (.int .u8 48), .lit (.int .u8 27), .lit (.int .u8 60), .lit (.int .u8 41), .lit (.int .u8 37), .lit (.int .u8 16), .lit (.int .u8 46), .lit (.int .u8 35), .lit (.int .u8 44), .lit (.int .u8 21), .lit (.int .u8 52), .lit (.int .u8 32), .lit (.int .u8 23), .lit (.int .u8 11), .lit (.int .u8 54), .lit (.int .u8 26), .lit (.int .u8 40), .lit (.int .u8 15), .lit (.int .u8 34), .lit (.int .u8 20), .lit (.int .u8 31), .lit (.int .u8 10), .lit (.int .u8 25), .lit (.int .u8 14), .lit (.int .u8 19), .lit (.int .u8 9), .lit (.int .u8 13), .lit (.int .u8 8), .lit (.int .u8 7), .lit (.int .u8 6)]

/-- 'arbaclaw42.StaffingCounts': WHATEVER THE INPUT: true; the input reads as it did. -/
def staffingCountsSpec : ChangeSpec := { name := "staffingCounts", fn := fun _ => fun
  | [d1, d2] => { results := [.lit (.bool true)], args := [d1, d2] }
  | _ => none }
def staffingCountsRow : OpenClaim := { program := "ytfnhaoindehjdaadoor", sum := "20fd9dc895a66c9cd6616978b21845d809dd766605c1a9756f0c78f59dc53fe2", func := "arbac/arbaclaw42.StaffingCounts", spec := "staffingCounts", unfollowed := true, recurses := true, named := ["math/bits.deBruijn64tab"], apart := false, laid := [("math/bits.deBruijn64tab", laid_math_bits_deBruijn64tab)] }
def StaffingCountsSaid : Prop := staffingCountsRow.holds Tryd.pinned (OpenSpec.ofChange staffingCountsSpec)

/-- ITS FALSE NEIGHBOUR: 'it returns false'. Refute it at one input. -/
def staffingCountsWrong : ChangeSpec := { name := "staffingCounts", fn := fun _ => fun
  | [d1, d2] => { results := [.lit (.bool false)], args := [d1, d2] }
  | _ => none }
def StaffingCountsWrongFalsely : Prop := staffingCountsRow.holds Tryd.pinned (OpenSpec.ofChange staffingCountsWrong)

/-- 'arbaclaw42.StaffingLimits': WHATEVER THE INPUT: true; the input reads as it did. -/
def staffingLimitsSpec : ChangeSpec := { name := "staffingLimits", fn := fun _ => fun
  | [d1, d2] => { results := [.lit (.bool true)], args := [d1, d2] }
  | _ => none }
def staffingLimitsRow : OpenClaim := { program := "ytfnhaoindehjdaadoor", sum := "20fd9dc895a66c9cd6616978b21845d809dd766605c1a9756f0c78f59dc53fe2", func := "arbac/arbaclaw42.StaffingLimits", spec := "staffingLimits", unfollowed := true, recurses := true, named := ["math/bits.deBruijn64tab"], apart := false, laid := [("math/bits.deBruijn64tab", laid_math_bits_deBruijn64tab)] }
def StaffingLimitsSaid : Prop := staffingLimitsRow.holds Tryd.pinned (OpenSpec.ofChange staffingLimitsSpec)

/-- ITS FALSE NEIGHBOUR: 'it returns false'. Refute it at one input. -/
def staffingLimitsWrong : ChangeSpec := { name := "staffingLimits", fn := fun _ => fun
  | [d1, d2] => { results := [.lit (.bool false)], args := [d1, d2] }
  | _ => none }
def StaffingLimitsWrongFalsely : Prop := staffingLimitsRow.holds Tryd.pinned (OpenSpec.ofChange staffingLimitsWrong)

/-- 'arbaclaw42.StaffingSolves': WHATEVER THE INPUT: true; the input reads as it did. -/
def staffingSolvesSpec : ChangeSpec := { name := "staffingSolves", fn := fun _ => fun
  | [d] => { results := [.lit (.bool true)], args := [d] }
  | _ => none }
def staffingSolvesRow : OpenClaim := { program := "ytfnhaoindehjdaadoor", sum := "20fd9dc895a66c9cd6616978b21845d809dd766605c1a9756f0c78f59dc53fe2", func := "arbac/arbaclaw42.StaffingSolves", spec := "staffingSolves", unfollowed := true, recurses := true, named := ["math/bits.deBruijn64tab"], apart := false, laid := [("math/bits.deBruijn64tab", laid_math_bits_deBruijn64tab)] }
def StaffingSolvesSaid : Prop := staffingSolvesRow.holds Tryd.pinned (OpenSpec.ofChange staffingSolvesSpec)

/-- ITS FALSE NEIGHBOUR: 'it returns false'. Refute it at one input. -/
def staffingSolvesWrong : ChangeSpec := { name := "staffingSolves", fn := fun _ => fun
  | [d] => { results := [.lit (.bool false)], args := [d] }
  | _ => none }
def StaffingSolvesWrongFalsely : Prop := staffingSolvesRow.holds Tryd.pinned (OpenSpec.ofChange staffingSolvesWrong)

/-- 'arbaclaw42.StaffingPossible': WHATEVER THE INPUT: true; the input reads as it did. -/
def staffingPossibleSpec : ChangeSpec := { name := "staffingPossible", fn := fun _ => fun
  | [d] => { results := [.lit (.bool true)], args := [d] }
  | _ => none }
def staffingPossibleRow : OpenClaim := { program := "ytfnhaoindehjdaadoor", sum := "20fd9dc895a66c9cd6616978b21845d809dd766605c1a9756f0c78f59dc53fe2", func := "arbac/arbaclaw42.StaffingPossible", spec := "staffingPossible", unfollowed := true, recurses := true, named := ["math/bits.deBruijn64tab"], apart := false, laid := [("math/bits.deBruijn64tab", laid_math_bits_deBruijn64tab)] }
def StaffingPossibleSaid : Prop := staffingPossibleRow.holds Tryd.pinned (OpenSpec.ofChange staffingPossibleSpec)

/-- ITS FALSE NEIGHBOUR: 'it returns false'. Refute it at one input. -/
def staffingPossibleWrong : ChangeSpec := { name := "staffingPossible", fn := fun _ => fun
  | [d] => { results := [.lit (.bool false)], args := [d] }
  | _ => none }
def StaffingPossibleWrongFalsely : Prop := staffingPossibleRow.holds Tryd.pinned (OpenSpec.ofChange staffingPossibleWrong)

/-- 'arbaclaw42.StaffingFixes': WHATEVER THE INPUT: true; the input reads as it did. -/
def staffingFixesSpec : ChangeSpec := { name := "staffingFixes", fn := fun _ => fun
  | [d1, d2] => { results := [.lit (.bool true)], args := [d1, d2] }
  | _ => none }
def staffingFixesRow : OpenClaim := { program := "ytfnhaoindehjdaadoor", sum := "20fd9dc895a66c9cd6616978b21845d809dd766605c1a9756f0c78f59dc53fe2", func := "arbac/arbaclaw42.StaffingFixes", spec := "staffingFixes", unfollowed := true, recurses := true, named := ["math/bits.deBruijn64tab"], apart := false, laid := [("math/bits.deBruijn64tab", laid_math_bits_deBruijn64tab)] }
def StaffingFixesSaid : Prop := staffingFixesRow.holds Tryd.pinned (OpenSpec.ofChange staffingFixesSpec)

/-- ITS FALSE NEIGHBOUR: 'it returns false'. Refute it at one input. -/
def staffingFixesWrong : ChangeSpec := { name := "staffingFixes", fn := fun _ => fun
  | [d1, d2] => { results := [.lit (.bool false)], args := [d1, d2] }
  | _ => none }
def StaffingFixesWrongFalsely : Prop := staffingFixesRow.holds Tryd.pinned (OpenSpec.ofChange staffingFixesWrong)

/-- 'arbaclaw42.StaffingRefuses': WHATEVER THE INPUT: true; the input reads as it did. -/
def staffingRefusesSpec : ChangeSpec := { name := "staffingRefuses", fn := fun _ => fun
  | [d1, d2, d3] => { results := [.lit (.bool true)], args := [d1, d2, d3] }
  | _ => none }
def staffingRefusesRow : OpenClaim := { program := "ytfnhaoindehjdaadoor", sum := "20fd9dc895a66c9cd6616978b21845d809dd766605c1a9756f0c78f59dc53fe2", func := "arbac/arbaclaw42.StaffingRefuses", spec := "staffingRefuses", unfollowed := true, recurses := true, named := ["math/bits.deBruijn64tab"], apart := false, laid := [("math/bits.deBruijn64tab", laid_math_bits_deBruijn64tab)] }
def StaffingRefusesSaid : Prop := staffingRefusesRow.holds Tryd.pinned (OpenSpec.ofChange staffingRefusesSpec)

/-- ITS FALSE NEIGHBOUR: 'it returns false'. Refute it at one input. -/
def staffingRefusesWrong : ChangeSpec := { name := "staffingRefuses", fn := fun _ => fun
  | [d1, d2, d3] => { results := [.lit (.bool false)], args := [d1, d2, d3] }
  | _ => none }
def StaffingRefusesWrongFalsely : Prop := staffingRefusesRow.holds Tryd.pinned (OpenSpec.ofChange staffingRefusesWrong)

/-- 'arbaclaw42.StaffingShrinks': WHATEVER THE INPUT: true; the input reads as it did. -/
def staffingShrinksSpec : ChangeSpec := { name := "staffingShrinks", fn := fun _ => fun
  | [d1, d2, d3] => { results := [.lit (.bool true)], args := [d1, d2, d3] }
  | _ => none }
def staffingShrinksRow : OpenClaim := { program := "ytfnhaoindehjdaadoor", sum := "20fd9dc895a66c9cd6616978b21845d809dd766605c1a9756f0c78f59dc53fe2", func := "arbac/arbaclaw42.StaffingShrinks", spec := "staffingShrinks", unfollowed := true, recurses := true, named := ["math/bits.deBruijn64tab"], apart := false, laid := [("math/bits.deBruijn64tab", laid_math_bits_deBruijn64tab)] }
def StaffingShrinksSaid : Prop := staffingShrinksRow.holds Tryd.pinned (OpenSpec.ofChange staffingShrinksSpec)

/-- ITS FALSE NEIGHBOUR: 'it returns false'. Refute it at one input. -/
def staffingShrinksWrong : ChangeSpec := { name := "staffingShrinks", fn := fun _ => fun
  | [d1, d2, d3] => { results := [.lit (.bool false)], args := [d1, d2, d3] }
  | _ => none }
def StaffingShrinksWrongFalsely : Prop := staffingShrinksRow.holds Tryd.pinned (OpenSpec.ofChange staffingShrinksWrong)

/-- 'arbaclaw42.StaffingProblems': WHATEVER THE INPUT: true; the input reads as it did. -/
def staffingProblemsSpec : ChangeSpec := { name := "staffingProblems", fn := fun _ => fun
  | [d1, d2] => { results := [.lit (.bool true)], args := [d1, d2] }
  | _ => none }
def staffingProblemsRow : OpenClaim := { program := "ytfnhaoindehjdaadoor", sum := "20fd9dc895a66c9cd6616978b21845d809dd766605c1a9756f0c78f59dc53fe2", func := "arbac/arbaclaw42.StaffingProblems", spec := "staffingProblems", unfollowed := true, recurses := true, named := ["math/bits.deBruijn64tab"], apart := false, laid := [("math/bits.deBruijn64tab", laid_math_bits_deBruijn64tab)] }
def StaffingProblemsSaid : Prop := staffingProblemsRow.holds Tryd.pinned (OpenSpec.ofChange staffingProblemsSpec)

/-- ITS FALSE NEIGHBOUR: 'it returns false'. Refute it at one input. -/
def staffingProblemsWrong : ChangeSpec := { name := "staffingProblems", fn := fun _ => fun
  | [d1, d2] => { results := [.lit (.bool false)], args := [d1, d2] }
  | _ => none }
def StaffingProblemsWrongFalsely : Prop := staffingProblemsRow.holds Tryd.pinned (OpenSpec.ofChange staffingProblemsWrong)

/-- 'arbaclaw42.StaffingMatches': WHATEVER THE INPUT: true; the input reads as it did. -/
def staffingMatchesSpec : ChangeSpec := { name := "staffingMatches", fn := fun _ => fun
  | [d] => { results := [.lit (.bool true)], args := [d] }
  | _ => none }
def staffingMatchesRow : OpenClaim := { program := "ytfnhaoindehjdaadoor", sum := "20fd9dc895a66c9cd6616978b21845d809dd766605c1a9756f0c78f59dc53fe2", func := "arbac/arbaclaw42.StaffingMatches", spec := "staffingMatches", unfollowed := true, recurses := true, named := ["math/bits.deBruijn64tab"], apart := false, laid := [("math/bits.deBruijn64tab", laid_math_bits_deBruijn64tab)] }
def StaffingMatchesSaid : Prop := staffingMatchesRow.holds Tryd.pinned (OpenSpec.ofChange staffingMatchesSpec)

/-- ITS FALSE NEIGHBOUR: 'it returns false'. Refute it at one input. -/
def staffingMatchesWrong : ChangeSpec := { name := "staffingMatches", fn := fun _ => fun
  | [d] => { results := [.lit (.bool false)], args := [d] }
  | _ => none }
def StaffingMatchesWrongFalsely : Prop := staffingMatchesRow.holds Tryd.pinned (OpenSpec.ofChange staffingMatchesWrong)

/- THE SECOND FORM. 'bulk': how many values and letters a reading holds, each counted each time it is reached (what is shared counts as often as it is met; a slice's spare places count too). A statement '..UptoSaid' is the law's where the arguments, and the package variables that the reading takes, are together of bulk at most 1048576: NARROWER than '..Said'. Prove '..Said' where nothing that the law and all that it calls make is longer than what came in: it says more and counts as full. Else prove '..UptoSaid'. A law counts once. -/
mutual
def uptoBulk {H : Type} : DataW H → Nat
  | .lit (.string bytes) => bytes.length + 1
  | .lit _ => 1
  | .nil => 1
  | .ptr d => uptoBulk d + 1
  | .slice elems spare => uptoBulkAll elems + uptoBulkAll spare + 1
  | .agg parts => uptoBulkAll parts + 1
  | .iface _ d => uptoBulk d + 1
  | .map entries => uptoBulkEntries entries + 1
  | .held _ => 1
def uptoBulkAll {H : Type} : List (DataW H) → Nat
  | [] => 0
  | d :: r => uptoBulk d + uptoBulkAll r
def uptoBulkEntries {H : Type} : List (Lit × DataW H) → Nat
  | [] => 0
  | x :: r => uptoBulkEntry x + uptoBulkEntries r
def uptoBulkEntry {H : Type} : Lit × DataW H → Nat
  | (.string bytes, d) => bytes.length + uptoBulk d + 1
  | (_, d) => uptoBulk d + 1
 end
def uptoSmall : (H : Type) → List (DataW H) → Bool := fun _ ds => decide (uptoBulkAll ds ≤ 1048576)
def OpenSpec.upto (s : _root_.Go.ChangeSpec) : _root_.Go.OpenSpec := { _root_.Go.OpenSpec.ofChange s with cond := some uptoSmall }

/-- 'arbaclaw42.StaffingCounts', WHERE WHAT IT READS IS OF BULK AT MOST 1048576: true; the input reads as it did. -/
def staffingCountsUptoRow : OpenClaim := { program := "ytfnhaoindehjdaadoor", sum := "20fd9dc895a66c9cd6616978b21845d809dd766605c1a9756f0c78f59dc53fe2", func := "arbac/arbaclaw42.StaffingCounts", spec := "staffingCounts", unfollowed := true, recurses := true, named := ["math/bits.deBruijn64tab"], apart := false, laid := [("math/bits.deBruijn64tab", laid_math_bits_deBruijn64tab)], narrowed := true }
def StaffingCountsUptoSaid : Prop := staffingCountsUptoRow.holds Tryd.pinned (OpenSpec.upto staffingCountsSpec)

/-- 'arbaclaw42.StaffingLimits', WHERE WHAT IT READS IS OF BULK AT MOST 1048576: true; the input reads as it did. -/
def staffingLimitsUptoRow : OpenClaim := { program := "ytfnhaoindehjdaadoor", sum := "20fd9dc895a66c9cd6616978b21845d809dd766605c1a9756f0c78f59dc53fe2", func := "arbac/arbaclaw42.StaffingLimits", spec := "staffingLimits", unfollowed := true, recurses := true, named := ["math/bits.deBruijn64tab"], apart := false, laid := [("math/bits.deBruijn64tab", laid_math_bits_deBruijn64tab)], narrowed := true }
def StaffingLimitsUptoSaid : Prop := staffingLimitsUptoRow.holds Tryd.pinned (OpenSpec.upto staffingLimitsSpec)

/-- 'arbaclaw42.StaffingSolves', WHERE WHAT IT READS IS OF BULK AT MOST 1048576: true; the input reads as it did. -/
def staffingSolvesUptoRow : OpenClaim := { program := "ytfnhaoindehjdaadoor", sum := "20fd9dc895a66c9cd6616978b21845d809dd766605c1a9756f0c78f59dc53fe2", func := "arbac/arbaclaw42.StaffingSolves", spec := "staffingSolves", unfollowed := true, recurses := true, named := ["math/bits.deBruijn64tab"], apart := false, laid := [("math/bits.deBruijn64tab", laid_math_bits_deBruijn64tab)], narrowed := true }
def StaffingSolvesUptoSaid : Prop := staffingSolvesUptoRow.holds Tryd.pinned (OpenSpec.upto staffingSolvesSpec)

/-- 'arbaclaw42.StaffingPossible', WHERE WHAT IT READS IS OF BULK AT MOST 1048576: true; the input reads as it did. -/
def staffingPossibleUptoRow : OpenClaim := { program := "ytfnhaoindehjdaadoor", sum := "20fd9dc895a66c9cd6616978b21845d809dd766605c1a9756f0c78f59dc53fe2", func := "arbac/arbaclaw42.StaffingPossible", spec := "staffingPossible", unfollowed := true, recurses := true, named := ["math/bits.deBruijn64tab"], apart := false, laid := [("math/bits.deBruijn64tab", laid_math_bits_deBruijn64tab)], narrowed := true }
def StaffingPossibleUptoSaid : Prop := staffingPossibleUptoRow.holds Tryd.pinned (OpenSpec.upto staffingPossibleSpec)

/-- 'arbaclaw42.StaffingFixes', WHERE WHAT IT READS IS OF BULK AT MOST 1048576: true; the input reads as it did. -/
def staffingFixesUptoRow : OpenClaim := { program := "ytfnhaoindehjdaadoor", sum := "20fd9dc895a66c9cd6616978b21845d809dd766605c1a9756f0c78f59dc53fe2", func := "arbac/arbaclaw42.StaffingFixes", spec := "staffingFixes", unfollowed := true, recurses := true, named := ["math/bits.deBruijn64tab"], apart := false, laid := [("math/bits.deBruijn64tab", laid_math_bits_deBruijn64tab)], narrowed := true }
def StaffingFixesUptoSaid : Prop := staffingFixesUptoRow.holds Tryd.pinned (OpenSpec.upto staffingFixesSpec)

/-- 'arbaclaw42.StaffingRefuses', WHERE WHAT IT READS IS OF BULK AT MOST 1048576: true; the input reads as it did. -/
def staffingRefusesUptoRow : OpenClaim := { program := "ytfnhaoindehjdaadoor", sum := "20fd9dc895a66c9cd6616978b21845d809dd766605c1a9756f0c78f59dc53fe2", func := "arbac/arbaclaw42.StaffingRefuses", spec := "staffingRefuses", unfollowed := true, recurses := true, named := ["math/bits.deBruijn64tab"], apart := false, laid := [("math/bits.deBruijn64tab", laid_math_bits_deBruijn64tab)], narrowed := true }
def StaffingRefusesUptoSaid : Prop := staffingRefusesUptoRow.holds Tryd.pinned (OpenSpec.upto staffingRefusesSpec)

/-- 'arbaclaw42.StaffingShrinks', WHERE WHAT IT READS IS OF BULK AT MOST 1048576: true; the input reads as it did. -/
def staffingShrinksUptoRow : OpenClaim := { program := "ytfnhaoindehjdaadoor", sum := "20fd9dc895a66c9cd6616978b21845d809dd766605c1a9756f0c78f59dc53fe2", func := "arbac/arbaclaw42.StaffingShrinks", spec := "staffingShrinks", unfollowed := true, recurses := true, named := ["math/bits.deBruijn64tab"], apart := false, laid := [("math/bits.deBruijn64tab", laid_math_bits_deBruijn64tab)], narrowed := true }
def StaffingShrinksUptoSaid : Prop := staffingShrinksUptoRow.holds Tryd.pinned (OpenSpec.upto staffingShrinksSpec)

/-- 'arbaclaw42.StaffingProblems', WHERE WHAT IT READS IS OF BULK AT MOST 1048576: true; the input reads as it did. -/
def staffingProblemsUptoRow : OpenClaim := { program := "ytfnhaoindehjdaadoor", sum := "20fd9dc895a66c9cd6616978b21845d809dd766605c1a9756f0c78f59dc53fe2", func := "arbac/arbaclaw42.StaffingProblems", spec := "staffingProblems", unfollowed := true, recurses := true, named := ["math/bits.deBruijn64tab"], apart := false, laid := [("math/bits.deBruijn64tab", laid_math_bits_deBruijn64tab)], narrowed := true }
def StaffingProblemsUptoSaid : Prop := staffingProblemsUptoRow.holds Tryd.pinned (OpenSpec.upto staffingProblemsSpec)

/-- 'arbaclaw42.StaffingMatches', WHERE WHAT IT READS IS OF BULK AT MOST 1048576: true; the input reads as it did. -/
def staffingMatchesUptoRow : OpenClaim := { program := "ytfnhaoindehjdaadoor", sum := "20fd9dc895a66c9cd6616978b21845d809dd766605c1a9756f0c78f59dc53fe2", func := "arbac/arbaclaw42.StaffingMatches", spec := "staffingMatches", unfollowed := true, recurses := true, named := ["math/bits.deBruijn64tab"], apart := false, laid := [("math/bits.deBruijn64tab", laid_math_bits_deBruijn64tab)], narrowed := true }
def StaffingMatchesUptoSaid : Prop := staffingMatchesUptoRow.holds Tryd.pinned (OpenSpec.upto staffingMatchesSpec)

end Rows
end Go.Proofs.YtfnhaoindehjdaaDoor
