/-
  No cell of these rows narrows 'for every input' (looked for: loops, veiled, ifaces, maps, wideKeys, modest, calm, conditions, laid).
  DERIVED. THE GIVEN ROWS OF THIS SEAT. 10 by the template 'for every input the law returns true; each argument reads behind the call as it read before'; 0 by the template 'total and deterministic' (their statements: YtppkimlalceleaaTotals.lean).
  GIVEN WITH THE SEED: the statements are not yours to turn. If you find one false, say at which input.
  Laid BY PROGRAM, IN A SANDBOX (cutbox-rows.mjs): the forced cells as the released guide's own fill.sh prints them over the translation c2c0d1d06da88275… (all of the seat's roots in one cut). By AI agents, Wed Nov 11 2026. No macro, syntax, notation, axiom, sorry.
-/
import Derived.Test.YtppkimlalceleaaChecked
import GoSem.Claim
import GoSem.ClaimJoined
import GoSem.ClaimMapViews
import Derived.JoinedTies
import Derived.KernelRfl
namespace Go.Proofs.Ytppkimlalceleaa
/- THE CELL 'sum', in the pinned program and in every row, IS THE sha256 OF THE DUMP (.gsa) THAT YtppkimlalceleaaProg.lean LOADS. Nothing in Lean hashes anything: it is a label: what it is worth is what the hold of that sum in a sandbox is worth. -/
noncomputable def Try.pinned : Pinned := { name := "ytppkimlalceleaa", sum := "c2c0d1d06da88275810bc302c062fe17fa712abd5bb3753f78ed089f1b356c78", checked := Try.checked }
namespace Rows
def none {H : Type} : Left H := { results := [], args := [] }

/-- 'arbaclaw04.CrcSums': WHATEVER THE INPUT: true; the input reads as it did. -/
def crcSumsSpec : ChangeSpec := { name := "crcSums", fn := fun _ => fun
  | [d1, d2] => { results := [.lit (.bool true)], args := [d1, d2] }
  | _ => none }
def crcSumsRow : OpenClaim := { program := "ytppkimlalceleaa", sum := "c2c0d1d06da88275810bc302c062fe17fa712abd5bb3753f78ed089f1b356c78", func := "arbac/arbaclaw04.CrcSums", spec := "crcSums", apart := false }
def CrcSumsSaid : Prop := crcSumsRow.holds Try.pinned (OpenSpec.ofChange crcSumsSpec)

/-- ITS FALSE NEIGHBOUR: 'it returns false'. Refute it at one input. -/
def crcSumsWrong : ChangeSpec := { name := "crcSums", fn := fun _ => fun
  | [d1, d2] => { results := [.lit (.bool false)], args := [d1, d2] }
  | _ => none }
def CrcSumsWrongFalsely : Prop := crcSumsRow.holds Try.pinned (OpenSpec.ofChange crcSumsWrong)

/-- 'arbaclaw04.CrcParts': WHATEVER THE INPUT: true; the input reads as it did. -/
def crcPartsSpec : ChangeSpec := { name := "crcParts", fn := fun _ => fun
  | [d1, d2] => { results := [.lit (.bool true)], args := [d1, d2] }
  | _ => none }
def crcPartsRow : OpenClaim := { program := "ytppkimlalceleaa", sum := "c2c0d1d06da88275810bc302c062fe17fa712abd5bb3753f78ed089f1b356c78", func := "arbac/arbaclaw04.CrcParts", spec := "crcParts", apart := false }
def CrcPartsSaid : Prop := crcPartsRow.holds Try.pinned (OpenSpec.ofChange crcPartsSpec)

/-- ITS FALSE NEIGHBOUR: 'it returns false'. Refute it at one input. -/
def crcPartsWrong : ChangeSpec := { name := "crcParts", fn := fun _ => fun
  | [d1, d2] => { results := [.lit (.bool false)], args := [d1, d2] }
  | _ => none }
def CrcPartsWrongFalsely : Prop := crcPartsRow.holds Try.pinned (OpenSpec.ofChange crcPartsWrong)

/-- 'arbaclaw04.CrcLinear': WHATEVER THE INPUT: true; the input reads as it did. -/
def crcLinearSpec : ChangeSpec := { name := "crcLinear", fn := fun _ => fun
  | [d1, d2, d3] => { results := [.lit (.bool true)], args := [d1, d2, d3] }
  | _ => none }
def crcLinearRow : OpenClaim := { program := "ytppkimlalceleaa", sum := "c2c0d1d06da88275810bc302c062fe17fa712abd5bb3753f78ed089f1b356c78", func := "arbac/arbaclaw04.CrcLinear", spec := "crcLinear", apart := false }
def CrcLinearSaid : Prop := crcLinearRow.holds Try.pinned (OpenSpec.ofChange crcLinearSpec)

/-- ITS FALSE NEIGHBOUR: 'it returns false'. Refute it at one input. -/
def crcLinearWrong : ChangeSpec := { name := "crcLinear", fn := fun _ => fun
  | [d1, d2, d3] => { results := [.lit (.bool false)], args := [d1, d2, d3] }
  | _ => none }
def CrcLinearWrongFalsely : Prop := crcLinearRow.holds Try.pinned (OpenSpec.ofChange crcLinearWrong)

/-- 'arbaclaw04.CrcFrames': WHATEVER THE INPUT: true; the input reads as it did. -/
def crcFramesSpec : ChangeSpec := { name := "crcFrames", fn := fun _ => fun
  | [d1, d2, d3] => { results := [.lit (.bool true)], args := [d1, d2, d3] }
  | _ => none }
def crcFramesRow : OpenClaim := { program := "ytppkimlalceleaa", sum := "c2c0d1d06da88275810bc302c062fe17fa712abd5bb3753f78ed089f1b356c78", func := "arbac/arbaclaw04.CrcFrames", spec := "crcFrames", apart := false }
def CrcFramesSaid : Prop := crcFramesRow.holds Try.pinned (OpenSpec.ofChange crcFramesSpec)

/-- ITS FALSE NEIGHBOUR: 'it returns false'. Refute it at one input. -/
def crcFramesWrong : ChangeSpec := { name := "crcFrames", fn := fun _ => fun
  | [d1, d2, d3] => { results := [.lit (.bool false)], args := [d1, d2, d3] }
  | _ => none }
def CrcFramesWrongFalsely : Prop := crcFramesRow.holds Try.pinned (OpenSpec.ofChange crcFramesWrong)

/-- 'arbaclaw04.CrcTorn': WHATEVER THE INPUT: true; the input reads as it did. -/
def crcTornSpec : ChangeSpec := { name := "crcTorn", fn := fun _ => fun
  | [d1, d2] => { results := [.lit (.bool true)], args := [d1, d2] }
  | _ => none }
def crcTornRow : OpenClaim := { program := "ytppkimlalceleaa", sum := "c2c0d1d06da88275810bc302c062fe17fa712abd5bb3753f78ed089f1b356c78", func := "arbac/arbaclaw04.CrcTorn", spec := "crcTorn", apart := false }
def CrcTornSaid : Prop := crcTornRow.holds Try.pinned (OpenSpec.ofChange crcTornSpec)

/-- ITS FALSE NEIGHBOUR: 'it returns false'. Refute it at one input. -/
def crcTornWrong : ChangeSpec := { name := "crcTorn", fn := fun _ => fun
  | [d1, d2] => { results := [.lit (.bool false)], args := [d1, d2] }
  | _ => none }
def CrcTornWrongFalsely : Prop := crcTornRow.holds Try.pinned (OpenSpec.ofChange crcTornWrong)

/-- 'arbaclaw04.CrcCombines': WHATEVER THE INPUT: true; the input reads as it did. -/
def crcCombinesSpec : ChangeSpec := { name := "crcCombines", fn := fun _ => fun
  | [d1, d2, d3] => { results := [.lit (.bool true)], args := [d1, d2, d3] }
  | _ => none }
def crcCombinesRow : OpenClaim := { program := "ytppkimlalceleaa", sum := "c2c0d1d06da88275810bc302c062fe17fa712abd5bb3753f78ed089f1b356c78", func := "arbac/arbaclaw04.CrcCombines", spec := "crcCombines", apart := false }
def CrcCombinesSaid : Prop := crcCombinesRow.holds Try.pinned (OpenSpec.ofChange crcCombinesSpec)

/-- ITS FALSE NEIGHBOUR: 'it returns false'. Refute it at one input. -/
def crcCombinesWrong : ChangeSpec := { name := "crcCombines", fn := fun _ => fun
  | [d1, d2, d3] => { results := [.lit (.bool false)], args := [d1, d2, d3] }
  | _ => none }
def CrcCombinesWrongFalsely : Prop := crcCombinesRow.holds Try.pinned (OpenSpec.ofChange crcCombinesWrong)

/-- 'arbaclaw04.CrcJoins': WHATEVER THE INPUT: true; the input reads as it did. -/
def crcJoinsSpec : ChangeSpec := { name := "crcJoins", fn := fun _ => fun
  | [d1, d2] => { results := [.lit (.bool true)], args := [d1, d2] }
  | _ => none }
def crcJoinsRow : OpenClaim := { program := "ytppkimlalceleaa", sum := "c2c0d1d06da88275810bc302c062fe17fa712abd5bb3753f78ed089f1b356c78", func := "arbac/arbaclaw04.CrcJoins", spec := "crcJoins", apart := false }
def CrcJoinsSaid : Prop := crcJoinsRow.holds Try.pinned (OpenSpec.ofChange crcJoinsSpec)

/-- ITS FALSE NEIGHBOUR: 'it returns false'. Refute it at one input. -/
def crcJoinsWrong : ChangeSpec := { name := "crcJoins", fn := fun _ => fun
  | [d1, d2] => { results := [.lit (.bool false)], args := [d1, d2] }
  | _ => none }
def CrcJoinsWrongFalsely : Prop := crcJoinsRow.holds Try.pinned (OpenSpec.ofChange crcJoinsWrong)

/-- 'arbaclaw04.CrcAssociates': WHATEVER THE INPUT: true; the input reads as it did. -/
def crcAssociatesSpec : ChangeSpec := { name := "crcAssociates", fn := fun _ => fun
  | [d1, d2, d3] => { results := [.lit (.bool true)], args := [d1, d2, d3] }
  | _ => none }
def crcAssociatesRow : OpenClaim := { program := "ytppkimlalceleaa", sum := "c2c0d1d06da88275810bc302c062fe17fa712abd5bb3753f78ed089f1b356c78", func := "arbac/arbaclaw04.CrcAssociates", spec := "crcAssociates", apart := false }
def CrcAssociatesSaid : Prop := crcAssociatesRow.holds Try.pinned (OpenSpec.ofChange crcAssociatesSpec)

/-- ITS FALSE NEIGHBOUR: 'it returns false'. Refute it at one input. -/
def crcAssociatesWrong : ChangeSpec := { name := "crcAssociates", fn := fun _ => fun
  | [d1, d2, d3] => { results := [.lit (.bool false)], args := [d1, d2, d3] }
  | _ => none }
def CrcAssociatesWrongFalsely : Prop := crcAssociatesRow.holds Try.pinned (OpenSpec.ofChange crcAssociatesWrong)

/-- 'arbaclaw04.CrcScans': WHATEVER THE INPUT: true; the input reads as it did. -/
def crcScansSpec : ChangeSpec := { name := "crcScans", fn := fun _ => fun
  | [d1, d2, d3] => { results := [.lit (.bool true)], args := [d1, d2, d3] }
  | _ => none }
def crcScansRow : OpenClaim := { program := "ytppkimlalceleaa", sum := "c2c0d1d06da88275810bc302c062fe17fa712abd5bb3753f78ed089f1b356c78", func := "arbac/arbaclaw04.CrcScans", spec := "crcScans", apart := false }
def CrcScansSaid : Prop := crcScansRow.holds Try.pinned (OpenSpec.ofChange crcScansSpec)

/-- ITS FALSE NEIGHBOUR: 'it returns false'. Refute it at one input. -/
def crcScansWrong : ChangeSpec := { name := "crcScans", fn := fun _ => fun
  | [d1, d2, d3] => { results := [.lit (.bool false)], args := [d1, d2, d3] }
  | _ => none }
def CrcScansWrongFalsely : Prop := crcScansRow.holds Try.pinned (OpenSpec.ofChange crcScansWrong)

/-- 'arbaclaw04.CrcSets': WHATEVER THE INPUT: true; the input reads as it did. -/
def crcSetsSpec : ChangeSpec := { name := "crcSets", fn := fun _ => fun
  | [d] => { results := [.lit (.bool true)], args := [d] }
  | _ => none }
def crcSetsRow : OpenClaim := { program := "ytppkimlalceleaa", sum := "c2c0d1d06da88275810bc302c062fe17fa712abd5bb3753f78ed089f1b356c78", func := "arbac/arbaclaw04.CrcSets", spec := "crcSets", apart := false }
def CrcSetsSaid : Prop := crcSetsRow.holds Try.pinned (OpenSpec.ofChange crcSetsSpec)

/-- ITS FALSE NEIGHBOUR: 'it returns false'. Refute it at one input. -/
def crcSetsWrong : ChangeSpec := { name := "crcSets", fn := fun _ => fun
  | [d] => { results := [.lit (.bool false)], args := [d] }
  | _ => none }
def CrcSetsWrongFalsely : Prop := crcSetsRow.holds Try.pinned (OpenSpec.ofChange crcSetsWrong)

/- THE SECOND FORM. 'bulk': how many values and letters a reading holds, each counted each time it is reached (what is shared counts as often as it is met; a slice's spare places count too). A statement '..UptoSaid' is the law's where the arguments, and the package variables that the reading takes, are together of bulk at most 1048576: NARROWER than '..Said'. Prove '..Said' where nothing that the law and all that it calls make is longer than what came in: it says more and counts as full. Else prove '..UptoSaid'. A law counts once. -/
mutual
def uptoBulk {H : Type} : DataW H → Nat
  | .lit (.string bytes) => bytes.length + 1
  | .lit _ => 1
  | .nil => 1
  | .ptr d => uptoBulk d + 1
  | .slice elems spare => uptoBulkAll elems + uptoBulkAll spare + 1
  | .agg parts => uptoBulkAll parts + 1
  | .iface _ d => uptoBulk d + 1
  | .map entries => uptoBulkEntries entries + 1
  | .held _ => 1
def uptoBulkAll {H : Type} : List (DataW H) → Nat
  | [] => 0
  | d :: r => uptoBulk d + uptoBulkAll r
def uptoBulkEntries {H : Type} : List (Lit × DataW H) → Nat
  | [] => 0
  | x :: r => uptoBulkEntry x + uptoBulkEntries r
def uptoBulkEntry {H : Type} : Lit × DataW H → Nat
  | (.string bytes, d) => bytes.length + uptoBulk d + 1
  | (_, d) => uptoBulk d + 1
 end
def uptoSmall : (H : Type) → List (DataW H) → Bool := fun _ ds => decide (uptoBulkAll ds ≤ 1048576)
def OpenSpec.upto (s : _root_.Go.ChangeSpec) : _root_.Go.OpenSpec := { _root_.Go.OpenSpec.ofChange s with cond := some uptoSmall }

/-- 'arbaclaw04.CrcSums', WHERE WHAT IT READS IS OF BULK AT MOST 1048576: true; the input reads as it did. -/
def crcSumsUptoRow : OpenClaim := { program := "ytppkimlalceleaa", sum := "c2c0d1d06da88275810bc302c062fe17fa712abd5bb3753f78ed089f1b356c78", func := "arbac/arbaclaw04.CrcSums", spec := "crcSums", apart := false, narrowed := true }
def CrcSumsUptoSaid : Prop := crcSumsUptoRow.holds Try.pinned (OpenSpec.upto crcSumsSpec)

/-- 'arbaclaw04.CrcParts', WHERE WHAT IT READS IS OF BULK AT MOST 1048576: true; the input reads as it did. -/
def crcPartsUptoRow : OpenClaim := { program := "ytppkimlalceleaa", sum := "c2c0d1d06da88275810bc302c062fe17fa712abd5bb3753f78ed089f1b356c78", func := "arbac/arbaclaw04.CrcParts", spec := "crcParts", apart := false, narrowed := true }
def CrcPartsUptoSaid : Prop := crcPartsUptoRow.holds Try.pinned (OpenSpec.upto crcPartsSpec)

/-- 'arbaclaw04.CrcLinear', WHERE WHAT IT READS IS OF BULK AT MOST 1048576: true; the input reads as it did. -/
def crcLinearUptoRow : OpenClaim := { program := "ytppkimlalceleaa", sum := "c2c0d1d06da88275810bc302c062fe17fa712abd5bb3753f78ed089f1b356c78", func := "arbac/arbaclaw04.CrcLinear", spec := "crcLinear", apart := false, narrowed := true }
def CrcLinearUptoSaid : Prop := crcLinearUptoRow.holds Try.pinned (OpenSpec.upto crcLinearSpec)

/-- 'arbaclaw04.CrcFrames', WHERE WHAT IT READS IS OF BULK AT MOST 1048576: true; the input reads as it did. -/
def crcFramesUptoRow : OpenClaim := { program := "ytppkimlalceleaa", sum := "c2c0d1d06da88275810bc302c062fe17fa712abd5bb3753f78ed089f1b356c78", func := "arbac/arbaclaw04.CrcFrames", spec := "crcFrames", apart := false, narrowed := true }
def CrcFramesUptoSaid : Prop := crcFramesUptoRow.holds Try.pinned (OpenSpec.upto crcFramesSpec)

/-- 'arbaclaw04.CrcTorn', WHERE WHAT IT READS IS OF BULK AT MOST 1048576: true; the input reads as it did. -/
def crcTornUptoRow : OpenClaim := { program := "ytppkimlalceleaa", sum := "c2c0d1d06da88275810bc302c062fe17fa712abd5bb3753f78ed089f1b356c78", func := "arbac/arbaclaw04.CrcTorn", spec := "crcTorn", apart := false, narrowed := true }
def CrcTornUptoSaid : Prop := crcTornUptoRow.holds Try.pinned (OpenSpec.upto crcTornSpec)

/-- 'arbaclaw04.CrcCombines', WHERE WHAT IT READS IS OF BULK AT MOST 1048576: true; the input reads as it did. -/
def crcCombinesUptoRow : OpenClaim := { program := "ytppkimlalceleaa", sum := "c2c0d1d06da88275810bc302c062fe17fa712abd5bb3753f78ed089f1b356c78", func := "arbac/arbaclaw04.CrcCombines", spec := "crcCombines", apart := false, narrowed := true }
def CrcCombinesUptoSaid : Prop := crcCombinesUptoRow.holds Try.pinned (OpenSpec.upto crcCombinesSpec)

/-- 'arbaclaw04.CrcJoins', WHERE WHAT IT READS IS OF BULK AT MOST 1048576: true; the input reads as it did. -/
def crcJoinsUptoRow : OpenClaim := { program := "ytppkimlalceleaa", sum := "c2c0d1d06da88275810bc302c062fe17fa712abd5bb3753f78ed089f1b356c78", func := "arbac/arbaclaw04.CrcJoins", spec := "crcJoins", apart := false, narrowed := true }
def CrcJoinsUptoSaid : Prop := crcJoinsUptoRow.holds Try.pinned (OpenSpec.upto crcJoinsSpec)

/-- 'arbaclaw04.CrcAssociates', WHERE WHAT IT READS IS OF BULK AT MOST 1048576: true; the input reads as it did. -/
def crcAssociatesUptoRow : OpenClaim := { program := "ytppkimlalceleaa", sum := "c2c0d1d06da88275810bc302c062fe17fa712abd5bb3753f78ed089f1b356c78", func := "arbac/arbaclaw04.CrcAssociates", spec := "crcAssociates", apart := false, narrowed := true }
def CrcAssociatesUptoSaid : Prop := crcAssociatesUptoRow.holds Try.pinned (OpenSpec.upto crcAssociatesSpec)

/-- 'arbaclaw04.CrcScans', WHERE WHAT IT READS IS OF BULK AT MOST 1048576: true; the input reads as it did. -/
def crcScansUptoRow : OpenClaim := { program := "ytppkimlalceleaa", sum := "c2c0d1d06da88275810bc302c062fe17fa712abd5bb3753f78ed089f1b356c78", func := "arbac/arbaclaw04.CrcScans", spec := "crcScans", apart := false, narrowed := true }
def CrcScansUptoSaid : Prop := crcScansUptoRow.holds Try.pinned (OpenSpec.upto crcScansSpec)

/-- 'arbaclaw04.CrcSets', WHERE WHAT IT READS IS OF BULK AT MOST 1048576: true; the input reads as it did. -/
def crcSetsUptoRow : OpenClaim := { program := "ytppkimlalceleaa", sum := "c2c0d1d06da88275810bc302c062fe17fa712abd5bb3753f78ed089f1b356c78", func := "arbac/arbaclaw04.CrcSets", spec := "crcSets", apart := false, narrowed := true }
def CrcSetsUptoSaid : Prop := crcSetsUptoRow.holds Try.pinned (OpenSpec.upto crcSetsSpec)

end Rows
end Go.Proofs.Ytppkimlalceleaa
