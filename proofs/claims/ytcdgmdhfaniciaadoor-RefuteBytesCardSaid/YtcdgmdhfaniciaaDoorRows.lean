/-
  NARROWER THAN 'FOR EVERY INPUT', by the rows' own cells (each row's printed sentence says how): RefuteProblems: laid · RefuteComplete: laid · RefuteSound: laid · RefuteFlaws: laid · RefuteHall: laid · RefuteMore: laid · RefuteValid: laid · RefuteReads: laid · RefuteBytes: laid.
  DERIVED. THE GIVEN ROWS OF THIS SEAT. 9 by the template 'for every input the law returns true; each argument reads behind the call as it read before'; 0 by the template 'total and deterministic' (their statements: YtcdgmdhfaniciaaDoorTotals.lean).
  GIVEN WITH THE SEED: the statements are not yours to turn. If you find one false, say at which input.
  Laid BY PROGRAM, IN A SANDBOX (cutbox-rows.mjs): the forced cells as the released guide's own fill.sh prints them over the translation e7fb9b9d97a78bb1… (all of the seat's roots in one cut). By AI agents, Wed Nov 11 2026. No macro, syntax, notation, axiom, sorry.
-/
import Derived.Test.YtcdgmdhfaniciaaDoorChecked
import GoSem.Claim
import GoSem.ClaimJoined
import GoSem.ClaimMapViews
import Derived.JoinedTies
import Derived.KernelRfl
namespace Go.Proofs.YtcdgmdhfaniciaaDoor
/- THE CELL 'sum', in the pinned program and in every row, IS THE sha256 OF THE DUMP (.gsa) THAT YtcdgmdhfaniciaaDoorProg.lean LOADS. Nothing in Lean hashes anything: it is a label: what it is worth is what the hold of that sum in a sandbox is worth. -/
noncomputable def Tryd.pinned : Pinned := { name := "ytcdgmdhfaniciaadoor", sum := "e7fb9b9d97a78bb1504bd533d66e84af41c2f11ad94b41a9cdf6ef62ef6661b5", checked := Tryd.checked }
namespace Rows
def none {H : Type} : Left H := { results := [], args := [] }

/- WHAT THE LISTED PACKAGE-LEVEL VARIABLES READ AS WHEN THE CALL BEGINS. Each datum BY PROGRAM (the guide's laid-datum.mjs) off the statement by which the dump's own 'gosem.cut.vars' lays the variable. In a bare row this is a premise. The card (YtcdgmdhfaniciaaDoorCards.lean) ties it to the program's text. -/
def laid_math_bits_deBruijn64tab {H : Type} : DataW H := .agg [.lit (.int .u8 0), .lit (.int .u8 1), .lit (.int .u8 56), .lit (.int .u8 2), .lit (.int .u8 57), .lit (.int .u8 49), .lit (.int .u8 28), .lit (.int .u8 3), .lit (.int .u8 61), .lit (.int .u8 58), .lit (.int .u8 42), .lit (.int .u8 50), .lit (.int .u8 38), .lit (.int .u8 29), .lit (.int .u8 17), .lit (.int .u8 4), .lit (.int .u8 62), .lit (.int .u8 47), .lit (.int .u8 59), .lit (.int .u8 36), .lit (.int .u8 45), .lit (.int .u8 43), .lit (.int .u8 51), .lit (.int .u8 22), .lit (.int .u8 53), .lit (.int .u8 39), .lit (.int .u8 33), .lit (.int .u8 30), .lit (.int .u8 24), .lit (.int .u8 18), .lit (.int .u8 12), .lit (.int .u8 5), .lit (.int .u8 63), .lit (.int .u8 55), .lit (.int .u8 48), .lit (.int .u8 27), .lit (.int .u8 60), .lit (.int .u8 41), .lit (.int .u8 37), .lit (.int .u8 16), .lit (.int .u8 46), .lit (.int .u8 35), .lit (.int .u8 44), .lit (.int .u8 21), .lit (.int .u8 52), .lit (.int .u8 32), .lit (.int .u8 23), .lit (.int .u8 11), .lit (.int .u8 54), .lit (.int .u8 26), .lit (.int .u8 40), .lit (.int .u8 15), .lit (.int .u8 34), .lit (.int .u8 20), .lit (.int .u8 31), .lit (.int .u8 10), .lit (.int .u8 25), .lit (.int .u8 14), .lit (.int .u8 19), .lit (.int .u8 9), .lit (.int .u8 13), .lit (.int .u8 8), .lit (.int .u8 7), .lit (.int .u8 6)]

/-- 'arbaclaw41.RefuteProblems': WHATEVER THE INPUT: true; the input reads as it did. -/
def refuteProblemsSpec : ChangeSpec := { name := "refuteProblems", fn := fun _ => fun
  | [d1, d2] => { results := [.lit (.bool true)], args := [d1, d2] }
  | _ => none }
def refuteProblemsRow : OpenClaim := { program := "ytcdgmdhfaniciaadoor", sum := "e7fb9b9d97a78bb1504bd533d66e84af41c2f11ad94b41a9cdf6ef62ef6661b5", func := "arbac/arbaclaw41.RefuteProblems", spec := "refuteProblems", unfollowed := true, recurses := true, named := ["math/bits.deBruijn64tab"], apart := false, laid := [("math/bits.deBruijn64tab", laid_math_bits_deBruijn64tab)] }
def RefuteProblemsSaid : Prop := refuteProblemsRow.holds Tryd.pinned (OpenSpec.ofChange refuteProblemsSpec)

/-- ITS FALSE NEIGHBOUR: 'it returns false'. Refute it at one input. -/
def refuteProblemsWrong : ChangeSpec := { name := "refuteProblems", fn := fun _ => fun
  | [d1, d2] => { results := [.lit (.bool false)], args := [d1, d2] }
  | _ => none }
def RefuteProblemsWrongFalsely : Prop := refuteProblemsRow.holds Tryd.pinned (OpenSpec.ofChange refuteProblemsWrong)

/-- 'arbaclaw41.RefuteComplete': WHATEVER THE INPUT: true; the input reads as it did. -/
def refuteCompleteSpec : ChangeSpec := { name := "refuteComplete", fn := fun _ => fun
  | [d1, d2, d3] => { results := [.lit (.bool true)], args := [d1, d2, d3] }
  | _ => none }
def refuteCompleteRow : OpenClaim := { program := "ytcdgmdhfaniciaadoor", sum := "e7fb9b9d97a78bb1504bd533d66e84af41c2f11ad94b41a9cdf6ef62ef6661b5", func := "arbac/arbaclaw41.RefuteComplete", spec := "refuteComplete", unfollowed := true, recurses := true, named := ["math/bits.deBruijn64tab"], apart := false, laid := [("math/bits.deBruijn64tab", laid_math_bits_deBruijn64tab)] }
def RefuteCompleteSaid : Prop := refuteCompleteRow.holds Tryd.pinned (OpenSpec.ofChange refuteCompleteSpec)

/-- ITS FALSE NEIGHBOUR: 'it returns false'. Refute it at one input. -/
def refuteCompleteWrong : ChangeSpec := { name := "refuteComplete", fn := fun _ => fun
  | [d1, d2, d3] => { results := [.lit (.bool false)], args := [d1, d2, d3] }
  | _ => none }
def RefuteCompleteWrongFalsely : Prop := refuteCompleteRow.holds Tryd.pinned (OpenSpec.ofChange refuteCompleteWrong)

/-- 'arbaclaw41.RefuteSound': WHATEVER THE INPUT: true; the input reads as it did. -/
def refuteSoundSpec : ChangeSpec := { name := "refuteSound", fn := fun _ => fun
  | [d1, d2] => { results := [.lit (.bool true)], args := [d1, d2] }
  | _ => none }
def refuteSoundRow : OpenClaim := { program := "ytcdgmdhfaniciaadoor", sum := "e7fb9b9d97a78bb1504bd533d66e84af41c2f11ad94b41a9cdf6ef62ef6661b5", func := "arbac/arbaclaw41.RefuteSound", spec := "refuteSound", unfollowed := true, recurses := true, named := ["math/bits.deBruijn64tab"], apart := false, laid := [("math/bits.deBruijn64tab", laid_math_bits_deBruijn64tab)] }
def RefuteSoundSaid : Prop := refuteSoundRow.holds Tryd.pinned (OpenSpec.ofChange refuteSoundSpec)

/-- ITS FALSE NEIGHBOUR: 'it returns false'. Refute it at one input. -/
def refuteSoundWrong : ChangeSpec := { name := "refuteSound", fn := fun _ => fun
  | [d1, d2] => { results := [.lit (.bool false)], args := [d1, d2] }
  | _ => none }
def RefuteSoundWrongFalsely : Prop := refuteSoundRow.holds Tryd.pinned (OpenSpec.ofChange refuteSoundWrong)

/-- 'arbaclaw41.RefuteFlaws': WHATEVER THE INPUT: true; the input reads as it did. -/
def refuteFlawsSpec : ChangeSpec := { name := "refuteFlaws", fn := fun _ => fun
  | [d1, d2, d3] => { results := [.lit (.bool true)], args := [d1, d2, d3] }
  | _ => none }
def refuteFlawsRow : OpenClaim := { program := "ytcdgmdhfaniciaadoor", sum := "e7fb9b9d97a78bb1504bd533d66e84af41c2f11ad94b41a9cdf6ef62ef6661b5", func := "arbac/arbaclaw41.RefuteFlaws", spec := "refuteFlaws", unfollowed := true, recurses := true, named := ["math/bits.deBruijn64tab"], apart := false, laid := [("math/bits.deBruijn64tab", laid_math_bits_deBruijn64tab)] }
def RefuteFlawsSaid : Prop := refuteFlawsRow.holds Tryd.pinned (OpenSpec.ofChange refuteFlawsSpec)

/-- ITS FALSE NEIGHBOUR: 'it returns false'. Refute it at one input. -/
def refuteFlawsWrong : ChangeSpec := { name := "refuteFlaws", fn := fun _ => fun
  | [d1, d2, d3] => { results := [.lit (.bool false)], args := [d1, d2, d3] }
  | _ => none }
def RefuteFlawsWrongFalsely : Prop := refuteFlawsRow.holds Tryd.pinned (OpenSpec.ofChange refuteFlawsWrong)

/-- 'arbaclaw41.RefuteHall': WHATEVER THE INPUT: true; the input reads as it did. -/
def refuteHallSpec : ChangeSpec := { name := "refuteHall", fn := fun _ => fun
  | [d1, d2] => { results := [.lit (.bool true)], args := [d1, d2] }
  | _ => none }
def refuteHallRow : OpenClaim := { program := "ytcdgmdhfaniciaadoor", sum := "e7fb9b9d97a78bb1504bd533d66e84af41c2f11ad94b41a9cdf6ef62ef6661b5", func := "arbac/arbaclaw41.RefuteHall", spec := "refuteHall", unfollowed := true, recurses := true, named := ["math/bits.deBruijn64tab"], apart := false, laid := [("math/bits.deBruijn64tab", laid_math_bits_deBruijn64tab)] }
def RefuteHallSaid : Prop := refuteHallRow.holds Tryd.pinned (OpenSpec.ofChange refuteHallSpec)

/-- ITS FALSE NEIGHBOUR: 'it returns false'. Refute it at one input. -/
def refuteHallWrong : ChangeSpec := { name := "refuteHall", fn := fun _ => fun
  | [d1, d2] => { results := [.lit (.bool false)], args := [d1, d2] }
  | _ => none }
def RefuteHallWrongFalsely : Prop := refuteHallRow.holds Tryd.pinned (OpenSpec.ofChange refuteHallWrong)

/-- 'arbaclaw41.RefuteMore': WHATEVER THE INPUT: true; the input reads as it did. -/
def refuteMoreSpec : ChangeSpec := { name := "refuteMore", fn := fun _ => fun
  | [d1, d2, d3] => { results := [.lit (.bool true)], args := [d1, d2, d3] }
  | _ => none }
def refuteMoreRow : OpenClaim := { program := "ytcdgmdhfaniciaadoor", sum := "e7fb9b9d97a78bb1504bd533d66e84af41c2f11ad94b41a9cdf6ef62ef6661b5", func := "arbac/arbaclaw41.RefuteMore", spec := "refuteMore", unfollowed := true, recurses := true, named := ["math/bits.deBruijn64tab"], apart := false, laid := [("math/bits.deBruijn64tab", laid_math_bits_deBruijn64tab)] }
def RefuteMoreSaid : Prop := refuteMoreRow.holds Tryd.pinned (OpenSpec.ofChange refuteMoreSpec)

/-- ITS FALSE NEIGHBOUR: 'it returns false'. Refute it at one input. -/
def refuteMoreWrong : ChangeSpec := { name := "refuteMore", fn := fun _ => fun
  | [d1, d2, d3] => { results := [.lit (.bool false)], args := [d1, d2, d3] }
  | _ => none }
def RefuteMoreWrongFalsely : Prop := refuteMoreRow.holds Tryd.pinned (OpenSpec.ofChange refuteMoreWrong)

/-- 'arbaclaw41.RefuteValid': WHATEVER THE INPUT: true; the input reads as it did. -/
def refuteValidSpec : ChangeSpec := { name := "refuteValid", fn := fun _ => fun
  | [d1, d2, d3] => { results := [.lit (.bool true)], args := [d1, d2, d3] }
  | _ => none }
def refuteValidRow : OpenClaim := { program := "ytcdgmdhfaniciaadoor", sum := "e7fb9b9d97a78bb1504bd533d66e84af41c2f11ad94b41a9cdf6ef62ef6661b5", func := "arbac/arbaclaw41.RefuteValid", spec := "refuteValid", unfollowed := true, recurses := true, named := ["math/bits.deBruijn64tab"], apart := false, laid := [("math/bits.deBruijn64tab", laid_math_bits_deBruijn64tab)] }
def RefuteValidSaid : Prop := refuteValidRow.holds Tryd.pinned (OpenSpec.ofChange refuteValidSpec)

/-- ITS FALSE NEIGHBOUR: 'it returns false'. Refute it at one input. -/
def refuteValidWrong : ChangeSpec := { name := "refuteValid", fn := fun _ => fun
  | [d1, d2, d3] => { results := [.lit (.bool false)], args := [d1, d2, d3] }
  | _ => none }
def RefuteValidWrongFalsely : Prop := refuteValidRow.holds Tryd.pinned (OpenSpec.ofChange refuteValidWrong)

/-- 'arbaclaw41.RefuteReads': WHATEVER THE INPUT: true; the input reads as it did. -/
def refuteReadsSpec : ChangeSpec := { name := "refuteReads", fn := fun _ => fun
  | [d1, d2, d3] => { results := [.lit (.bool true)], args := [d1, d2, d3] }
  | _ => none }
def refuteReadsRow : OpenClaim := { program := "ytcdgmdhfaniciaadoor", sum := "e7fb9b9d97a78bb1504bd533d66e84af41c2f11ad94b41a9cdf6ef62ef6661b5", func := "arbac/arbaclaw41.RefuteReads", spec := "refuteReads", unfollowed := true, recurses := true, named := ["math/bits.deBruijn64tab"], apart := false, laid := [("math/bits.deBruijn64tab", laid_math_bits_deBruijn64tab)] }
def RefuteReadsSaid : Prop := refuteReadsRow.holds Tryd.pinned (OpenSpec.ofChange refuteReadsSpec)

/-- ITS FALSE NEIGHBOUR: 'it returns false'. Refute it at one input. -/
def refuteReadsWrong : ChangeSpec := { name := "refuteReads", fn := fun _ => fun
  | [d1, d2, d3] => { results := [.lit (.bool false)], args := [d1, d2, d3] }
  | _ => none }
def RefuteReadsWrongFalsely : Prop := refuteReadsRow.holds Tryd.pinned (OpenSpec.ofChange refuteReadsWrong)

/-- 'arbaclaw41.RefuteBytes': WHATEVER THE INPUT: true; the input reads as it did. -/
def refuteBytesSpec : ChangeSpec := { name := "refuteBytes", fn := fun _ => fun
  | [d1, d2] => { results := [.lit (.bool true)], args := [d1, d2] }
  | _ => none }
def refuteBytesRow : OpenClaim := { program := "ytcdgmdhfaniciaadoor", sum := "e7fb9b9d97a78bb1504bd533d66e84af41c2f11ad94b41a9cdf6ef62ef6661b5", func := "arbac/arbaclaw41.RefuteBytes", spec := "refuteBytes", unfollowed := true, recurses := true, named := ["math/bits.deBruijn64tab"], apart := false, laid := [("math/bits.deBruijn64tab", laid_math_bits_deBruijn64tab)] }
def RefuteBytesSaid : Prop := refuteBytesRow.holds Tryd.pinned (OpenSpec.ofChange refuteBytesSpec)

/-- ITS FALSE NEIGHBOUR: 'it returns false'. Refute it at one input. -/
def refuteBytesWrong : ChangeSpec := { name := "refuteBytes", fn := fun _ => fun
  | [d1, d2] => { results := [.lit (.bool false)], args := [d1, d2] }
  | _ => none }
def RefuteBytesWrongFalsely : Prop := refuteBytesRow.holds Tryd.pinned (OpenSpec.ofChange refuteBytesWrong)

/- THE SECOND FORM. 'bulk': how many values and letters a reading holds, each counted each time it is reached (what is shared counts as often as it is met; a slice's spare places count too). A statement '..UptoSaid' is the law's where the arguments, and the package variables that the reading takes, are together of bulk at most 1048576: NARROWER than '..Said'. Prove '..Said' where nothing that the law and all that it calls make is longer than what came in: it says more and counts as full. Else prove '..UptoSaid'. A law counts once. -/
mutual
def uptoBulk {H : Type} : DataW H → Nat
  | .lit (.string bytes) => bytes.length + 1
  | .lit _ => 1
  | .nil => 1
  | .ptr d => uptoBulk d + 1
  | .slice elems spare => uptoBulkAll elems + uptoBulkAll spare + 1
  | .agg parts => uptoBulkAll parts + 1
  | .iface _ d => uptoBulk d + 1
  | .map entries => uptoBulkEntries entries + 1
  | .held _ => 1
def uptoBulkAll {H : Type} : List (DataW H) → Nat
  | [] => 0
  | d :: r => uptoBulk d + uptoBulkAll r
def uptoBulkEntries {H : Type} : List (Lit × DataW H) → Nat
  | [] => 0
  | x :: r => uptoBulkEntry x + uptoBulkEntries r
def uptoBulkEntry {H : Type} : Lit × DataW H → Nat
  | (.string bytes, d) => bytes.length + uptoBulk d + 1
  | (_, d) => uptoBulk d + 1
 end
def uptoSmall : (H : Type) → List (DataW H) → Bool := fun _ ds => decide (uptoBulkAll ds ≤ 1048576)
def OpenSpec.upto (s : _root_.Go.ChangeSpec) : _root_.Go.OpenSpec := { _root_.Go.OpenSpec.ofChange s with cond := some uptoSmall }

/-- 'arbaclaw41.RefuteProblems', WHERE WHAT IT READS IS OF BULK AT MOST 1048576: true; the input reads as it did. -/
def refuteProblemsUptoRow : OpenClaim := { program := "ytcdgmdhfaniciaadoor", sum := "e7fb9b9d97a78bb1504bd533d66e84af41c2f11ad94b41a9cdf6ef62ef6661b5", func := "arbac/arbaclaw41.RefuteProblems", spec := "refuteProblems", unfollowed := true, recurses := true, named := ["math/bits.deBruijn64tab"], apart := false, laid := [("math/bits.deBruijn64tab", laid_math_bits_deBruijn64tab)], narrowed := true }
def RefuteProblemsUptoSaid : Prop := refuteProblemsUptoRow.holds Tryd.pinned (OpenSpec.upto refuteProblemsSpec)

/-- 'arbaclaw41.RefuteComplete', WHERE WHAT IT READS IS OF BULK AT MOST 1048576: true; the input reads as it did. -/
def refuteCompleteUptoRow : OpenClaim := { program := "ytcdgmdhfaniciaadoor", sum := "e7fb9b9d97a78bb1504bd533d66e84af41c2f11ad94b41a9cdf6ef62ef6661b5", func := "arbac/arbaclaw41.RefuteComplete", spec := "refuteComplete", unfollowed := true, recurses := true, named := ["math/bits.deBruijn64tab"], apart := false, laid := [("math/bits.deBruijn64tab", laid_math_bits_deBruijn64tab)], narrowed := true }
def RefuteCompleteUptoSaid : Prop := refuteCompleteUptoRow.holds Tryd.pinned (OpenSpec.upto refuteCompleteSpec)

/-- 'arbaclaw41.RefuteSound', WHERE WHAT IT READS IS OF BULK AT MOST 1048576: true; the input reads as it did. -/
def refuteSoundUptoRow : OpenClaim := { program := "ytcdgmdhfaniciaadoor", sum := "e7fb9b9d97a78bb1504bd533d66e84af41c2f11ad94b41a9cdf6ef62ef6661b5", func := "arbac/arbaclaw41.RefuteSound", spec := "refuteSound", unfollowed := true, recurses := true, named := ["math/bits.deBruijn64tab"], apart := false, laid := [("math/bits.deBruijn64tab", laid_math_bits_deBruijn64tab)], narrowed := true }
def RefuteSoundUptoSaid : Prop := refuteSoundUptoRow.holds Tryd.pinned (OpenSpec.upto refuteSoundSpec)

/-- 'arbaclaw41.RefuteFlaws', WHERE WHAT IT READS IS OF BULK AT MOST 1048576: true; the input reads as it did. -/
def refuteFlawsUptoRow : OpenClaim := { program := "ytcdgmdhfaniciaadoor", sum := "e7fb9b9d97a78bb1504bd533d66e84af41c2f11ad94b41a9cdf6ef62ef6661b5", func := "arbac/arbaclaw41.RefuteFlaws", spec := "refuteFlaws", unfollowed := true, recurses := true, named := ["math/bits.deBruijn64tab"], apart := false, laid := [("math/bits.deBruijn64tab", laid_math_bits_deBruijn64tab)], narrowed := true }
def RefuteFlawsUptoSaid : Prop := refuteFlawsUptoRow.holds Tryd.pinned (OpenSpec.upto refuteFlawsSpec)

/-- 'arbaclaw41.RefuteHall', WHERE WHAT IT READS IS OF BULK AT MOST 1048576: true; the input reads as it did. -/
def refuteHallUptoRow : OpenClaim := { program := "ytcdgmdhfaniciaadoor", sum := "e7fb9b9d97a78bb1504bd533d66e84af41c2f11ad94b41a9cdf6ef62ef6661b5", func := "arbac/arbaclaw41.RefuteHall", spec := "refuteHall", unfollowed := true, recurses := true, named := ["math/bits.deBruijn64tab"], apart := false, laid := [("math/bits.deBruijn64tab", laid_math_bits_deBruijn64tab)], narrowed := true }
def RefuteHallUptoSaid : Prop := refuteHallUptoRow.holds Tryd.pinned (OpenSpec.upto refuteHallSpec)

/-- 'arbaclaw41.RefuteMore', WHERE WHAT IT READS IS OF BULK AT MOST 1048576: true; the input reads as it did. -/
def refuteMoreUptoRow : OpenClaim := { program := "ytcdgmdhfaniciaadoor", sum := "e7fb9b9d97a78bb1504bd533d66e84af41c2f11ad94b41a9cdf6ef62ef6661b5", func := "arbac/arbaclaw41.RefuteMore", spec := "refuteMore", unfollowed := true, recurses := true, named := ["math/bits.deBruijn64tab"], apart := false, laid := [("math/bits.deBruijn64tab", laid_math_bits_deBruijn64tab)], narrowed := true }
def RefuteMoreUptoSaid : Prop := refuteMoreUptoRow.holds Tryd.pinned (OpenSpec.upto refuteMoreSpec)

/-- 'arbaclaw41.RefuteValid', WHERE WHAT IT READS IS OF BULK AT MOST 1048576: true; the input reads as it did. -/
def refuteValidUptoRow : OpenClaim := { program := "ytcdgmdhfaniciaadoor", sum := "e7fb9b9d97a78bb1504bd533d66e84af41c2f11ad94b41a9cdf6ef62ef6661b5", func := "arbac/arbaclaw41.RefuteValid", spec := "refuteValid", unfollowed := true, recurses := true, named := ["math/bits.deBruijn64tab"], apart := false, laid := [("math/bits.deBruijn64tab", laid_math_bits_deBruijn64tab)], narrowed := true }
def RefuteValidUptoSaid : Prop := refuteValidUptoRow.holds Tryd.pinned (OpenSpec.upto refuteValidSpec)

/-- 'arbaclaw41.RefuteReads', WHERE WHAT IT READS IS OF BULK AT MOST 1048576: true; the input reads as it did. -/
def refuteReadsUptoRow : OpenClaim := { program := "ytcdgmdhfaniciaadoor", sum := "e7fb9b9d97a78bb1504bd533d66e84af41c2f11ad94b41a9cdf6ef62ef6661b5", func := "arbac/arbaclaw41.RefuteReads", spec := "refuteReads", unfollowed := true, recurses := true, named := ["math/bits.deBruijn64tab"], apart := false, laid := [("math/bits.deBruijn64tab", laid_math_bits_deBruijn64tab)], narrowed := true }
def RefuteReadsUptoSaid : Prop := refuteReadsUptoRow.holds Tryd.pinned (OpenSpec.upto refuteReadsSpec)

/-- 'arbaclaw41.RefuteBytes', WHERE WHAT IT READS IS OF BULK AT MOST 1048576: true; the input reads as it did. -/
def refuteBytesUptoRow : OpenClaim := { program := "ytcdgmdhfaniciaadoor", sum := "e7fb9b9d97a78bb1504bd533d66e84af41c2f11ad94b41a9cdf6ef62ef6661b5", func := "arbac/arbaclaw41.RefuteBytes", spec := "refuteBytes", unfollowed := true, recurses := true, named := ["math/bits.deBruijn64tab"], apart := false, laid := [("math/bits.deBruijn64tab", laid_math_bits_deBruijn64tab)], narrowed := true }
def RefuteBytesUptoSaid : Prop := refuteBytesUptoRow.holds Tryd.pinned (OpenSpec.upto refuteBytesSpec)

end Rows
end Go.Proofs.YtcdgmdhfaniciaaDoor
