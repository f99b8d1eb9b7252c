/-
  DERIVED. GIVEN WITH THE SEED: THE CARDS: each row of YtcdgmdhfaniciaaDoorRows.lean that lists a variable, with what it lists TIED to the program's text (the seventh form; the later family's looks); each row that meets fmt, with fmt's text TOLD by the authors' own Lean function (tested against real Go, not proved from fmt's source: count such statements apart). THE CARD IS WHAT COUNTS. Prove the row's statement (the work); the ties are given (YtcdgmdhfaniciaaDoorTie.lean); close each card by the builder's one call (the guide's Derived/Test/ToyasCard.lean, 'card_holds'). Laid BY PROGRAM, IN A SANDBOX (cutbox-door.mjs). By AI agents, Wed Nov 11 2026. No macro, syntax, notation, axiom, sorry.
-/
import Derived.Test.YtcdgmdhfaniciaaDoorRows
import GoSem.ClaimSeven
namespace Go.Proofs.YtcdgmdhfaniciaaDoor
namespace Rows

/-- THE TIED CARD OF 'arbaclaw41.RefuteProblems'. -/
def refuteProblemsCard : Claim7 := { stood := { row := refuteProblemsRow, standIns := [], harness := (true, "257623228f2cee997f63145b02bfd5307e1b2a98cd6b23c262ff90a1009e75de"), looks := false }, kinds := [], alts := [], laidByText := true, laidKinds := [.data], laidTests := true, laidLooks := .later }
def RefuteProblemsCardSaid : Prop := Claim7.holds Tryd.pinned (.plain (OpenSpec.ofChange refuteProblemsSpec)) refuteProblemsCard

/-- THE TIED CARD OF 'arbaclaw41.RefuteComplete'. -/
def refuteCompleteCard : Claim7 := { stood := { row := refuteCompleteRow, standIns := [], harness := (true, "257623228f2cee997f63145b02bfd5307e1b2a98cd6b23c262ff90a1009e75de"), looks := false }, kinds := [], alts := [], laidByText := true, laidKinds := [.data], laidTests := true, laidLooks := .later }
def RefuteCompleteCardSaid : Prop := Claim7.holds Tryd.pinned (.plain (OpenSpec.ofChange refuteCompleteSpec)) refuteCompleteCard

/-- THE TIED CARD OF 'arbaclaw41.RefuteSound'. -/
def refuteSoundCard : Claim7 := { stood := { row := refuteSoundRow, standIns := [], harness := (true, "257623228f2cee997f63145b02bfd5307e1b2a98cd6b23c262ff90a1009e75de"), looks := false }, kinds := [], alts := [], laidByText := true, laidKinds := [.data], laidTests := true, laidLooks := .later }
def RefuteSoundCardSaid : Prop := Claim7.holds Tryd.pinned (.plain (OpenSpec.ofChange refuteSoundSpec)) refuteSoundCard

/-- THE TIED CARD OF 'arbaclaw41.RefuteFlaws'. -/
def refuteFlawsCard : Claim7 := { stood := { row := refuteFlawsRow, standIns := [], harness := (true, "257623228f2cee997f63145b02bfd5307e1b2a98cd6b23c262ff90a1009e75de"), looks := false }, kinds := [], alts := [], laidByText := true, laidKinds := [.data], laidTests := true, laidLooks := .later }
def RefuteFlawsCardSaid : Prop := Claim7.holds Tryd.pinned (.plain (OpenSpec.ofChange refuteFlawsSpec)) refuteFlawsCard

/-- THE TIED CARD OF 'arbaclaw41.RefuteHall'. -/
def refuteHallCard : Claim7 := { stood := { row := refuteHallRow, standIns := [], harness := (true, "257623228f2cee997f63145b02bfd5307e1b2a98cd6b23c262ff90a1009e75de"), looks := false }, kinds := [], alts := [], laidByText := true, laidKinds := [.data], laidTests := true, laidLooks := .later }
def RefuteHallCardSaid : Prop := Claim7.holds Tryd.pinned (.plain (OpenSpec.ofChange refuteHallSpec)) refuteHallCard

/-- THE TIED CARD OF 'arbaclaw41.RefuteMore'. -/
def refuteMoreCard : Claim7 := { stood := { row := refuteMoreRow, standIns := [], harness := (true, "257623228f2cee997f63145b02bfd5307e1b2a98cd6b23c262ff90a1009e75de"), looks := false }, kinds := [], alts := [], laidByText := true, laidKinds := [.data], laidTests := true, laidLooks := .later }
def RefuteMoreCardSaid : Prop := Claim7.holds Tryd.pinned (.plain (OpenSpec.ofChange refuteMoreSpec)) refuteMoreCard

/-- THE TIED CARD OF 'arbaclaw41.RefuteValid'. -/
def refuteValidCard : Claim7 := { stood := { row := refuteValidRow, standIns := [], harness := (true, "257623228f2cee997f63145b02bfd5307e1b2a98cd6b23c262ff90a1009e75de"), looks := false }, kinds := [], alts := [], laidByText := true, laidKinds := [.data], laidTests := true, laidLooks := .later }
def RefuteValidCardSaid : Prop := Claim7.holds Tryd.pinned (.plain (OpenSpec.ofChange refuteValidSpec)) refuteValidCard

/-- THE TIED CARD OF 'arbaclaw41.RefuteReads'. -/
def refuteReadsCard : Claim7 := { stood := { row := refuteReadsRow, standIns := [], harness := (true, "257623228f2cee997f63145b02bfd5307e1b2a98cd6b23c262ff90a1009e75de"), looks := false }, kinds := [], alts := [], laidByText := true, laidKinds := [.data], laidTests := true, laidLooks := .later }
def RefuteReadsCardSaid : Prop := Claim7.holds Tryd.pinned (.plain (OpenSpec.ofChange refuteReadsSpec)) refuteReadsCard

/-- THE TIED CARD OF 'arbaclaw41.RefuteBytes'. -/
def refuteBytesCard : Claim7 := { stood := { row := refuteBytesRow, standIns := [], harness := (true, "257623228f2cee997f63145b02bfd5307e1b2a98cd6b23c262ff90a1009e75de"), looks := false }, kinds := [], alts := [], laidByText := true, laidKinds := [.data], laidTests := true, laidLooks := .later }
def RefuteBytesCardSaid : Prop := Claim7.holds Tryd.pinned (.plain (OpenSpec.ofChange refuteBytesSpec)) refuteBytesCard

/-- THE SECOND FORM's CARD OF 'arbaclaw41.RefuteProblems'. -/
def refuteProblemsUptoCard : Claim7 := { stood := { row := refuteProblemsUptoRow, standIns := [], harness := (true, "257623228f2cee997f63145b02bfd5307e1b2a98cd6b23c262ff90a1009e75de"), looks := false }, kinds := [], alts := [], laidByText := true, laidKinds := [.data], laidTests := true, laidLooks := .later }
def RefuteProblemsUptoCardSaid : Prop := Claim7.holds Tryd.pinned (.plain (OpenSpec.upto refuteProblemsSpec)) refuteProblemsUptoCard

/-- THE SECOND FORM's CARD OF 'arbaclaw41.RefuteComplete'. -/
def refuteCompleteUptoCard : Claim7 := { stood := { row := refuteCompleteUptoRow, standIns := [], harness := (true, "257623228f2cee997f63145b02bfd5307e1b2a98cd6b23c262ff90a1009e75de"), looks := false }, kinds := [], alts := [], laidByText := true, laidKinds := [.data], laidTests := true, laidLooks := .later }
def RefuteCompleteUptoCardSaid : Prop := Claim7.holds Tryd.pinned (.plain (OpenSpec.upto refuteCompleteSpec)) refuteCompleteUptoCard

/-- THE SECOND FORM's CARD OF 'arbaclaw41.RefuteSound'. -/
def refuteSoundUptoCard : Claim7 := { stood := { row := refuteSoundUptoRow, standIns := [], harness := (true, "257623228f2cee997f63145b02bfd5307e1b2a98cd6b23c262ff90a1009e75de"), looks := false }, kinds := [], alts := [], laidByText := true, laidKinds := [.data], laidTests := true, laidLooks := .later }
def RefuteSoundUptoCardSaid : Prop := Claim7.holds Tryd.pinned (.plain (OpenSpec.upto refuteSoundSpec)) refuteSoundUptoCard

/-- THE SECOND FORM's CARD OF 'arbaclaw41.RefuteFlaws'. -/
def refuteFlawsUptoCard : Claim7 := { stood := { row := refuteFlawsUptoRow, standIns := [], harness := (true, "257623228f2cee997f63145b02bfd5307e1b2a98cd6b23c262ff90a1009e75de"), looks := false }, kinds := [], alts := [], laidByText := true, laidKinds := [.data], laidTests := true, laidLooks := .later }
def RefuteFlawsUptoCardSaid : Prop := Claim7.holds Tryd.pinned (.plain (OpenSpec.upto refuteFlawsSpec)) refuteFlawsUptoCard

/-- THE SECOND FORM's CARD OF 'arbaclaw41.RefuteHall'. -/
def refuteHallUptoCard : Claim7 := { stood := { row := refuteHallUptoRow, standIns := [], harness := (true, "257623228f2cee997f63145b02bfd5307e1b2a98cd6b23c262ff90a1009e75de"), looks := false }, kinds := [], alts := [], laidByText := true, laidKinds := [.data], laidTests := true, laidLooks := .later }
def RefuteHallUptoCardSaid : Prop := Claim7.holds Tryd.pinned (.plain (OpenSpec.upto refuteHallSpec)) refuteHallUptoCard

/-- THE SECOND FORM's CARD OF 'arbaclaw41.RefuteMore'. -/
def refuteMoreUptoCard : Claim7 := { stood := { row := refuteMoreUptoRow, standIns := [], harness := (true, "257623228f2cee997f63145b02bfd5307e1b2a98cd6b23c262ff90a1009e75de"), looks := false }, kinds := [], alts := [], laidByText := true, laidKinds := [.data], laidTests := true, laidLooks := .later }
def RefuteMoreUptoCardSaid : Prop := Claim7.holds Tryd.pinned (.plain (OpenSpec.upto refuteMoreSpec)) refuteMoreUptoCard

/-- THE SECOND FORM's CARD OF 'arbaclaw41.RefuteValid'. -/
def refuteValidUptoCard : Claim7 := { stood := { row := refuteValidUptoRow, standIns := [], harness := (true, "257623228f2cee997f63145b02bfd5307e1b2a98cd6b23c262ff90a1009e75de"), looks := false }, kinds := [], alts := [], laidByText := true, laidKinds := [.data], laidTests := true, laidLooks := .later }
def RefuteValidUptoCardSaid : Prop := Claim7.holds Tryd.pinned (.plain (OpenSpec.upto refuteValidSpec)) refuteValidUptoCard

/-- THE SECOND FORM's CARD OF 'arbaclaw41.RefuteReads'. -/
def refuteReadsUptoCard : Claim7 := { stood := { row := refuteReadsUptoRow, standIns := [], harness := (true, "257623228f2cee997f63145b02bfd5307e1b2a98cd6b23c262ff90a1009e75de"), looks := false }, kinds := [], alts := [], laidByText := true, laidKinds := [.data], laidTests := true, laidLooks := .later }
def RefuteReadsUptoCardSaid : Prop := Claim7.holds Tryd.pinned (.plain (OpenSpec.upto refuteReadsSpec)) refuteReadsUptoCard

/-- THE SECOND FORM's CARD OF 'arbaclaw41.RefuteBytes'. -/
def refuteBytesUptoCard : Claim7 := { stood := { row := refuteBytesUptoRow, standIns := [], harness := (true, "257623228f2cee997f63145b02bfd5307e1b2a98cd6b23c262ff90a1009e75de"), looks := false }, kinds := [], alts := [], laidByText := true, laidKinds := [.data], laidTests := true, laidLooks := .later }
def RefuteBytesUptoCardSaid : Prop := Claim7.holds Tryd.pinned (.plain (OpenSpec.upto refuteBytesSpec)) refuteBytesUptoCard
end Rows
end Go.Proofs.YtcdgmdhfaniciaaDoor
