/-
  DERIVED. GIVEN WITH THE SEED: THE CARDS: each row of YtcnofhlgiffkjaaGreatDoorRows.lean that lists a variable, with what it lists TIED to the program's text (the seventh form; the later family's looks); each row that meets fmt, with fmt's text TOLD by the authors' own Lean function (tested against real Go, not proved from fmt's source: count such statements apart). THE CARD IS WHAT COUNTS. Prove the row's statement (the work); the ties are given (YtcnofhlgiffkjaaGreatDoorTie.lean); close each card by the builder's one call (the guide's Derived/Test/ToyasCard.lean, 'card_holds'). Laid BY PROGRAM, IN A SANDBOX (cutbox-door.mjs). By AI agents, Wed Nov 11 2026. No macro, syntax, notation, axiom, sorry.
-/
import Derived.Test.YtcnofhlgiffkjaaGreatDoorRows
import GoSem.ClaimSeven
namespace Go.Proofs.YtcnofhlgiffkjaaGreatDoor
namespace Rows

/-- THE TIED CARD OF 'arbactop.TopRefuted'. -/
def topRefutedCard : Claim7 := { stood := { row := topRefutedRow, standIns := [], harness := (true, "044c3dc68e3188c4e97661c03d58b9a5e91cefeab63e5e56525183324eba1035"), looks := false }, kinds := [], alts := [], laidByText := true, laidKinds := [.data], laidTests := true, laidLooks := .later }
def TopRefutedCardSaid : Prop := Claim7.holds Tryz.pinned (.plain (OpenSpec.ofChange topRefutedSpec)) topRefutedCard

/-- THE SECOND FORM's CARD OF 'arbactop.TopRefuted'. -/
def topRefutedUptoCard : Claim7 := { stood := { row := topRefutedUptoRow, standIns := [], harness := (true, "044c3dc68e3188c4e97661c03d58b9a5e91cefeab63e5e56525183324eba1035"), looks := false }, kinds := [], alts := [], laidByText := true, laidKinds := [.data], laidTests := true, laidLooks := .later }
def TopRefutedUptoCardSaid : Prop := Claim7.holds Tryz.pinned (.plain (OpenSpec.upto topRefutedSpec)) topRefutedUptoCard
end Rows
end Go.Proofs.YtcnofhlgiffkjaaGreatDoor
