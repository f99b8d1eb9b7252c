/-
  DERIVED. GIVEN WITH THE SEED: THE CARDS: each row of YtfbdfpnmopgkoaaDoorRows.lean that lists a variable, with what it lists TIED to the program's text (the seventh form; the later family's looks); each row that meets fmt, with fmt's text TOLD by the authors' own Lean function (tested against real Go, not proved from fmt's source: count such statements apart). THE CARD IS WHAT COUNTS. Prove the row's statement (the work); the ties are given (YtfbdfpnmopgkoaaDoorTie.lean); close each card by the builder's one call (the guide's Derived/Test/ToyasCard.lean, 'card_holds'). Laid BY PROGRAM, IN A SANDBOX (cutbox-door.mjs). By AI agents, Wed Nov 11 2026. No macro, syntax, notation, axiom, sorry.
-/
import Derived.Test.YtfbdfpnmopgkoaaDoorRows
import GoSem.ClaimSeven
namespace Go.Proofs.YtfbdfpnmopgkoaaDoor
namespace Rows

/-- THE TIED CARD OF 'arbaclaw02.WireReads'. -/
def wireReadsCard : Claim7 := { stood := { row := wireReadsRow, standIns := [], harness := (true, "9db60df69e6f94388f68133f4d6314e506d35b0afb0519c1783f72226b8516ce"), looks := false }, kinds := [], alts := [], laidByText := true, laidKinds := [.data], laidTests := true, laidLooks := .later }
def WireReadsCardSaid : Prop := Claim7.holds Tryd.pinned (.plain (OpenSpec.ofChange wireReadsSpec)) wireReadsCard

/-- THE TIED CARD OF 'arbaclaw02.WireNil'. -/
def wireNilCard : Claim7 := { stood := { row := wireNilRow, standIns := [], harness := (true, "9db60df69e6f94388f68133f4d6314e506d35b0afb0519c1783f72226b8516ce"), looks := false }, kinds := [], alts := [], laidByText := true, laidKinds := [.data], laidTests := true, laidLooks := .later }
def WireNilCardSaid : Prop := Claim7.holds Tryd.pinned (.plain (OpenSpec.ofChange wireNilSpec)) wireNilCard

/-- THE SECOND FORM's CARD OF 'arbaclaw02.WireReads'. -/
def wireReadsUptoCard : Claim7 := { stood := { row := wireReadsUptoRow, standIns := [], harness := (true, "9db60df69e6f94388f68133f4d6314e506d35b0afb0519c1783f72226b8516ce"), looks := false }, kinds := [], alts := [], laidByText := true, laidKinds := [.data], laidTests := true, laidLooks := .later }
def WireReadsUptoCardSaid : Prop := Claim7.holds Tryd.pinned (.plain (OpenSpec.upto wireReadsSpec)) wireReadsUptoCard

/-- THE SECOND FORM's CARD OF 'arbaclaw02.WireNil'. -/
def wireNilUptoCard : Claim7 := { stood := { row := wireNilUptoRow, standIns := [], harness := (true, "9db60df69e6f94388f68133f4d6314e506d35b0afb0519c1783f72226b8516ce"), looks := false }, kinds := [], alts := [], laidByText := true, laidKinds := [.data], laidTests := true, laidLooks := .later }
def WireNilUptoCardSaid : Prop := Claim7.holds Tryd.pinned (.plain (OpenSpec.upto wireNilSpec)) wireNilUptoCard
end Rows
end Go.Proofs.YtfbdfpnmopgkoaaDoor
