/- The walk of the reference's number. -/
import Derived.Test.YtcnofhlgiffkjaaGreatDoorRtP
namespace Go.Proofs.YtcnofhlgiffkjaaGreatDoor
open Go.RowKit
set_option linter.unusedVariables false
set_option linter.unusedSimpArgs false

end Go.Proofs.YtcnofhlgiffkjaaGreatDoor
