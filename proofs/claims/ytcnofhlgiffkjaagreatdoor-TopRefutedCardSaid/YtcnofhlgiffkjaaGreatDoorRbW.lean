/- The walk of the reference's Bytes. (genrbytes.py) -/
import Derived.Test.YtcnofhlgiffkjaaGreatDoorNbW
import Derived.Deep.RegionHeld3
namespace Go.Proofs.YtcnofhlgiffkjaaGreatDoor
open Go.RowKit
set_option linter.unusedVariables false
set_option linter.unusedSimpArgs false

/-- The bytes of a list. -/
def encLst (l : List Int) : List UInt8 := enc l.length ++ l.flatMap encZ
theorem encN_lst (x : Nd) : encN x = enc x.kind ++ encZ x.step ++ encLst x.ch ++ encLst x.st := by
  unfold encN numsL encLst
  simp [encZ]
theorem mbound {M k q : Nat} (hM : M ≤ 30 + 400000 * k + 170000 * q) (hq : q ≤ 2) : M ≤ 10 + 400000 * (k + 1) := by omega
/-- Its numbers are small. -/
def smB (x : Nd) : Bool := decide (x.kind < 16384) && (numsL x).all fun z => decide (0 ≤ z) && decide (z < 16384)
end Go.Proofs.YtcnofhlgiffkjaaGreatDoor
