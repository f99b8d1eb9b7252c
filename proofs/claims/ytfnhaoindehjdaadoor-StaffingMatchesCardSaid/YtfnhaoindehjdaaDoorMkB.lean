/- Make: a problem as the program has it. -/
import Derived.Test.YtfnhaoindehjdaaDoorPl
import Derived.Test.YtfnhaoindehjdaaDoorPt
import Derived.Deep.RegionWith
import Derived.Deep.RegionHeld3
import Derived.Deep.RegionLaw
namespace Go.Proofs.YtfnhaoindehjdaaDoor
open Go.RowKit
set_option linter.unusedVariables false
set_option linter.unusedSimpArgs false

theorem mkB_close {W1 u4 : World} {B2 B3 B5 g n2' c2' n3' c3' n5' c5' : Nat} {A2' A3' A5' : Option Addr} {P : Pr} (q4 : Below W1.heap.size W1 u4)
    (o2 : u4.ownsRow B2 66 2 (.slice A2' n2' c2') n2' (P.dif.flatMap pv)) (o3 : u4.ownsRow B3 66 2 (.slice A3' n3' c3') n3' (P.sam.flatMap pv)) (o5 : OwnI u4 B5 (.slice A5' n5' c5') n5' P.fix)
    (hB2 : W1.heap.size ≤ B2) (hB3 : W1.heap.size ≤ B3) (hB5 : W1.heap.size ≤ B5) (hg : W1.heap.size ≤ g) (m2 : n2' ≤ 1000) (m3 : n3' ≤ 1000) (m5 : n5' ≤ 1000)
    (hb : Blk u4 g 32 #[.slice none 0 0, .slice none 0 0, .slice none 0 0, .slice none 0 0, .slice none 0 0]) :
    ∃ (g' : Nat) (q : PrV), (Value.pointer (some ⟨g, 0, none⟩) = .pointer (some ⟨g', 0, none⟩)) ∧ W1.heap.size ≤ g' ∧ q.s1 = ⟨none, 0, 0⟩ ∧ q.s4 = ⟨none, 0, 0⟩ ∧
      HoldP (((((u4.setCell ⟨g, 0, none⟩ (.slice none 0 0)).setCell ⟨g, 1, none⟩ (.slice A2' n2' c2')).setCell ⟨g, 2, none⟩ (.slice A3' n3' c3')).setCell ⟨g, 3, none⟩ (.slice none 0 0)).setCell ⟨g, 4, none⟩ (.slice A5' n5' c5')) W1.heap.size g' q ⟨[], P.dif, P.sam, [], P.fix⟩ [] [] ∧
      Below W1.heap.size W1 (((((u4.setCell ⟨g, 0, none⟩ (.slice none 0 0)).setCell ⟨g, 1, none⟩ (.slice A2' n2' c2')).setCell ⟨g, 2, none⟩ (.slice A3' n3' c3')).setCell ⟨g, 3, none⟩ (.slice none 0 0)).setCell ⟨g, 4, none⟩ (.slice A5' n5' c5')) := by
  refine ⟨g, ⟨⟨none, 0, 0⟩, ⟨A2', n2', c2'⟩, ⟨A3', n3', c3'⟩, ⟨none, 0, 0⟩, ⟨A5', n5', c5'⟩⟩, rfl, hg, rfl, rfl, ⟨World.ownsRow_nil _ _ _ _, own5 (own_less o2 hB2) hb (by decide), own5 (own_less o3 hB3) hb (by decide), World.ownsRow_nil _ _ _ _, own5 (own_less o5 hB5) hb (by decide), rfl, fun i M hi => by simp at hi, rfl, fun i x hi => by simp at hi, blk5 hb, by simp, m2, m3, by simp, m5⟩, bset5 q4 hg⟩
end Go.Proofs.YtfnhaoindehjdaaDoor
