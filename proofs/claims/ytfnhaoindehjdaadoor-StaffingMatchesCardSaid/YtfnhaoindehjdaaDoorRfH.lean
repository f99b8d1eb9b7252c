/- A problem in memory: appended pairs. -/
import Derived.Test.YtfnhaoindehjdaaDoorPrM
import Derived.Test.YtfnhaoindehjdaaDoorPl
namespace Go.Proofs.YtfnhaoindehjdaaDoor
open Go.RowKit
set_option linter.unusedVariables false
set_option linter.unusedSimpArgs false

theorem HoldP.add2 {w w' : World} {B g n' c' : Nat} {q : PrV} {P : Pr} {xs : List Value} {ms : List (Int × Value)} {A' : Option Addr} {x y : Int} (h : HoldP w B g q P xs ms) (hq : ApQ q) (ho : w'.ownsRow B 66 2 (.slice A' n' c') n' (P.dif.flatMap pv ++ [.int .i64 x, .int .i64 y])) (hg : w.grownBy w' q.s2.v.ownBlock) (hn : n' ≤ 1000) :
    HoldP (w'.setCell ⟨g, 1, none⟩ (.slice A' n' c')) B g ⟨q.s1, ⟨A', n', c'⟩, q.s3, q.s4, q.s5⟩ ⟨P.elig, P.dif ++ [(x, y)], P.sam, P.mst, P.fix⟩ xs ms := by
  have hb := h.blk.grown hg (own_off h.o2 h.blk (by decide))
  have hrow : ∀ g', q.s2.v.ownBlock = some g' → ∃ c e f, w.heap[g']? = some (.cells c e f) ∧ e ≠ 112 := fun g' hv => by
    obtain ⟨c, f, k⟩ := Lib.ownsRow_kind h.o2 g' hv
    exact ⟨c, _, f, k, by decide⟩
  have keepS : ∀ v M, SetAt w w.heap.size v M → SetAt (w'.setCell ⟨g, 1, none⟩ (.slice A' n' c')) (w'.setCell ⟨g, 1, none⟩ (.slice A' n' c')).heap.size v M := fun v M hv => by
    rw [setCell_size]
    exact ((hv.grownR hg (Nat.le_refl _) hrow).far hb (by decide)).more hg.size
  have hap : q.s3.v.ownBlock = none ∨ q.s3.v.ownBlock ≠ q.s2.v.ownBlock := by
    rcases hq.ap with h1 | h1
    · cases h3 : q.s3.v.ownBlock with
      | none => exact .inl rfl
      | some k => right; rw [h1]; simp
    · exact .inr (Ne.symm h1)
  refine ⟨keepRow h.o1 hg (own_apart h.o1 h.o2 (by decide)) hb (by decide), ?_, keepRow h.o3 hg hap hb (by decide), keepRow h.o4 hg (own_apart h.o4 h.o2 (by decide)) hb (by decide), keepRow h.o5 hg (own_apart h.o5 h.o2 (by decide)) hb (by decide), h.x1, fun i M' hi => ?_, h.x4, fun i x hi => ?_, hb.put 1 _, h.b1, hn, h.b3, h.b4, h.b5⟩
  · have := ownsRow_setCell_other ho (a := ⟨g, 1, none⟩) (own_off ho hb (by decide)) (.slice A' n' c')
    simp only [flat_snoc]
    exact this
  · obtain ⟨X', a, b⟩ := h.s1 i M' hi
    exact ⟨X', a, keepS _ _ b⟩
  · obtain ⟨m, a, b, c⟩ := h.s4 i x hi
    exact ⟨m, a, b, keepS _ _ c⟩
theorem HoldP.add3 {w w' : World} {B g n' c' : Nat} {q : PrV} {P : Pr} {xs : List Value} {ms : List (Int × Value)} {A' : Option Addr} {x y : Int} (h : HoldP w B g q P xs ms) (hq : ApQ q) (ho : w'.ownsRow B 66 2 (.slice A' n' c') n' (P.sam.flatMap pv ++ [.int .i64 x, .int .i64 y])) (hg : w.grownBy w' q.s3.v.ownBlock) (hn : n' ≤ 1000) :
    HoldP (w'.setCell ⟨g, 2, none⟩ (.slice A' n' c')) B g ⟨q.s1, q.s2, ⟨A', n', c'⟩, q.s4, q.s5⟩ ⟨P.elig, P.dif, P.sam ++ [(x, y)], P.mst, P.fix⟩ xs ms := by
  have hb := h.blk.grown hg (own_off h.o3 h.blk (by decide))
  have hrow : ∀ g', q.s3.v.ownBlock = some g' → ∃ c e f, w.heap[g']? = some (.cells c e f) ∧ e ≠ 112 := fun g' hv => by
    obtain ⟨c, f, k⟩ := Lib.ownsRow_kind h.o3 g' hv
    exact ⟨c, _, f, k, by decide⟩
  have keepS : ∀ v M, SetAt w w.heap.size v M → SetAt (w'.setCell ⟨g, 2, none⟩ (.slice A' n' c')) (w'.setCell ⟨g, 2, none⟩ (.slice A' n' c')).heap.size v M := fun v M hv => by
    rw [setCell_size]
    exact ((hv.grownR hg (Nat.le_refl _) hrow).far hb (by decide)).more hg.size
  refine ⟨keepRow h.o1 hg (own_apart h.o1 h.o3 (by decide)) hb (by decide), keepRow h.o2 hg hq.ap hb (by decide), ?_, keepRow h.o4 hg (own_apart h.o4 h.o3 (by decide)) hb (by decide), keepRow h.o5 hg (own_apart h.o5 h.o3 (by decide)) hb (by decide), h.x1, fun i M' hi => ?_, h.x4, fun i x hi => ?_, hb.put 2 _, h.b1, h.b2, hn, h.b4, h.b5⟩
  · have := ownsRow_setCell_other ho (a := ⟨g, 2, none⟩) (own_off ho hb (by decide)) (.slice A' n' c')
    simp only [flat_snoc]
    exact this
  · obtain ⟨X', a, b⟩ := h.s1 i M' hi
    exact ⟨X', a, keepS _ _ b⟩
  · obtain ⟨m, a, b, c⟩ := h.s4 i x hi
    exact ⟨m, a, b, keepS _ _ c⟩
end Go.Proofs.YtfnhaoindehjdaaDoor
