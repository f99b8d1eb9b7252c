/- Helpers of StaffingMatches. (gensm.py) -/
import Derived.Test.YtfnhaoindehjdaaDoorMade
import Derived.Test.YtfnhaoindehjdaaDoorSd
import Derived.Test.YtfnhaoindehjdaaDoorSc
import Derived.Test.YtfnhaoindehjdaaDoorRfA
import Derived.Test.YtfnhaoindehjdaaDoorPl
import Derived.Test.YtfnhaoindehjdaaDoorPrM
import Derived.Test.YtfnhaoindehjdaaDoorRfH
import Derived.Test.YtfnhaoindehjdaaDoorMtF
namespace Go.Proofs.YtfnhaoindehjdaaDoor
open Go.RowKit
set_option linter.unusedVariables false
set_option linter.unusedSimpArgs false

theorem HoldP.nil3 {w : World} {B g : Nat} {q : PrV} {P : Pr} {xs : List Value} {ms : List (Int × Value)} (h : HoldP w B g q P xs ms) :
    HoldP (((w.setCell ⟨g, 2, none⟩ (.slice none 0 0)).setCell ⟨g, 3, none⟩ (.slice none 0 0)).setCell ⟨g, 1, none⟩ (.slice none 0 0)) B g ⟨q.s1, ⟨none, 0, 0⟩, ⟨none, 0, 0⟩, ⟨none, 0, 0⟩, q.s5⟩ ⟨P.elig, [], [], [], P.fix⟩ xs [] := by
  have k2 := h.blk.put 2 (.slice none 0 0)
  have k3 := k2.put 3 (.slice none 0 0)
  have k1 := k3.put 1 (.slice none 0 0)
  have o := ((h.ownQ.put h.blk (by decide) (i := 2) (u := .slice none 0 0)).put k2 (by decide) (i := 3) (u := .slice none 0 0)).put k3 (by decide) (i := 1) (u := .slice none 0 0)
  exact ⟨o.o1, World.ownsRow_nil _ _ _ _, World.ownsRow_nil _ _ _ _, World.ownsRow_nil _ _ _ _, o.o5, o.x1, o.s1, rfl, fun i x hi => by simp at hi, k1, o.b1, Nat.zero_le _, Nat.zero_le _, Nat.zero_le _, o.b5⟩
theorem HoldP.fix {w : World} {B g g6 n c k : Nat} {q1 q2 q3 q4 : Sl} {P : Pr} {xs : List Value} {ms : List (Int × Value)} {cs6 : Array Value} (h : HoldP w B g ⟨q1, q2, q3, q4, ⟨some ⟨g6, 0, none⟩, n, c⟩⟩ P xs ms) (hb6 : Blk w g6 3 cs6) (hk : k < n) (z : Int) :
    HoldP (w.setCell ⟨g6, k, none⟩ (.int .i64 z)) B g ⟨q1, q2, q3, q4, ⟨some ⟨g6, 0, none⟩, n, c⟩⟩ ⟨P.elig, P.dif, P.sam, P.mst, P.fix.set k z⟩ xs ms := by
  have oF : OwnI w B (.slice (some ⟨g6, 0, none⟩) n c) n P.fix := h.o5
  have far := fun v M (hv : SetAt w w.heap.size v M) => (show SetAt (w.setCell ⟨g6, k, none⟩ (.int .i64 z)) (w.setCell ⟨g6, k, none⟩ (.int .i64 z)).heap.size v M by rw [setCell_size]; exact hv.far hb6 (by decide))
  exact ⟨ownsRow_setCell_other h.o1 (a := ⟨g6, k, none⟩) (own_off h.o1 hb6 (by decide)) _, ownsRow_setCell_other h.o2 (a := ⟨g6, k, none⟩) (own_off h.o2 hb6 (by decide)) _, ownsRow_setCell_other h.o3 (a := ⟨g6, k, none⟩) (own_off h.o3 hb6 (by decide)) _, ownsRow_setCell_other h.o4 (a := ⟨g6, k, none⟩) (own_off h.o4 hb6 (by decide)) _, OwnI.set oF hk z, h.x1,
    fun i M hi => by obtain ⟨X, e, h⟩ := h.s1 i M hi; exact ⟨X, e, far _ _ h⟩, h.x4, fun i x hi => by obtain ⟨m, e1, e2, h⟩ := h.s4 i x hi; exact ⟨m, e1, e2, far _ _ h⟩, h.blk.far (p := ⟨g6, k, none⟩) (h.blk.apart hb6 (by decide)) _, h.b1, h.b2, h.b3, h.b4, h.b5⟩
/-- The problem as the loops have it. -/
structure MtH (w wr : World) (B g g6 : Nat) (E1 : Option Addr) (i1 j1 i5 j5 : Nat) (A2 : Option Addr) (n2 c2 : Nat) (el : List Nat) (dif : List (Int × Int)) (fix : List Int) (xs : List Value) : Prop where
  h : HoldP wr B g ⟨⟨E1, i1, j1⟩, ⟨A2, n2, c2⟩, ⟨none, 0, 0⟩, ⟨none, 0, 0⟩, ⟨some ⟨g6, 0, none⟩, i5, j5⟩⟩ ⟨el, dif, [], [], fix⟩ xs []
  bel : Below w.heap.size w wr
theorem apN (q1 q2 q4 q5 : Sl) : ApQ ⟨q1, q2, ⟨none, 0, 0⟩, q4, q5⟩ := ⟨by
  cases h : q2.v.ownBlock with
  | none => exact .inl rfl
  | some b => exact .inr (by intro e; cases e)⟩
theorem fix_step {a : Nat} {l : List Int} (h : a < l.length) : (List.replicate a 0 ++ l.drop a).set a 0 = List.replicate (a + 1) 0 ++ l.drop (a + 1) := by
  rw [List.drop_eq_getElem_cons h, List.set_append, if_neg (by simp)]
  simp only [List.length_replicate, Nat.sub_self, List.set_cons_zero]
  rw [List.replicate_succ', List.append_assoc]
  rfl
theorem fix_end {l : List Int} {n : Nat} (h : l.length = n) : List.replicate n 0 ++ l.drop n = List.replicate n 0 := by
  rw [List.drop_of_length_le (Nat.le_of_eq h), List.append_nil]
/-- What Solve and Least say together. -/
theorem mat_two {P : Pr} (ok : PrOk P) (h5 : P.elig.length ≤ 5) (hf : Few128 P) {w w' : World} {e : Ending} (h : LeastPost P.elig.length (grP P) w e w') :
    (∃ l ls A c, solsL (matP P) = l :: ls ∧ solveR (matP P) 0 = (some l, [], 0) ∧ l.length = P.elig.length ∧ e = .returned (.tuple #[.slice A P.elig.length c, .bool true]) ∧ Sees w' w'.heap.size A (l.map iv) ∧ Below w.heap.size w w') ∨
    (∃ nds sts, solveR (matP P) 0 = (none, nds, 0) ∧ RefOk (matP P) nds sts ∧ chkR (matP P) nds = (1, 0) ∧ e = .returned (.tuple #[.slice none 0 0, .bool false]) ∧ Below w.heap.size w w') := by
  have hc := chkP_of (mat_ok ok h5)
  obtain ⟨hb, h⟩ := h
  rcases h with ⟨l9, cl, F, s, rfl, hI, hs⟩ | ⟨rfl, hno⟩
  · obtain ⟨l, ls, e1, e2⟩ := mat_least ok h5 hf hI
    rcases solveR_zero hc with ⟨l', ls', h1, h2⟩ | ⟨h1, _⟩
    · rw [e1] at h1
      injection h1 with h1 _
      subst h1
      rw [e2] at hs
      exact Or.inl ⟨l, ls, _, _, e1, h2, by rw [← e2]; simp, rfl, hs, hb⟩
    · rw [e1] at h1; cases h1
  · rcases solveR_zero hc with ⟨l', ls', h1, h2⟩ | ⟨h1, nds, sts, h2, h3, h4⟩
    · rw [mat_none ok h5 hno] at h1; cases h1
    · exact Or.inr ⟨nds, sts, h2, h3, h4, rfl, hb⟩
end Go.Proofs.YtfnhaoindehjdaaDoor
