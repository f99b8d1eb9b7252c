/- A region with three boxes and three calls, in whatever order they come up. (gentri.py) -/
import Derived.Test.YtfnhaoindehjdaaDoorPk
namespace Go.Proofs.YtfnhaoindehjdaaDoor
open Go.RowKit
set_option linter.unusedVariables false
set_option linter.unusedSimpArgs false

section
variable {Pg : Program} {ops : Array Oper} {Q : Exit → Act → World → Prop} {S : World → Prop}
/-- Nothing is dropped. -/
def noD (i : Nat) : Bool := false
/-- An operation is run to its end, in a state of which J is said behind it. -/
def StepTo (Pg : Program) (ops : Array Oper) (Q : Exit → Act → World → Prop) (o : Oper) (J : Act → World → Prop) (a : Act) (w : World) : Prop :=
  ∀ K : Act → World → Prop, Shut (∀ a w, J a w → K a w) → if Region.wanted o (yielded ops a.tmps) = true then Oper.wp Pg o a w K Q else K (a.put o.dst undef) w
def WF (Pg : Program) (ops : Array Oper) (Q : Exit → Act → World → Prop) (S : World → Prop) (f : Nat) (l : Array Bool) (a : Act) (w : World) : Prop := wpAnyF Pg .any ops Q noD S f l a w
theorem WF.step {f i : Nat} {l : Array Bool} {a : Act} {w : World} {o : Oper} {J : Act → World → Prop} (ho : ops[i]? = some o) (h : StepTo Pg ops Q o J a w) (hS : ∀ a w, J a w → S w) (hn : ∀ a w, J a w → WF Pg ops Q S f (l.setIfInBounds i true) a w) :
    wpOp Pg ops Q i (fun a' w' => (noD i = true ∨ S w') ∧ wpAnyF Pg .any ops Q noD S f (l.setIfInBounds i true) a' w') a w :=
  wpOp_step ho fun K hK => h K fun a w hJ => hK a w ⟨.inr (hS a w hJ), hn a w hJ⟩
def lT (k : Nat) (b c : Bool) : Array Bool := #[true, true, true, true, decide (1 ≤ k), decide (2 ≤ k), true, true, true, true, b, decide (3 ≤ k), true, true, true, true, c, decide (4 ≤ k), decide (2 ≤ k), false, false, false, false, false]
def l5 (b c : Bool) : Array Bool := #[true, true, true, true, true, true, true, true, true, true, b, false, true, true, true, true, c, false, false, false, false, false, false, false]
theorem tri {o4 : Oper} {o5 : Oper} {o10 : Oper} {o11 : Oper} {o16 : Oper} {o17 : Oper} (h4 : ops[4]? = some o4) (h5 : ops[5]? = some o5) (h10 : ops[10]? = some o10) (h11 : ops[11]? = some o11) (h16 : ops[16]? = some o16) (h17 : ops[17]? = some o17)
    (JT : Nat → Bool → Bool → Act → World → Prop) (J5 : Bool → Bool → Act → World → Prop)
    (rA0ff : Region.ready .any ops (lT 0 false false) = [4, 10, 16])
    (rA0ft : Region.ready .any ops (lT 0 false true) = [4, 10])
    (rA0tf : Region.ready .any ops (lT 0 true false) = [4, 16])
    (rA0tt : Region.ready .any ops (lT 0 true true) = [4])
    (rA1ff : Region.ready .any ops (lT 1 false false) = [5, 10, 16])
    (rA1ft : Region.ready .any ops (lT 1 false true) = [5, 10])
    (rA1tf : Region.ready .any ops (lT 1 true false) = [5, 16])
    (rA1tt : Region.ready .any ops (lT 1 true true) = [5])
    (rA2ff : Region.ready .any ops (lT 2 false false) = [10, 16])
    (rA2ft : Region.ready .any ops (lT 2 false true) = [10])
    (rA2tf : Region.ready .any ops (lT 2 true false) = [11, 16])
    (rA2tt : Region.ready .any ops (lT 2 true true) = [11])
    (rA3tf : Region.ready .any ops (lT 3 true false) = [16])
    (rA3tt : Region.ready .any ops (lT 3 true true) = [17])
    (s4 : ∀ b c a w, JT 0 b c a w → StepTo Pg ops Q o4 (JT 1 b c) a w) (s5 : ∀ b c a w, JT 1 b c a w → StepTo Pg ops Q o5 (J5 b c) a w)
    (t5 : ∀ b c f a w, J5 b c a w → (∀ a' w', JT 2 b c a' w' → WF Pg ops Q S f (lT 2 b c) a' w') → WF Pg ops Q S (f + 1) (l5 b c) a w)
    (s11 : ∀ c a w, JT 2 true c a w → StepTo Pg ops Q o11 (JT 3 true c) a w) (s17 : ∀ a w, JT 3 true true a w → StepTo Pg ops Q o17 (JT 4 true true) a w)
    (s10 : ∀ k c a w, JT k false c a w → StepTo Pg ops Q o10 (JT k true c) a w) (s16 : ∀ k b a w, JT k b false a w → StepTo Pg ops Q o16 (JT k b true) a w)
    (hA : ∀ k b c a w, JT k b c a w → S w) (hS5 : ∀ b c a w, J5 b c a w → S w)
    (fin : ∀ a w, JT 4 true true a w → WF Pg ops Q S 5 (lT 4 true true) a w) {a : Act} {w : World} (h : JT 0 false false a w) : WF Pg ops Q S 12 (lT 0 false false) a w := by
  have ne : ∀ {x : Nat} {l : List Nat}, x :: l ≠ [] := fun h => by cases h
  have A4tt : ∀ a w, JT 4 true true a w → WF Pg ops Q S 5 (lT 4 true true) a w := fin
  have A3tt : ∀ a w, JT 3 true true a w → WF Pg ops Q S 6 (lT 3 true true) a w := fun a w hj => by
    refine ⟨fun h0 => (by rw [rA3tt] at h0; exact absurd h0 ne), fun j hr => ?_⟩
    rw [rA3tt] at hr
    obtain rfl : j = 17 := by simpa using hr
    exact WF.step h17 (s17 _ _ hj) (hA _ _ _) A4tt
  have A3tf : ∀ a w, JT 3 true false a w → WF Pg ops Q S 7 (lT 3 true false) a w := fun a w hj => by
    refine ⟨fun h0 => (by rw [rA3tf] at h0; exact absurd h0 ne), fun j hr => ?_⟩
    rw [rA3tf] at hr
    obtain rfl : j = 16 := by simpa using hr
    exact WF.step h16 (s16 _ _ _ _ hj) (hA _ _ _) A3tt
  have A2tt : ∀ a w, JT 2 true true a w → WF Pg ops Q S 7 (lT 2 true true) a w := fun a w hj => by
    refine ⟨fun h0 => (by rw [rA2tt] at h0; exact absurd h0 ne), fun j hr => ?_⟩
    rw [rA2tt] at hr
    obtain rfl : j = 11 := by simpa using hr
    exact WF.step h11 (s11 _ _ _ hj) (hA _ _ _) A3tt
  have A2tf : ∀ a w, JT 2 true false a w → WF Pg ops Q S 8 (lT 2 true false) a w := fun a w hj => by
    refine ⟨fun h0 => (by rw [rA2tf] at h0; exact absurd h0 ne), fun j hr => ?_⟩
    rw [rA2tf] at hr
    have hr' : j = 11 ∨ j = 16 := by simpa using hr
    rcases hr' with rfl | rfl
    · exact WF.step h11 (s11 _ _ _ hj) (hA _ _ _) A3tf
    · exact WF.step h16 (s16 _ _ _ _ hj) (hA _ _ _) A2tt
  have A2ft : ∀ a w, JT 2 false true a w → WF Pg ops Q S 8 (lT 2 false true) a w := fun a w hj => by
    refine ⟨fun h0 => (by rw [rA2ft] at h0; exact absurd h0 ne), fun j hr => ?_⟩
    rw [rA2ft] at hr
    obtain rfl : j = 10 := by simpa using hr
    exact WF.step h10 (s10 _ _ _ _ hj) (hA _ _ _) A2tt
  have A2ff : ∀ a w, JT 2 false false a w → WF Pg ops Q S 9 (lT 2 false false) a w := fun a w hj => by
    refine ⟨fun h0 => (by rw [rA2ff] at h0; exact absurd h0 ne), fun j hr => ?_⟩
    rw [rA2ff] at hr
    have hr' : j = 10 ∨ j = 16 := by simpa using hr
    rcases hr' with rfl | rfl
    · exact WF.step h10 (s10 _ _ _ _ hj) (hA _ _ _) A2tf
    · exact WF.step h16 (s16 _ _ _ _ hj) (hA _ _ _) A2ft
  have A1tt : ∀ a w, JT 1 true true a w → WF Pg ops Q S 9 (lT 1 true true) a w := fun a w hj => by
    refine ⟨fun h0 => (by rw [rA1tt] at h0; exact absurd h0 ne), fun j hr => ?_⟩
    rw [rA1tt] at hr
    obtain rfl : j = 5 := by simpa using hr
    exact WF.step h5 (s5 _ _ _ _ hj) (hS5 _ _) fun a w hk => t5 _ _ 7 a w hk A2tt
  have A1tf : ∀ a w, JT 1 true false a w → WF Pg ops Q S 10 (lT 1 true false) a w := fun a w hj => by
    refine ⟨fun h0 => (by rw [rA1tf] at h0; exact absurd h0 ne), fun j hr => ?_⟩
    rw [rA1tf] at hr
    have hr' : j = 5 ∨ j = 16 := by simpa using hr
    rcases hr' with rfl | rfl
    · exact WF.step h5 (s5 _ _ _ _ hj) (hS5 _ _) fun a w hk => t5 _ _ 8 a w hk A2tf
    · exact WF.step h16 (s16 _ _ _ _ hj) (hA _ _ _) A1tt
  have A1ft : ∀ a w, JT 1 false true a w → WF Pg ops Q S 10 (lT 1 false true) a w := fun a w hj => by
    refine ⟨fun h0 => (by rw [rA1ft] at h0; exact absurd h0 ne), fun j hr => ?_⟩
    rw [rA1ft] at hr
    have hr' : j = 5 ∨ j = 10 := by simpa using hr
    rcases hr' with rfl | rfl
    · exact WF.step h5 (s5 _ _ _ _ hj) (hS5 _ _) fun a w hk => t5 _ _ 8 a w hk A2ft
    · exact WF.step h10 (s10 _ _ _ _ hj) (hA _ _ _) A1tt
  have A1ff : ∀ a w, JT 1 false false a w → WF Pg ops Q S 11 (lT 1 false false) a w := fun a w hj => by
    refine ⟨fun h0 => (by rw [rA1ff] at h0; exact absurd h0 ne), fun j hr => ?_⟩
    rw [rA1ff] at hr
    have hr' : j = 5 ∨ j = 10 ∨ j = 16 := by simpa using hr
    rcases hr' with rfl | rfl | rfl
    · exact WF.step h5 (s5 _ _ _ _ hj) (hS5 _ _) fun a w hk => t5 _ _ 9 a w hk A2ff
    · exact WF.step h10 (s10 _ _ _ _ hj) (hA _ _ _) A1tf
    · exact WF.step h16 (s16 _ _ _ _ hj) (hA _ _ _) A1ft
  have A0tt : ∀ a w, JT 0 true true a w → WF Pg ops Q S 10 (lT 0 true true) a w := fun a w hj => by
    refine ⟨fun h0 => (by rw [rA0tt] at h0; exact absurd h0 ne), fun j hr => ?_⟩
    rw [rA0tt] at hr
    obtain rfl : j = 4 := by simpa using hr
    exact WF.step h4 (s4 _ _ _ _ hj) (hA _ _ _) A1tt
  have A0tf : ∀ a w, JT 0 true false a w → WF Pg ops Q S 11 (lT 0 true false) a w := fun a w hj => by
    refine ⟨fun h0 => (by rw [rA0tf] at h0; exact absurd h0 ne), fun j hr => ?_⟩
    rw [rA0tf] at hr
    have hr' : j = 4 ∨ j = 16 := by simpa using hr
    rcases hr' with rfl | rfl
    · exact WF.step h4 (s4 _ _ _ _ hj) (hA _ _ _) A1tf
    · exact WF.step h16 (s16 _ _ _ _ hj) (hA _ _ _) A0tt
  have A0ft : ∀ a w, JT 0 false true a w → WF Pg ops Q S 11 (lT 0 false true) a w := fun a w hj => by
    refine ⟨fun h0 => (by rw [rA0ft] at h0; exact absurd h0 ne), fun j hr => ?_⟩
    rw [rA0ft] at hr
    have hr' : j = 4 ∨ j = 10 := by simpa using hr
    rcases hr' with rfl | rfl
    · exact WF.step h4 (s4 _ _ _ _ hj) (hA _ _ _) A1ft
    · exact WF.step h10 (s10 _ _ _ _ hj) (hA _ _ _) A0tt
  have A0ff : ∀ a w, JT 0 false false a w → WF Pg ops Q S 12 (lT 0 false false) a w := fun a w hj => by
    refine ⟨fun h0 => (by rw [rA0ff] at h0; exact absurd h0 ne), fun j hr => ?_⟩
    rw [rA0ff] at hr
    have hr' : j = 4 ∨ j = 10 ∨ j = 16 := by simpa using hr
    rcases hr' with rfl | rfl | rfl
    · exact WF.step h4 (s4 _ _ _ _ hj) (hA _ _ _) A1ff
    · exact WF.step h10 (s10 _ _ _ _ hj) (hA _ _ _) A0tf
    · exact WF.step h16 (s16 _ _ _ _ hj) (hA _ _ _) A0ft
  exact A0ff a w h
end
end Go.Proofs.YtfnhaoindehjdaaDoor
