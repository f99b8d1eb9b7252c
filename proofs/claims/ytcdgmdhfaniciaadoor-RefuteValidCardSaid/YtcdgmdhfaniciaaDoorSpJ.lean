/- The region 'p, q := spoil(Make(r), x)': in whatever order its two calls and its two boxes come up. -/
import Derived.Test.YtcdgmdhfaniciaaDoorPo
import Derived.Test.YtcdgmdhfaniciaaDoorPk
namespace Go.Proofs.YtcdgmdhfaniciaaDoor
open Go.RowKit
set_option linter.unusedVariables false
set_option linter.unusedSimpArgs false

section
variable {Pg : Program} {ops : Array Oper} {Q : Exit → Act → World → Prop} {S : World → Prop}
/-- Nothing is dropped. -/
def noD (i : Nat) : Bool := false
def lstA (b1 b7 b8 : Bool) : Array Bool := #[true, b1, true, false, false, false, false, b7, b8, false, false]
def lst3 (b7 b8 : Bool) : Array Bool := #[true, true, true, true, false, false, false, b7, b8, false, false]
def lstB (b7 b8 : Bool) : Array Bool := #[true, true, true, true, true, true, true, b7, b8, false, false]
/-- An operation is run to its end, in a state of which J is said behind it. -/
def StepTo (Pg : Program) (ops : Array Oper) (Q : Exit → Act → World → Prop) (o : Oper) (J : Act → World → Prop) (a : Act) (w : World) : Prop :=
  ∀ K : Act → World → Prop, Shut (∀ a w, J a w → K a w) → if Region.wanted o (yielded ops a.tmps) = true then Oper.wp Pg o a w K Q else K (a.put o.dst undef) w
def WF (Pg : Program) (ops : Array Oper) (Q : Exit → Act → World → Prop) (S : World → Prop) (f : Nat) (l : Array Bool) (a : Act) (w : World) : Prop := wpAnyF Pg .any ops Q noD S f l a w
theorem WF.step {f i : Nat} {l : Array Bool} {a : Act} {w : World} {o : Oper} {J : Act → World → Prop} (ho : ops[i]? = some o) (h : StepTo Pg ops Q o J a w) (hS : ∀ a w, J a w → S w) (hn : ∀ a w, J a w → WF Pg ops Q S f (l.setIfInBounds i true) a w) :
    wpOp Pg ops Q i (fun a' w' => (noD i = true ∨ S w') ∧ wpAnyF Pg .any ops Q noD S f (l.setIfInBounds i true) a' w') a w :=
  wpOp_step ho fun K hK => h K fun a w hJ => hK a w ⟨.inr (hS a w hJ), hn a w hJ⟩
theorem diamond {o1 o3 o7 o8 : Oper} (h1 : ops[1]? = some o1) (h3 : ops[3]? = some o3) (h7 : ops[7]? = some o7) (h8 : ops[8]? = some o8)
    (JA : Bool → Bool → Bool → Act → World → Prop) (J3 JB : Bool → Bool → Act → World → Prop)
    (rA : ∀ b1 b7 b8, Region.ready .any ops (lstA b1 b7 b8) = (if b1 then [3] else [1]) ++ (if b7 then [] else [7]) ++ (if b8 then [] else [8]))
    (rB : ∀ b7 b8, (b7 && b8) = false → Region.ready .any ops (lstB b7 b8) = (if b7 then [] else [7]) ++ (if b8 then [] else [8]))
    (s1 : ∀ b7 b8 a w, JA false b7 b8 a w → StepTo Pg ops Q o1 (JA true b7 b8) a w)
    (s3 : ∀ b7 b8 a w, JA true b7 b8 a w → StepTo Pg ops Q o3 (J3 b7 b8) a w)
    (t3 : ∀ b7 b8 f a w, J3 b7 b8 a w → (∀ a' w', JB b7 b8 a' w' → WF Pg ops Q S f (lstB b7 b8) a' w') → WF Pg ops Q S (f + 3) (lst3 b7 b8) a w)
    (s7 : ∀ b1 b8 a w, JA b1 false b8 a w → StepTo Pg ops Q o7 (JA b1 true b8) a w) (s8 : ∀ b1 b7 a w, JA b1 b7 false a w → StepTo Pg ops Q o8 (JA b1 b7 true) a w)
    (u7 : ∀ b8 a w, JB false b8 a w → StepTo Pg ops Q o7 (JB true b8) a w) (u8 : ∀ b7 a w, JB b7 false a w → StepTo Pg ops Q o8 (JB b7 true) a w)
    (hA : ∀ b1 b7 b8 a w, JA b1 b7 b8 a w → S w) (hS3 : ∀ b7 b8 a w, J3 b7 b8 a w → S w) (hB : ∀ b7 b8 a w, JB b7 b8 a w → S w)
    (fin : ∀ a w, JB true true a w → WF Pg ops Q S 2 (lstB true true) a w) {a : Act} {w : World} (h : JA false false false a w) : WF Pg ops Q S 9 (lstA false false false) a w := by
  have ne : ∀ {x : Nat} {l : List Nat}, x :: l ≠ [] := fun h => by cases h
  have B10 : ∀ a w, JB true false a w → WF Pg ops Q S 3 (lstB true false) a w := fun a w hj => by
    refine ⟨fun h0 => (by rw [rB true false rfl] at h0; exact absurd h0 ne), fun j hr => ?_⟩
    rw [rB true false rfl] at hr
    obtain rfl : j = 8 := by simpa using hr
    exact WF.step h8 (u8 _ _ _ hj) (hB _ _) fin
  have B01 : ∀ a w, JB false true a w → WF Pg ops Q S 3 (lstB false true) a w := fun a w hj => by
    refine ⟨fun h0 => (by rw [rB false true rfl] at h0; exact absurd h0 ne), fun j hr => ?_⟩
    rw [rB false true rfl] at hr
    obtain rfl : j = 7 := by simpa using hr
    exact WF.step h7 (u7 _ _ _ hj) (hB _ _) fin
  have B00 : ∀ a w, JB false false a w → WF Pg ops Q S 4 (lstB false false) a w := fun a w hj => by
    refine ⟨fun h0 => (by rw [rB false false rfl] at h0; exact absurd h0 ne), fun j hr => ?_⟩
    rw [rB false false rfl] at hr
    have hr' : j = 7 ∨ j = 8 := by simpa using hr
    rcases hr' with rfl | rfl
    · exact WF.step h7 (u7 _ _ _ hj) (hB _ _) B10
    · exact WF.step h8 (u8 _ _ _ hj) (hB _ _) B01
  have A111 : ∀ a w, JA true true true a w → WF Pg ops Q S 6 (lstA true true true) a w := fun a w hj => by
    refine ⟨fun h0 => (by rw [rA] at h0; exact absurd h0 ne), fun j hr => ?_⟩
    rw [rA] at hr
    obtain rfl : j = 3 := by simpa using hr
    exact WF.step h3 (s3 _ _ _ _ hj) (hS3 _ _) fun a w hk => t3 _ _ 2 a w hk fin
  have A110 : ∀ a w, JA true true false a w → WF Pg ops Q S 7 (lstA true true false) a w := fun a w hj => by
    refine ⟨fun h0 => (by rw [rA] at h0; exact absurd h0 ne), fun j hr => ?_⟩
    rw [rA] at hr
    have hr' : j = 3 ∨ j = 8 := by simpa using hr
    rcases hr' with rfl | rfl
    · exact WF.step h3 (s3 _ _ _ _ hj) (hS3 _ _) fun a w hk => t3 _ _ 3 a w hk B10
    · exact WF.step h8 (s8 _ _ _ _ hj) (hA _ _ _) A111
  have A101 : ∀ a w, JA true false true a w → WF Pg ops Q S 7 (lstA true false true) a w := fun a w hj => by
    refine ⟨fun h0 => (by rw [rA] at h0; exact absurd h0 ne), fun j hr => ?_⟩
    rw [rA] at hr
    have hr' : j = 3 ∨ j = 7 := by simpa using hr
    rcases hr' with rfl | rfl
    · exact WF.step h3 (s3 _ _ _ _ hj) (hS3 _ _) fun a w hk => t3 _ _ 3 a w hk B01
    · exact WF.step h7 (s7 _ _ _ _ hj) (hA _ _ _) A111
  have A100 : ∀ a w, JA true false false a w → WF Pg ops Q S 8 (lstA true false false) a w := fun a w hj => by
    refine ⟨fun h0 => (by rw [rA] at h0; exact absurd h0 ne), fun j hr => ?_⟩
    rw [rA] at hr
    have hr' : j = 3 ∨ j = 7 ∨ j = 8 := by simpa using hr
    rcases hr' with rfl | rfl | rfl
    · exact WF.step h3 (s3 _ _ _ _ hj) (hS3 _ _) fun a w hk => t3 _ _ 4 a w hk B00
    · exact WF.step h7 (s7 _ _ _ _ hj) (hA _ _ _) A110
    · exact WF.step h8 (s8 _ _ _ _ hj) (hA _ _ _) A101
  have A011 : ∀ a w, JA false true true a w → WF Pg ops Q S 7 (lstA false true true) a w := fun a w hj => by
    refine ⟨fun h0 => (by rw [rA] at h0; exact absurd h0 ne), fun j hr => ?_⟩
    rw [rA] at hr
    obtain rfl : j = 1 := by simpa using hr
    exact WF.step h1 (s1 _ _ _ _ hj) (hA _ _ _) A111
  have A010 : ∀ a w, JA false true false a w → WF Pg ops Q S 8 (lstA false true false) a w := fun a w hj => by
    refine ⟨fun h0 => (by rw [rA] at h0; exact absurd h0 ne), fun j hr => ?_⟩
    rw [rA] at hr
    have hr' : j = 1 ∨ j = 8 := by simpa using hr
    rcases hr' with rfl | rfl
    · exact WF.step h1 (s1 _ _ _ _ hj) (hA _ _ _) A110
    · exact WF.step h8 (s8 _ _ _ _ hj) (hA _ _ _) A011
  have A001 : ∀ a w, JA false false true a w → WF Pg ops Q S 8 (lstA false false true) a w := fun a w hj => by
    refine ⟨fun h0 => (by rw [rA] at h0; exact absurd h0 ne), fun j hr => ?_⟩
    rw [rA] at hr
    have hr' : j = 1 ∨ j = 7 := by simpa using hr
    rcases hr' with rfl | rfl
    · exact WF.step h1 (s1 _ _ _ _ hj) (hA _ _ _) A101
    · exact WF.step h7 (s7 _ _ _ _ hj) (hA _ _ _) A011
  refine ⟨fun h0 => (by rw [rA] at h0; exact absurd h0 ne), fun j hr => ?_⟩
  rw [rA] at hr
  have hr' : j = 1 ∨ j = 7 ∨ j = 8 := by simpa using hr
  rcases hr' with rfl | rfl | rfl
  · exact WF.step h1 (s1 _ _ _ _ h) (hA _ _ _) A100
  · exact WF.step h7 (s7 _ _ _ _ h) (hA _ _ _) A010
  · exact WF.step h8 (s8 _ _ _ _ h) (hA _ _ _) A001
end

/-- What is known of the slots, whatever has come up. -/
structure SpA (W1 : World) (P0 : Pr) (b1 b7 b8 : Bool) (x5 x6 x11 : Value) (w : World) : Prop where
  bel : Below W1.heap.size W1 w
  m1 : b1 = true → ∃ p : PrV, x11 = p.v ∧ OwnPr w W1.heap.size p P0
  m7 : b7 = true → ∃ g, x5 = .pointer (some ⟨g, 0, none⟩) ∧ W1.heap.size ≤ g ∧ Blk w g 35 zero5
  m8 : b8 = true → ∃ g, x6 = .pointer (some ⟨g, 0, none⟩) ∧ W1.heap.size ≤ g ∧ Blk w g 39 zero5
structure SpB (W1 : World) (P : Pr) (b7 b8 : Bool) (x5 x6 xq xq' : Value) (w : World) : Prop where
  bel : Below W1.heap.size W1 w
  m3 : ∃ q q' : PrV, xq = q.v ∧ xq' = q'.v ∧ (∃ xs ms, OwnQ w W1.heap.size q P xs ms) ∧ OwnPr w W1.heap.size q' P
  m7 : b7 = true → ∃ g, x5 = .pointer (some ⟨g, 0, none⟩) ∧ W1.heap.size ≤ g ∧ Blk w g 35 zero5
  m8 : b8 = true → ∃ g, x6 = .pointer (some ⟨g, 0, none⟩) ∧ W1.heap.size ≤ g ∧ Blk w g 39 zero5
theorem SpA.all7 {W1 w : World} {P0 : Pr} {b1 b8 : Bool} {x5 x6 x11 : Value} (h : SpA W1 P0 b1 false b8 x5 x6 x11 w) : SpA W1 P0 b1 true b8 (.pointer (some ⟨w.heap.size, 0, none⟩)) x6 x11 (w.alloc (.cells #[.slice none 0 0, .slice none 0 0, .slice none 0 0, .slice none 0 0, .slice none 0 0] 35)) :=
  have b := bAl (Below.refl w.heap.size w) (.cells #[.slice none 0 0, .slice none 0 0, .slice none 0 0, .slice none 0 0, .slice none 0 0] 35)
  ⟨h.bel.trans (b.mono h.bel.size), fun e => by obtain ⟨p, e1, o⟩ := h.m1 e; exact ⟨p, e1, o.on b⟩, fun _ => ⟨_, rfl, h.bel.size, Blk.new w _ _⟩, fun e => by obtain ⟨g, e1, e2, o⟩ := h.m8 e; exact ⟨g, e1, e2, o.on b⟩⟩
theorem SpA.all8 {W1 w : World} {P0 : Pr} {b1 b7 : Bool} {x5 x6 x11 : Value} (h : SpA W1 P0 b1 b7 false x5 x6 x11 w) : SpA W1 P0 b1 b7 true x5 (.pointer (some ⟨w.heap.size, 0, none⟩)) x11 (w.alloc (.cells #[.slice none 0 0, .slice none 0 0, .slice none 0 0, .slice none 0 0, .slice none 0 0] 39)) :=
  have b := bAl (Below.refl w.heap.size w) (.cells #[.slice none 0 0, .slice none 0 0, .slice none 0 0, .slice none 0 0, .slice none 0 0] 39)
  ⟨h.bel.trans (b.mono h.bel.size), fun e => by obtain ⟨p, e1, o⟩ := h.m1 e; exact ⟨p, e1, o.on b⟩, fun e => by obtain ⟨g, e1, e2, o⟩ := h.m7 e; exact ⟨g, e1, e2, o.on b⟩, fun _ => ⟨_, rfl, h.bel.size, Blk.new w _ _⟩⟩
theorem SpB.all7 {W1 w : World} {P : Pr} {b8 : Bool} {x5 x6 x y : Value} (h : SpB W1 P false b8 x5 x6 x y w) : SpB W1 P true b8 (.pointer (some ⟨w.heap.size, 0, none⟩)) x6 x y (w.alloc (.cells #[.slice none 0 0, .slice none 0 0, .slice none 0 0, .slice none 0 0, .slice none 0 0] 35)) :=
  have b := bAl (Below.refl w.heap.size w) (.cells #[.slice none 0 0, .slice none 0 0, .slice none 0 0, .slice none 0 0, .slice none 0 0] 35)
  ⟨h.bel.trans (b.mono h.bel.size), by obtain ⟨q, q', e, e', ⟨xs, ms, o⟩, o'⟩ := h.m3; exact ⟨q, q', e, e', ⟨xs, ms, o.on b⟩, o'.on b⟩, fun _ => ⟨_, rfl, h.bel.size, Blk.new w _ _⟩, fun e => by obtain ⟨g, e1, e2, o⟩ := h.m8 e; exact ⟨g, e1, e2, o.on b⟩⟩
theorem SpB.all8 {W1 w : World} {P : Pr} {b7 : Bool} {x5 x6 x y : Value} (h : SpB W1 P b7 false x5 x6 x y w) : SpB W1 P b7 true x5 (.pointer (some ⟨w.heap.size, 0, none⟩)) x y (w.alloc (.cells #[.slice none 0 0, .slice none 0 0, .slice none 0 0, .slice none 0 0, .slice none 0 0] 39)) :=
  have b := bAl (Below.refl w.heap.size w) (.cells #[.slice none 0 0, .slice none 0 0, .slice none 0 0, .slice none 0 0, .slice none 0 0] 39)
  ⟨h.bel.trans (b.mono h.bel.size), by obtain ⟨q, q', e, e', ⟨xs, ms, o⟩, o'⟩ := h.m3; exact ⟨q, q', e, e', ⟨xs, ms, o.on b⟩, o'.on b⟩, fun e => by obtain ⟨g, e1, e2, o⟩ := h.m7 e; exact ⟨g, e1, e2, o.on b⟩, fun _ => ⟨_, rfl, h.bel.size, Blk.new w _ _⟩⟩
theorem SpA.made {W1 w u : World} {P0 : Pr} {b7 b8 : Bool} {x5 x6 x11 : Value} {p : PrV} (h : SpA W1 P0 false b7 b8 x5 x6 x11 w) (hb : Below w.heap.size w u) (ho : OwnPr u W1.heap.size p P0) : SpA W1 P0 true b7 b8 x5 x6 p.v u :=
  ⟨h.bel.trans (hb.mono h.bel.size), fun _ => ⟨p, rfl, ho⟩, fun e => by obtain ⟨g, e1, e2, o⟩ := h.m7 e; exact ⟨g, e1, e2, o.on hb⟩, fun e => by obtain ⟨g, e1, e2, o⟩ := h.m8 e; exact ⟨g, e1, e2, o.on hb⟩⟩
theorem SpA.spoilt {W1 w u : World} {P0 P : Pr} {b7 b8 : Bool} {x5 x6 x11 : Value} {q q' : PrV} (h : SpA W1 P0 true b7 b8 x5 x6 x11 w) (hb : Below W1.heap.size W1 u) (ho : ∃ xs ms, OwnQ u W1.heap.size q P xs ms) (ho' : OwnPr u W1.heap.size q' P) (hk : ∀ g t cs, Blk w g t cs → OffT t → Blk u g t cs) : SpB W1 P b7 b8 x5 x6 q.v q'.v u :=
  ⟨hb, ⟨q, q', rfl, rfl, ho, ho'⟩, fun e => by obtain ⟨g, e1, e2, o⟩ := h.m7 e; exact ⟨g, e1, e2, hk _ _ _ o offP⟩, fun e => by obtain ⟨g, e1, e2, o⟩ := h.m8 e; exact ⟨g, e1, e2, hk _ _ _ o offR⟩⟩
end Go.Proofs.YtcdgmdhfaniciaaDoor
