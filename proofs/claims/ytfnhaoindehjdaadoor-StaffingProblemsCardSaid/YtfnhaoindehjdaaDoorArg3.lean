/- An argument that is three bytes, opened. -/
import Derived.Test.YtfnhaoindehjdaaDoorPk
namespace Go.Proofs.YtfnhaoindehjdaaDoor
open Go.ChangeShapes Go.WideShapes Go.ChangeAt Go.RowKit Go.Deep Go.Joins
set_option linter.unusedVariables false
set_option linter.unusedSimpArgs false

/-- Three bytes. -/
structure ThreeB (a b c : Int) : Prop where
  a0 : 0 ≤ a
  a1 : a ≤ 255
  b0 : 0 ≤ b
  b1 : b ≤ 255
  c0 : 0 ≤ c
  c1 : c ≤ 255
set_option maxRecDepth 100000 in
theorem open_lists {H : Type} {enc : TypeId × Value → H} {W : World} {r : Reach} {base base' : Nat} {spare : Nat → Bool} {held : Bool} {v : Value} {d : DataW H} {p : List MemPlace} (hv : Value.okWide Tryd.prog W r base 78 v)
    (h : DataW.Trod enc Tryd.prog W base' spare held 78 v d p) : ∃ a b c, v = .agg #[.int .u8 a, .int .u8 b, .int .u8 c] ∧ ThreeB a b c := by
  obtain ⟨v0, v1, v2, y0, y1, y2, n, rfl, _, _, h0, h1, h2⟩ := open_agg3 Tryd.underlying78 (by kernel_rfl) (by kernel_rfl) hv h
  obtain ⟨a, e0, _, w0⟩ := DataW.trod_int Tryd.underlying5 h0
  obtain ⟨b, e1, _, w1⟩ := DataW.trod_int Tryd.underlying5 h1
  obtain ⟨c, e2, _, w2⟩ := DataW.trod_int Tryd.underlying5 h2
  simp at e0 e1 e2
  subst e0 e1 e2
  obtain ⟨p0, p1⟩ := wf_u8 w0
  obtain ⟨q0, q1⟩ := wf_u8 w1
  obtain ⟨r0, r1⟩ := wf_u8 w2
  exact ⟨a, b, c, rfl, by omega, by omega, by omega, by omega, by omega, by omega⟩
end Go.Proofs.YtfnhaoindehjdaaDoor
