/- An argument that is a Span, opened. -/
import Derived.Test.YtfbdfpnmopgkoaaArgs
import Derived.Lib.SmallJoins
namespace Go.Proofs.Ytfbdfpnmopgkoaa
open Go.ChangeShapes Go.WideShapes Go.ChangeAt Go.RowKit Go.Deep Go.Joins
set_option linter.unusedVariables false
set_option linter.unusedSimpArgs false

set_option maxRecDepth 100000 in
theorem open_span {H : Type} {enc : TypeId × Value → H} {W : World} {r : Reach} {base base' : Nat} {spare : Nat → Bool} (hsp : ∀ b, spare b = true) {held : Bool} {v : Value} {d : DataW H} {p : List MemPlace} (hv : Value.okWide Try.prog W r base 44 v)
    (h : DataW.Trod enc Try.prog W base' spare held 44 v d p) : ∃ x y, v = .agg #[.int .i64 x, .int .i64 y] ∧ (Lit.int .i64 x).wf = true ∧ (Lit.int .i64 y).wf = true := by
  obtain ⟨v0, v1, y0, y1, n, rfl, _, _, h0, h1⟩ := open_agg2 Try.underlying44 (by kernel_rfl) (by kernel_rfl) hv h
  obtain ⟨x, e0, _, w0⟩ := DataW.trod_int Try.underlying2 h0
  obtain ⟨y, e1, _, w1⟩ := DataW.trod_int Try.underlying2 h1
  simp at e0 e1
  subst e0 e1
  exact ⟨x, y, rfl, w0, w1⟩
end Go.Proofs.Ytfbdfpnmopgkoaa
