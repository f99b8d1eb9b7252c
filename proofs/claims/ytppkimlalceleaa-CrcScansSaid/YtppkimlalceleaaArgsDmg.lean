/- An argument that is a Damage, opened. -/
import Derived.Test.YtppkimlalceleaaArgsBB
import Derived.Lib.SmallJoins
namespace Go.Proofs.Ytppkimlalceleaa
open Go.ChangeShapes Go.WideShapes Go.ChangeAt Go.RowKit Go.Deep Go.Joins
set_option linter.unusedVariables false
set_option linter.unusedSimpArgs false

/-- What a walk is told of a Damage that came in. -/
structure ArgDmg (w : World) (k b a : Int) (A : Option Addr) (n c : Nat) (l : List UInt8) : Prop where
  kind : (Lit.int .u8 k).wf = true
  bit : (Lit.int .u8 b).wf = true
  pos : (Lit.int .u16 a).wf = true
  more : ArgB w A n c l

set_option maxRecDepth 100000 in
theorem open_dmg {H : Type} {enc : TypeId × Value → H} {W : World} {r : Reach} {base base' : Nat} {spare : Nat → Bool} (hsp : ∀ b, spare b = true) {held : Bool} {v : Value} {d : DataW H} {p : List MemPlace} (hv : Value.okWide Try.prog W r base 53 v)
    (h : DataW.Trod enc Try.prog W base' spare held 53 v d p) : ∃ k b a A n c l, v = .agg #[.int .u8 k, .int .u8 b, .int .u16 a, .slice A n c] ∧ ArgDmg W k b a A n c l := by
  obtain ⟨v0, v1, v2, v3, y0, y1, y2, y3, n, rfl, _, _, h0, h1, h2, h3⟩ := open_agg4 Try.underlying53 (by kernel_rfl) (by kernel_rfl) hv h
  obtain ⟨k, e0, _, w0⟩ := DataW.trod_int Try.underlying5 h0
  obtain ⟨b, e1, _, w1⟩ := DataW.trod_int Try.underlying5 h1
  obtain ⟨a, e2, _, w2⟩ := DataW.trod_int Try.underlying31 h2
  obtain ⟨A, m, c, l, e3, w3⟩ := bytes_of_trod hsp h3
  simp at e0 e1 e2
  subst e0 e1 e2 e3
  exact ⟨k, b, a, A, m, c, l, rfl, w0, w1, w2, w3⟩
end Go.Proofs.Ytppkimlalceleaa
