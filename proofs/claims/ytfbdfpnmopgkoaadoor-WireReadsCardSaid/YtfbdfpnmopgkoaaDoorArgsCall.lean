/- An argument that is a Call of a reader, opened. -/
import Derived.Test.YtfbdfpnmopgkoaaDoorArgsVal1
import Derived.Test.YtfbdfpnmopgkoaaDoorAgB
namespace Go.Proofs.YtfbdfpnmopgkoaaDoor
open Go.ChangeShapes Go.WideShapes Go.ChangeAt Go.RowKit Go.Deep Go.Joins
set_option linter.unusedVariables false
set_option linter.unusedSimpArgs false

/-- What a walk is told of a Call. -/
structure CallIn (k : Nat) (mo lo : Int) : Prop where
  kind : k < 256
  mo1 : -9223372036854775808 ≤ mo
  mo2 : mo ≤ 9223372036854775807
  lo1 : -9223372036854775808 ≤ lo
  lo2 : lo ≤ 9223372036854775807
theorem call_of {k mo lo : Int} (w0 : (Lit.int .u8 k).wf = true) (w1 : (Lit.int .i64 mo).wf = true) (w2 : (Lit.int .i64 lo).wf = true) : ∃ k' : Nat, k = (k' : Int) ∧ CallIn k' mo lo := by
  obtain ⟨a1, a2⟩ := wf_u8 w0
  obtain ⟨b1, b2⟩ := wf_i64 w1
  obtain ⟨c1, c2⟩ := wf_i64 w2
  exact ⟨k.toNat, by omega, by omega, b1, b2, c1, c2⟩
set_option maxRecDepth 100000 in
theorem open_call {H : Type} {enc : TypeId × Value → H} {W : World} {r : Reach} {base base' : Nat} {spare : Nat → Bool} {held : Bool} {v : Value} {d : DataW H} {p : List MemPlace} (hv : Value.okWide Tryd.prog W r base 33 v)
    (h : DataW.Trod enc Tryd.prog W base' spare held 33 v d p) : ∃ k mo lo, v = callV k mo lo ∧ CallIn k mo lo := by
  obtain ⟨v0, v1, v2, y0, y1, y2, n, rfl, _, _, h0, h1, h2⟩ := open_agg3 Tryd.underlying33 (by kernel_rfl) (by kernel_rfl) hv h
  obtain ⟨k, e0, _, w0⟩ := DataW.trod_int Tryd.underlying5 h0
  obtain ⟨mo, e1, _, w1⟩ := DataW.trod_int Tryd.underlying3 h1
  obtain ⟨lo, e2, _, w2⟩ := DataW.trod_int Tryd.underlying3 h2
  simp at e0 e1 e2
  subst e0 e1 e2
  obtain ⟨k', rfl, hC⟩ := call_of w0 w1 w2
  exact ⟨k', mo, lo, rfl, hC⟩
end Go.Proofs.YtfbdfpnmopgkoaaDoor
