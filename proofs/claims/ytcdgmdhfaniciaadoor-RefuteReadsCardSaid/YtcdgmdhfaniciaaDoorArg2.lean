/- An argument that is two bytes, opened. -/
import Derived.Test.YtcdgmdhfaniciaaDoorPk
namespace Go.Proofs.YtcdgmdhfaniciaaDoor
open Go.ChangeShapes Go.WideShapes Go.ChangeAt Go.RowKit Go.Deep Go.Joins
set_option linter.unusedVariables false
set_option linter.unusedSimpArgs false

theorem okWide_array {P : Program} {w : World} {r : Reach} {base : Nat} {t : TypeId} {v : Value} {n : Nat} {e : TypeId} (ht : P.underlying t = some (.array n e)) (h : Value.okWide P w r base t v) : ∃ cs, v = .agg cs ∧ cs.size = P.cellsOf t := by
  simp only [Value.okWide, ht] at h
  obtain ⟨cs, h1, h2, _⟩ := h
  exact ⟨cs, h1, h2⟩
/-- Two bytes. -/
structure TwoB (a b : Int) : Prop where
  a0 : 0 ≤ a
  a1 : a ≤ 255
  b0 : 0 ≤ b
  b1 : b ≤ 255
set_option maxRecDepth 100000 in
theorem open_two {H : Type} {enc : TypeId × Value → H} {W : World} {r : Reach} {base base' : Nat} {spare : Nat → Bool} {held : Bool} {v : Value} {d : DataW H} {p : List MemPlace} (hv : Value.okWide Tryd.prog W r base 79 v)
    (h : DataW.Trod enc Tryd.prog W base' spare held 79 v d p) : ∃ a b, v = .agg #[.int .u8 a, .int .u8 b] ∧ TwoB a b := by
  obtain ⟨cs, rfl, hsz⟩ := okWide_array Tryd.underlying79 hv
  have hC : Tryd.prog.cellsOf 79 = 2 := by kernel_rfl
  have c1 : Tryd.prog.cellsOf 5 = 1 := by kernel_rfl
  rw [hC] at hsz
  obtain ⟨cs⟩ := cs
  match cs, hsz with
  | [v0, v1], _ =>
    obtain ⟨fuel, hf⟩ := h
    obtain ⟨y0, y1, n', _, f0, f1⟩ := trod_array2 Tryd.underlying79 c1 (by simpa [Value.cells] using hf)
    obtain ⟨k, g0, _, w0⟩ := DataW.trod_int Tryd.underlying5 f0
    obtain ⟨u, g1, _, w1⟩ := DataW.trod_int Tryd.underlying5 f1
    simp at g0 g1
    subst g0 g1
    obtain ⟨p0, p1⟩ := wf_u8 w0
    obtain ⟨q0, q1⟩ := wf_u8 w1
    exact ⟨k, u, rfl, by omega, by omega, by omega, by omega⟩
end Go.Proofs.YtcdgmdhfaniciaaDoor
