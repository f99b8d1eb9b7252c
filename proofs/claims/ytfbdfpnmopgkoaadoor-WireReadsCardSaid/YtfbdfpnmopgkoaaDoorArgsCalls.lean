/- An argument that is a slice of Calls, opened. -/
import Derived.Test.YtfbdfpnmopgkoaaDoorArgsCall
import Derived.Deep.Slices
import Derived.Deep.Strs
namespace Go.Proofs.YtfbdfpnmopgkoaaDoor
open Go.ChangeShapes Go.WideShapes Go.ChangeAt Go.RowKit Go.Deep Go.Joins
set_option linter.unusedVariables false
set_option linter.unusedSimpArgs false

/-- A Call. -/
structure Cal where
  k : Nat
  mo : Int
  lo : Int
/-- What a walk is told of a slice of Calls that came in. -/
structure ArgCs (w : World) (A : Option Addr) (n c : Nat) (xs : List Cal) : Prop where
  len : xs.length = n
  cap : n ≤ c
  max : c ≤ maxLen
  row : ∀ (i : Nat) (x : Cal), xs[i]? = some x → ∃ b o, A = some ⟨b, o, none⟩ ∧ b < w.heap.size ∧ w.cell? ⟨b, o + i * 3, none⟩ = some (.int .u8 (x.k : Int)) ∧ w.cell? ⟨b, o + i * 3 + 1, none⟩ = some (.int .i64 x.mo) ∧
    w.cell? ⟨b, o + i * 3 + 2, none⟩ = some (.int .i64 x.lo) ∧ CallIn x.k x.mo x.lo

set_option maxRecDepth 100000 in
theorem open_calls {H : Type} {enc : TypeId × Value → H} {W : World} {r : Reach} {base base' : Nat} {spare : Nat → Bool} (hsp : ∀ b, spare b = true) {held : Bool} {v : Value} {d : DataW H} {p : List MemPlace} (hv : Value.okWide Tryd.prog W r base 23 v)
    (h : DataW.Trod enc Tryd.prog W base' spare held 23 v d p) : ∃ A n c xs, v = .slice A n c ∧ ArgCs W A n c xs := by
  obtain ⟨A, len, cap, rfl⟩ := okWide_slice Tryd.underlying23 hv
  obtain ⟨fuel, hf⟩ := h
  rcases open_slice Tryd.underlying23 hf with ⟨hcs, _⟩ | ⟨a, len', cap', m, n, D, Pl, hcs, _, hl, hm, hmm, _, hel⟩
  · simp [Value.cells] at hcs
    obtain ⟨rfl, rfl, rfl⟩ := hcs
    exact ⟨none, 0, 0, [], rfl, ⟨rfl, Nat.le_refl _, Nat.zero_le _, fun i x h => by simp at h⟩⟩
  · simp [Value.cells] at hcs
    obtain ⟨rfl, rfl, rfl⟩ := hcs
    rw [hsp, if_pos rfl] at hmm
    subst hmm
    have c3 : Tryd.prog.cellsOf 33 = 3 := by kernel_rfl
    have hrow : ∀ i : Nat, ∃ x : Cal, i < m → ∃ b o, a = ⟨b, o, none⟩ ∧ b < W.heap.size ∧ W.cell? ⟨b, o + i * 3, none⟩ = some (.int .u8 (x.k : Int)) ∧ W.cell? ⟨b, o + i * 3 + 1, none⟩ = some (.int .i64 x.mo) ∧
        W.cell? ⟨b, o + i * 3 + 2, none⟩ = some (.int .i64 x.lo) ∧ CallIn x.k x.mo x.lo := by
      intro i
      by_cases hi : i < m
      · obtain ⟨cs', h1, h2⟩ := hel i hi
        rw [c3] at h1
        obtain ⟨_, hlen, hcell⟩ := World.cells?_some h1
        obtain ⟨y0, y1, y2, n', _, _, f0, f1, f2⟩ := trod_struct3 Tryd.underlying33 h2
        match cs', hlen with
        | [v0, v1, v2], _ =>
          have q0 : Tryd.prog.cellsOf 5 = 1 := by kernel_rfl
          have q1 : Tryd.prog.cellsOf 3 = 1 := by kernel_rfl
          simp [q0] at f0
          simp [q1] at f1
          simp [q1] at f2
          have e0 := hcell 0 (by omega)
          have e1 := hcell 1 (by omega)
          have e2 := hcell 2 (by omega)
          rw [add_add] at e0 e1 e2
          simp at e0 e1 e2
          obtain ⟨k, g0, _, w0⟩ := DataW.trod_int Tryd.underlying5 f0
          obtain ⟨u, g1, _, w1⟩ := DataW.trod_int Tryd.underlying3 f1
          obtain ⟨s, g2, _, w2⟩ := DataW.trod_int Tryd.underlying3 f2
          simp at g0 g1 g2
          subst g0 g1 g2
          obtain ⟨k', rfl, hV⟩ := call_of w0 w1 w2
          have hspot : a.spot = none := by
            obtain ⟨cs0, h10, _⟩ := hel 0 (by omega)
            rw [c3] at h10
            obtain ⟨_, hlen0, hcell0⟩ := World.cells?_some h10
            have e00 := hcell0 0 (by omega)
            obtain ⟨z0, hz0⟩ : ∃ z0, cs0[0]? = some z0 := ⟨_, List.getElem?_eq_getElem (by omega)⟩
            rw [hz0] at e00
            simpa [Addr.add] using World.cell?_spot e00
          obtain ⟨b, o, sp⟩ := a
          simp at hspot
          subst hspot
          rw [Addr.add_lit] at e0 e1 e2
          exact ⟨⟨k', u, s⟩, fun _ => ⟨b, o, rfl, World.block_lt_of_cell? W _ e0, e0, by rw [Nat.add_assoc]; exact e1, by rw [Nat.add_assoc]; exact e2, hV⟩⟩
      · exact ⟨⟨0, 0, 0⟩, fun h => absurd h hi⟩
    refine ⟨_, len, m, (List.range len).map (fun i => Classical.choose (hrow i)), rfl, ⟨by simp, hl, hm, ?_⟩⟩
    intro i x hx
    have hi : i < len := by have := (List.getElem?_eq_some_iff.1 hx).1; simpa using this
    have e2 : Classical.choose (hrow i) = x := by simpa [hi] using hx
    subst e2
    obtain ⟨b, o, ea, rest⟩ := Classical.choose_spec (hrow i) (by omega)
    exact ⟨b, o, by rw [ea], rest⟩
end Go.Proofs.YtfbdfpnmopgkoaaDoor
