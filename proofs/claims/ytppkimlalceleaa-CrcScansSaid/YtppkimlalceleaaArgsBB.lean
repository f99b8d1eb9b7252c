/- An argument that is a slice of byte slices, opened. -/
import Derived.Test.YtppkimlalceleaaArgs
import Derived.Deep.Slices
namespace Go.Proofs.Ytppkimlalceleaa
open Go.ChangeShapes Go.WideShapes Go.ChangeAt Go.RowKit Go.Deep
set_option linter.unusedVariables false
set_option linter.unusedSimpArgs false

/-- What a walk is told of a slice of byte slices that came in. -/
structure ArgBB (w : World) (A : Option Addr) (n c : Nat) (vs : List Value) (ls : List (List UInt8)) : Prop where
  sees : Sees w w.heap.size A vs
  len : vs.length = n
  len' : ls.length = n
  cap : n ≤ c
  max : c ≤ maxLen
  row : ∀ (i : Nat) (u : Value) (l : List UInt8), vs[i]? = some u → ls[i]? = some l → ∃ Ai ni ci, u = .slice Ai ni ci ∧ ArgB w Ai ni ci l

set_option maxRecDepth 100000 in
theorem bytes_of_trod {H : Type} {enc : TypeId × Value → H} {W : World} {base : Nat} {spare : Nat → Bool} (hsp : ∀ b, spare b = true) {held : Bool} {v : Value} {m : Nat} {y : DataW H × List MemPlace}
    (hf : DataW.trod enc Try.prog W base spare held m 22 [v] = some y) : ∃ A n c l, v = .slice A n c ∧ ArgB W A n c l := by
  rcases open_ints Try.underlying22 Try.underlying5 (by kernel_rfl) hf with ⟨hcs, _⟩ | ⟨x, l, c, zs, hcs, _, hl, hm, hz, _, hcell, hwz⟩
  · simp at hcs
    subst hcs
    exact ⟨none, 0, 0, [], rfl, ⟨Sees.nil _ _ _, rfl, Nat.le_refl _, Nat.zero_le _⟩⟩
  · simp at hcs
    subst hcs
    rw [hsp, if_pos rfl] at hz
    obtain ⟨l', hl'⟩ := argB_of hl hm hz hcell hwz
    exact ⟨_, _, _, l', rfl, hl'⟩

set_option maxRecDepth 100000 in
theorem open_rows {H : Type} {enc : TypeId × Value → H} {W : World} {r : Reach} {base base' : Nat} {spare : Nat → Bool} (hsp : ∀ b, spare b = true) {held : Bool} {v : Value} {d : DataW H} {p : List MemPlace} (hv : Value.okWide Try.prog W r base 40 v)
    (h : DataW.Trod enc Try.prog W base' spare held 40 v d p) : ∃ A n c vs ls, v = .slice A n c ∧ ArgBB W A n c vs ls := by
  obtain ⟨A, len, cap, rfl⟩ := okWide_slice Try.underlying40 hv
  obtain ⟨fuel, hf⟩ := h
  rcases open_slice1 Try.underlying40 (by kernel_rfl) hf with ⟨hcs, _⟩ | ⟨a, len', cap', m, n, V, D, Pl, hcs, _, hl, hm, hmm, _, hel⟩
  · simp [Value.cells] at hcs
    obtain ⟨rfl, rfl, rfl⟩ := hcs
    exact ⟨none, 0, 0, [], [], rfl, ⟨Sees.nil _ _ _, rfl, rfl, Nat.le_refl _, Nat.zero_le _, fun i u l h => by simp at h⟩⟩
  · simp [Value.cells] at hcs
    obtain ⟨rfl, rfl, rfl⟩ := hcs
    rw [hsp, if_pos rfl] at hmm
    subst hmm
    have hrow : ∀ i : Nat, ∃ l : List UInt8, i < m → ∃ Ai ni ci, V i = .slice Ai ni ci ∧ ArgB W Ai ni ci l := by
      intro i
      by_cases hi : i < m
      · obtain ⟨Ai, ni, ci, l, e, hb⟩ := bytes_of_trod hsp (hel i hi).2
        exact ⟨l, fun _ => ⟨Ai, ni, ci, e, hb⟩⟩
      · exact ⟨[], fun h => absurd h hi⟩
    refine ⟨_, len, m, (List.range len).map V, (List.range len).map (fun i => Classical.choose (hrow i)), rfl, ⟨?_, by simp, by simp, hl, hm, ?_⟩⟩
    · intro hne
      have h0 : 0 < len := by
        rcases Nat.eq_zero_or_pos len with h | h
        · rw [h] at hne; simp at hne
        · exact h
      have hc := (hel 0 (by omega)).1
      have hspot : a.spot = none := by simpa [Addr.add] using World.cell?_spot hc
      obtain ⟨b, o, s⟩ := a
      simp at hspot
      subst hspot
      refine ⟨b, o, rfl, World.block_lt_of_cell? W _ hc, fun j u hu => ?_⟩
      have hj : j < len := by have := (List.getElem?_eq_some_iff.1 hu).1; simpa using this
      have hcj := (hel j (by omega)).1
      rw [Addr.add_lit] at hcj
      rw [hcj]
      simpa [hj] using hu
    · intro i u l hu hl'
      have hi : i < len := by have := (List.getElem?_eq_some_iff.1 hu).1; simpa using this
      have e1 : V i = u := by simpa [hi] using hu
      have e2 : Classical.choose (hrow i) = l := by simpa [hi] using hl'
      subst e1 e2
      exact Classical.choose_spec (hrow i) (by omega)
end Go.Proofs.Ytppkimlalceleaa
