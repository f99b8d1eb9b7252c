/- An argument that is a slice of slices of uint16, opened. -/
import Derived.Test.YtppkimlalceleaaArgs
import Derived.Deep.Slices
namespace Go.Proofs.Ytppkimlalceleaa
open Go.ChangeShapes Go.WideShapes Go.ChangeAt Go.RowKit Go.Deep
set_option linter.unusedVariables false
set_option linter.unusedSimpArgs false

/-- A uint16 as a value. -/
def hv (z : Nat) : Value := .int .u16 (z : Int)
/-- What a walk is told of a slice of uint16 that came in. -/
structure ArgU (w : World) (A : Option Addr) (n c : Nat) (l : List Nat) : Prop where
  sees : Sees w w.heap.size A (l.map hv)
  len : l.length = n
  cap : n ≤ c
  max : c ≤ maxLen
  lt : ∀ z ∈ l, z < 65536
/-- What a walk is told of a slice of such slices that came in. -/
structure ArgUU (w : World) (A : Option Addr) (n c : Nat) (vs : List Value) (ls : List (List Nat)) : Prop where
  sees : Sees w w.heap.size A vs
  len : vs.length = n
  len' : ls.length = n
  cap : n ≤ c
  max : c ≤ maxLen
  row : ∀ (i : Nat) (u : Value) (l : List Nat), vs[i]? = some u → ls[i]? = some l → ∃ Ai ni ci, u = .slice Ai ni ci ∧ ArgU w Ai ni ci l

theorem argU_of {w : World} {x : Addr} {len cap : Nat} {zs : List Int} (hl : len ≤ cap) (hm : cap ≤ maxLen) (hz : zs.length = cap) (hcell : ∀ i, i < zs.length → w.cell? (x.add i) = some (.int .u16 (zs.getD i 0)))
    (hwz : ∀ n ∈ zs, (Lit.int .u16 n).wf = true) : ∃ l, ArgU w (some x) len cap l := by
  have hbv : ∀ z ∈ zs, hv z.toNat = .int .u16 z := by
    intro z hz
    obtain ⟨h1, h2⟩ := wf_u16 (hwz z hz)
    unfold hv
    congr 1
    omega
  have hmap : ((zs.take len).map fun z => z.toNat).map hv = (zs.take len).map (Value.int .u16) := by
    rw [List.map_map]
    apply List.map_congr_left
    intro z hz'
    exact hbv z (List.mem_of_mem_take hz')
  refine ⟨(zs.take len).map fun z => z.toNat, ?_, by simp; omega, hl, hm, fun z hz => ?_⟩
  · rw [hmap]
    intro hne
    have h0 : 0 < zs.length := by
      rcases Nat.eq_zero_or_pos zs.length with h | h
      · rw [List.length_eq_zero_iff.1 h] at hne; simp at hne
      · exact h
    have hc := hcell 0 h0
    have hspot : x.spot = none := by simpa [Addr.add] using World.cell?_spot hc
    obtain ⟨b, o, s⟩ := x
    simp at hspot
    subst hspot
    refine ⟨b, o, rfl, World.block_lt_of_cell? w _ hc, fun j u hu => ?_⟩
    have hj : j < zs.length := by
      have := (List.getElem?_eq_some_iff.1 hu).1
      simp at this; omega
    have := hcell j hj
    rw [Addr.add_lit] at this
    rw [this]
    rw [List.getElem?_map, List.getElem?_take] at hu
    split at hu
    · simp [List.getElem?_eq_getElem hj] at hu
      rw [← hu]; simp [List.getD, List.getElem?_eq_getElem hj]
    · simp at hu
  · obtain ⟨y, hy, rfl⟩ := List.mem_map.1 hz
    have := wf_u16 (hwz y (List.mem_of_mem_take hy))
    omega

set_option maxRecDepth 100000 in
theorem nums_of_trod {H : Type} {enc : TypeId × Value → H} {W : World} {base : Nat} {spare : Nat → Bool} (hsp : ∀ b, spare b = true) {held : Bool} {v : Value} {m : Nat} {y : DataW H × List MemPlace}
    (hf : DataW.trod enc Try.prog W base spare held m 59 [v] = some y) : ∃ A n c l, v = .slice A n c ∧ ArgU W A n c l := by
  rcases open_ints Try.underlying59 Try.underlying31 (by kernel_rfl) hf with ⟨hcs, _⟩ | ⟨x, l, c, zs, hcs, _, hl, hm, hz, _, hcell, hwz⟩
  · simp at hcs
    subst hcs
    exact ⟨none, 0, 0, [], rfl, ⟨Sees.nil _ _ _, rfl, Nat.le_refl _, Nat.zero_le _, fun z h => by simp at h⟩⟩
  · simp at hcs
    subst hcs
    rw [hsp, if_pos rfl] at hz
    obtain ⟨l', hl'⟩ := argU_of hl hm hz hcell hwz
    exact ⟨_, _, _, l', rfl, hl'⟩

set_option maxRecDepth 100000 in
theorem open_nums {H : Type} {enc : TypeId × Value → H} {W : World} {r : Reach} {base base' : Nat} {spare : Nat → Bool} (hsp : ∀ b, spare b = true) {held : Bool} {v : Value} {d : DataW H} {p : List MemPlace} (hv : Value.okWide Try.prog W r base 57 v)
    (h : DataW.Trod enc Try.prog W base' spare held 57 v d p) : ∃ A n c vs ls, v = .slice A n c ∧ ArgUU W A n c vs ls := by
  obtain ⟨A, len, cap, rfl⟩ := okWide_slice Try.underlying57 hv
  obtain ⟨fuel, hf⟩ := h
  rcases open_slice1 Try.underlying57 (by kernel_rfl) hf with ⟨hcs, _⟩ | ⟨a, len', cap', m, n, V, D, Pl, hcs, _, hl, hm, hmm, _, hel⟩
  · simp [Value.cells] at hcs
    obtain ⟨rfl, rfl, rfl⟩ := hcs
    exact ⟨none, 0, 0, [], [], rfl, ⟨Sees.nil _ _ _, rfl, rfl, Nat.le_refl _, Nat.zero_le _, fun i u l h => by simp at h⟩⟩
  · simp [Value.cells] at hcs
    obtain ⟨rfl, rfl, rfl⟩ := hcs
    rw [hsp, if_pos rfl] at hmm
    subst hmm
    have hrow : ∀ i : Nat, ∃ l : List Nat, i < m → ∃ Ai ni ci, V i = .slice Ai ni ci ∧ ArgU W Ai ni ci l := by
      intro i
      by_cases hi : i < m
      · obtain ⟨Ai, ni, ci, l, e, hb⟩ := nums_of_trod hsp (hel i hi).2
        exact ⟨l, fun _ => ⟨Ai, ni, ci, e, hb⟩⟩
      · exact ⟨[], fun h => absurd h hi⟩
    refine ⟨_, len, m, (List.range len).map V, (List.range len).map (fun i => Classical.choose (hrow i)), rfl, ⟨?_, by simp, by simp, hl, hm, ?_⟩⟩
    · intro hne
      have h0 : 0 < len := by
        rcases Nat.eq_zero_or_pos len with h | h
        · rw [h] at hne; simp at hne
        · exact h
      have hc := (hel 0 (by omega)).1
      have hspot : a.spot = none := by simpa [Addr.add] using World.cell?_spot hc
      obtain ⟨b, o, s⟩ := a
      simp at hspot
      subst hspot
      refine ⟨b, o, rfl, World.block_lt_of_cell? W _ hc, fun j u hu => ?_⟩
      have hj : j < len := by have := (List.getElem?_eq_some_iff.1 hu).1; simpa using this
      have hcj := (hel j (by omega)).1
      rw [Addr.add_lit] at hcj
      rw [hcj]
      simpa [hj] using hu
    · intro i u l hu hl'
      have hi : i < len := by have := (List.getElem?_eq_some_iff.1 hu).1; simpa using this
      have e1 : V i = u := by simpa [hi] using hu
      have e2 : Classical.choose (hrow i) = l := by simpa [hi] using hl'
      subst e1 e2
      exact Classical.choose_spec (hrow i) (by omega)
end Go.Proofs.Ytppkimlalceleaa
