/- Arguments that are Values, opened: one, and a slice of them. -/
import Derived.Test.YtfbdfpnmopgkoaaArgs
import Derived.Test.YtfbdfpnmopgkoaaLawB
import Derived.Deep.Slices
import Derived.Lib.SmallJoins
namespace Go.Proofs.Ytfbdfpnmopgkoaa
open Go.ChangeShapes Go.WideShapes Go.ChangeAt Go.RowKit Go.Deep Go.Joins
set_option linter.unusedVariables false
set_option linter.unusedSimpArgs false

set_option maxRecDepth 100000 in
theorem bytes_of_trod1 {H : Type} {enc : TypeId × Value → H} {W : World} {base : Nat} {spare : Nat → Bool} (hsp : ∀ b, spare b = true) {held : Bool} {v : Value} {m : Nat} {y : DataW H × List MemPlace}
    (hf : DataW.trod enc Try.prog W base spare held m 27 [v] = some y) : ∃ A n c l, v = .slice A n c ∧ ArgB W A n c l := by
  rcases open_ints Try.underlying27 Try.underlying5 (by kernel_rfl) hf with ⟨hcs, _⟩ | ⟨x, l, c, zs, hcs, _, hl, hm, hz, _, hcell, hwz⟩
  · simp at hcs
    subst hcs
    exact ⟨none, 0, 0, [], rfl, ⟨Sees.nil _ _ _, rfl, Nat.le_refl _, Nat.zero_le _⟩⟩
  · simp at hcs
    subst hcs
    rw [hsp, if_pos rfl] at hz
    obtain ⟨l', hl'⟩ := argB_of hl hm hz hcell hwz
    exact ⟨_, _, _, l', rfl, hl'⟩
/-- The four cells of a Value. -/
theorem val_of {W : World} {k u s : Int} {A : Option Addr} {n c : Nat} {b : List UInt8} (w0 : (Lit.int .u8 k).wf = true) (w1 : (Lit.int .u64 u).wf = true) (w2 : (Lit.int .i64 s).wf = true) (h : ArgB W A n c b) :
    ∃ k' u' : Nat, k = (k' : Int) ∧ u = (u' : Int) ∧ ValIn W W.heap.size k' u' s A n c b := by
  obtain ⟨a1, a2⟩ := wf_u8 w0
  obtain ⟨b1, b2⟩ := wf_u64 w1
  obtain ⟨c1, c2⟩ := wf_i64 w2
  have hm := h.max
  unfold maxLen at hm
  exact ⟨k.toNat, u.toNat, by omega, by omega, by omega, by omega, c1, c2, h.sees, h.len, h.cap, hm⟩

set_option maxRecDepth 100000 in
theorem open_val {H : Type} {enc : TypeId × Value → H} {W : World} {r : Reach} {base base' : Nat} {spare : Nat → Bool} (hsp : ∀ b, spare b = true) {held : Bool} {v : Value} {d : DataW H} {p : List MemPlace} (hv : Value.okWide Try.prog W r base 41 v)
    (h : DataW.Trod enc Try.prog W base' spare held 41 v d p) : ∃ k u s A n c b, v = valV k u s A n c ∧ ValIn W W.heap.size k u s A n c b := by
  obtain ⟨v0, v1, v2, v3, y0, y1, y2, y3, n, rfl, _, _, h0, h1, h2, h3⟩ := open_agg4 Try.underlying41 (by kernel_rfl) (by kernel_rfl) hv h
  obtain ⟨k, e0, _, w0⟩ := DataW.trod_int Try.underlying5 h0
  obtain ⟨u, e1, _, w1⟩ := DataW.trod_int Try.underlying22 h1
  obtain ⟨s, e2, _, w2⟩ := DataW.trod_int Try.underlying2 h2
  obtain ⟨A, m, c, l, e3, w3⟩ := bytes_of_trod1 hsp h3
  simp at e0 e1 e2
  subst e0 e1 e2 e3
  obtain ⟨k', u', rfl, rfl, hV⟩ := val_of w0 w1 w2 w3
  exact ⟨k', u', s, A, m, c, l, rfl, hV⟩

/-- A Value. -/
structure Val where
  k : Nat
  u : Nat
  s : Int
  A : Option Addr
  n : Nat
  c : Nat
  b : List UInt8
/-- What a walk is told of a slice of Values that came in. -/
structure ArgVs (w : World) (A : Option Addr) (n c : Nat) (xs : List Val) : Prop where
  len : xs.length = n
  cap : n ≤ c
  max : c ≤ maxLen
  row : ∀ (i : Nat) (x : Val), xs[i]? = some x → ∃ b o, A = some ⟨b, o, none⟩ ∧ b < w.heap.size ∧ w.cell? ⟨b, o + i * 4, none⟩ = some (.int .u8 (x.k : Int)) ∧ w.cell? ⟨b, o + i * 4 + 1, none⟩ = some (.int .u64 (x.u : Int)) ∧
    w.cell? ⟨b, o + i * 4 + 2, none⟩ = some (.int .i64 x.s) ∧ w.cell? ⟨b, o + i * 4 + 3, none⟩ = some (.slice x.A x.n x.c) ∧ ValIn w w.heap.size x.k x.u x.s x.A x.n x.c x.b

set_option maxRecDepth 100000 in
theorem open_vals {H : Type} {enc : TypeId × Value → H} {W : World} {r : Reach} {base base' : Nat} {spare : Nat → Bool} (hsp : ∀ b, spare b = true) {held : Bool} {v : Value} {d : DataW H} {p : List MemPlace} (hv : Value.okWide Try.prog W r base 38 v)
    (h : DataW.Trod enc Try.prog W base' spare held 38 v d p) : ∃ A n c xs, v = .slice A n c ∧ ArgVs W A n c xs := by
  obtain ⟨A, len, cap, rfl⟩ := okWide_slice Try.underlying38 hv
  obtain ⟨fuel, hf⟩ := h
  rcases open_slice Try.underlying38 hf with ⟨hcs, _⟩ | ⟨a, len', cap', m, n, D, Pl, hcs, _, hl, hm, hmm, _, hel⟩
  · simp [Value.cells] at hcs
    obtain ⟨rfl, rfl, rfl⟩ := hcs
    exact ⟨none, 0, 0, [], rfl, ⟨rfl, Nat.le_refl _, Nat.zero_le _, fun i x h => by simp at h⟩⟩
  · simp [Value.cells] at hcs
    obtain ⟨rfl, rfl, rfl⟩ := hcs
    rw [hsp, if_pos rfl] at hmm
    subst hmm
    have c4 : Try.prog.cellsOf 41 = 4 := by kernel_rfl
    have hrow : ∀ i : Nat, ∃ x : Val, i < m → ∃ b o, a = ⟨b, o, none⟩ ∧ b < W.heap.size ∧ W.cell? ⟨b, o + i * 4, none⟩ = some (.int .u8 (x.k : Int)) ∧ W.cell? ⟨b, o + i * 4 + 1, none⟩ = some (.int .u64 (x.u : Int)) ∧
        W.cell? ⟨b, o + i * 4 + 2, none⟩ = some (.int .i64 x.s) ∧ W.cell? ⟨b, o + i * 4 + 3, none⟩ = some (.slice x.A x.n x.c) ∧ ValIn W W.heap.size x.k x.u x.s x.A x.n x.c x.b := by
      intro i
      by_cases hi : i < m
      · obtain ⟨cs', h1, h2⟩ := hel i hi
        rw [c4] at h1
        obtain ⟨_, hlen, hcell⟩ := World.cells?_some h1
        obtain ⟨y0, y1, y2, y3, n', _, _, f0, f1, f2, f3⟩ := trod_struct4 Try.underlying41 h2
        match cs', hlen with
        | [v0, v1, v2, v3], _ =>
          have q0 : Try.prog.cellsOf 5 = 1 := by kernel_rfl
          have q1 : Try.prog.cellsOf 22 = 1 := by kernel_rfl
          have q2 : Try.prog.cellsOf 2 = 1 := by kernel_rfl
          have q3 : Try.prog.cellsOf 27 = 1 := by kernel_rfl
          simp [q0] at f0
          simp [q1] at f1
          simp [q2] at f2
          simp [q3] at f3
          have e0 := hcell 0 (by omega)
          have e1 := hcell 1 (by omega)
          have e2 := hcell 2 (by omega)
          have e3 := hcell 3 (by omega)
          rw [add_add] at e0 e1 e2 e3
          simp at e0 e1 e2 e3
          obtain ⟨k, g0, _, w0⟩ := DataW.trod_int Try.underlying5 f0
          obtain ⟨u, g1, _, w1⟩ := DataW.trod_int Try.underlying22 f1
          obtain ⟨s, g2, _, w2⟩ := DataW.trod_int Try.underlying2 f2
          obtain ⟨A, nn, c, l, g3, w3⟩ := bytes_of_trod1 hsp f3
          simp at g0 g1 g2
          subst g0 g1 g2 g3
          obtain ⟨k', u', rfl, rfl, hV⟩ := val_of w0 w1 w2 w3
          have hspot : a.spot = none := by
            obtain ⟨cs0, h10, _⟩ := hel 0 (by omega)
            rw [c4] at h10
            obtain ⟨_, hlen0, hcell0⟩ := World.cells?_some h10
            have e00 := hcell0 0 (by omega)
            obtain ⟨z0, hz0⟩ : ∃ z0, cs0[0]? = some z0 := ⟨_, List.getElem?_eq_getElem (by omega)⟩
            rw [hz0] at e00
            simpa [Addr.add] using World.cell?_spot e00
          obtain ⟨b, o, sp⟩ := a
          simp at hspot
          subst hspot
          rw [Addr.add_lit] at e0 e1 e2 e3
          exact ⟨⟨k', u', s, A, nn, c, l⟩, fun _ => ⟨b, o, rfl, World.block_lt_of_cell? W _ e0, e0, by rw [Nat.add_assoc]; exact e1, by rw [Nat.add_assoc]; exact e2, by rw [Nat.add_assoc]; exact e3, hV⟩⟩
      · exact ⟨⟨0, 0, 0, none, 0, 0, []⟩, fun h => absurd h hi⟩
    refine ⟨_, len, m, (List.range len).map (fun i => Classical.choose (hrow i)), rfl, ⟨by simp, hl, hm, ?_⟩⟩
    intro i x hx
    have hi : i < len := by have := (List.getElem?_eq_some_iff.1 hx).1; simpa using this
    have e2 : Classical.choose (hrow i) = x := by simpa [hi] using hx
    subst e2
    obtain ⟨b, o, ea, rest⟩ := Classical.choose_spec (hrow i) (by omega)
    exact ⟨b, o, by rw [ea], rest⟩
end Go.Proofs.Ytfbdfpnmopgkoaa
