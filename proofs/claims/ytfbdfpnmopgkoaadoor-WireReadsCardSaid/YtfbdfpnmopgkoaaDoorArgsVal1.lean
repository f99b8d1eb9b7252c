/- An argument that is a Value, opened. -/
import Derived.Test.YtfbdfpnmopgkoaaDoorArgs
import Derived.Test.YtfbdfpnmopgkoaaDoorLawB
import Derived.Deep.Slices
import Derived.Lib.SmallJoins
namespace Go.Proofs.YtfbdfpnmopgkoaaDoor
open Go.ChangeShapes Go.WideShapes Go.ChangeAt Go.RowKit Go.Deep Go.Joins
set_option linter.unusedVariables false
set_option linter.unusedSimpArgs false

set_option maxRecDepth 100000 in
theorem bytes_of_trod1 {H : Type} {enc : TypeId × Value → H} {W : World} {base : Nat} {spare : Nat → Bool} (hsp : ∀ b, spare b = true) {held : Bool} {v : Value} {m : Nat} {y : DataW H × List MemPlace}
    (hf : DataW.trod enc Tryd.prog W base spare held m 22 [v] = some y) : ∃ A n c l, v = .slice A n c ∧ ArgB W A n c l := by
  rcases open_ints Tryd.underlying22 Tryd.underlying5 (by kernel_rfl) hf with ⟨hcs, _⟩ | ⟨x, l, c, zs, hcs, _, hl, hm, hz, _, hcell, hwz⟩
  · simp at hcs
    subst hcs
    exact ⟨none, 0, 0, [], rfl, ⟨Sees.nil _ _ _, rfl, Nat.le_refl _, Nat.zero_le _⟩⟩
  · simp at hcs
    subst hcs
    rw [hsp, if_pos rfl] at hz
    obtain ⟨l', hl'⟩ := argB_of hl hm hz hcell hwz
    exact ⟨_, _, _, l', rfl, hl'⟩
/-- The four cells of a Value. -/
theorem val_of {W : World} {k u s : Int} {A : Option Addr} {n c : Nat} {b : List UInt8} (w0 : (Lit.int .u8 k).wf = true) (w1 : (Lit.int .u64 u).wf = true) (w2 : (Lit.int .i64 s).wf = true) (h : ArgB W A n c b) :
    ∃ k' u' : Nat, k = (k' : Int) ∧ u = (u' : Int) ∧ ValIn W W.heap.size k' u' s A n c b := by
  obtain ⟨a1, a2⟩ := wf_u8 w0
  obtain ⟨b1, b2⟩ := wf_u64 w1
  obtain ⟨c1, c2⟩ := wf_i64 w2
  have hm := h.max
  unfold maxLen at hm
  exact ⟨k.toNat, u.toNat, by omega, by omega, by omega, by omega, c1, c2, h.sees, h.len, h.cap, hm⟩

set_option maxRecDepth 100000 in
theorem open_val {H : Type} {enc : TypeId × Value → H} {W : World} {r : Reach} {base base' : Nat} {spare : Nat → Bool} (hsp : ∀ b, spare b = true) {held : Bool} {v : Value} {d : DataW H} {p : List MemPlace} (hv : Value.okWide Tryd.prog W r base 40 v)
    (h : DataW.Trod enc Tryd.prog W base' spare held 40 v d p) : ∃ k u s A n c b, v = valV k u s A n c ∧ ValIn W W.heap.size k u s A n c b := by
  obtain ⟨v0, v1, v2, v3, y0, y1, y2, y3, n, rfl, _, _, h0, h1, h2, h3⟩ := open_agg4 Tryd.underlying40 (by kernel_rfl) (by kernel_rfl) hv h
  obtain ⟨k, e0, _, w0⟩ := DataW.trod_int Tryd.underlying5 h0
  obtain ⟨u, e1, _, w1⟩ := DataW.trod_int Tryd.underlying38 h1
  obtain ⟨s, e2, _, w2⟩ := DataW.trod_int Tryd.underlying2 h2
  obtain ⟨A, m, c, l, e3, w3⟩ := bytes_of_trod1 hsp h3
  simp at e0 e1 e2
  subst e0 e1 e2 e3
  obtain ⟨k', u', rfl, rfl, hV⟩ := val_of w0 w1 w2 w3
  exact ⟨k', u', s, A, m, c, l, rfl, hV⟩

end Go.Proofs.YtfbdfpnmopgkoaaDoor
