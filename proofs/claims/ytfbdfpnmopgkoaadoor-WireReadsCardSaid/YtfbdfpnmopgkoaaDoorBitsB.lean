/- Bits put into a set; results that are sets. -/
import Derived.Test.YtfbdfpnmopgkoaaDoorBitsA
import Derived.Test.YtfbdfpnmopgkoaaDoorMake
namespace Go.Proofs.YtfbdfpnmopgkoaaDoor
open Go.RowKit
set_option linter.unusedVariables false
set_option linter.unusedSimpArgs false

theorem or_lt_iff {M i k : Nat} : M ||| 1 <<< i < 2 ^ k ↔ M < 2 ^ k ∧ i < k := by
  constructor
  · intro h
    refine ⟨Nat.lt_of_le_of_lt Nat.left_le_or h, ?_⟩
    have h1 : 1 <<< i < 2 ^ k := Nat.lt_of_le_of_lt Nat.right_le_or h
    rw [Nat.shiftLeft_eq, Nat.one_mul] at h1
    exact (Nat.pow_lt_pow_iff_right (by omega)).1 h1
  · rintro ⟨h1, h2⟩
    refine Nat.or_lt_two_pow h1 ?_
    rw [Nat.shiftLeft_eq, Nat.one_mul]
    exact (Nat.pow_lt_pow_iff_right (by omega)).2 h2
theorem or_len (M i : Nat) : len2 64 (M ||| 1 <<< i) = max (len2 64 M) (i / 64 + 1) := by
  have key : ∀ k, len2 64 (M ||| 1 <<< i) ≤ k ↔ max (len2 64 M) (i / 64 + 1) ≤ k := by
    intro k
    rw [len2_le (by omega), or_lt_iff, ← len2_le (by omega)]
    omega
  exact Nat.le_antisymm ((key _).2 (Nat.le_refl _)) ((key _).1 (Nat.le_refl _))
theorem or_same {M i : Nat} (h : M.testBit i = true) : M ||| 1 <<< i = M := by
  apply Nat.eq_of_testBit_eq
  intro j
  rw [Nat.testBit_or, Nat.shiftLeft_eq, Nat.one_mul, Nat.testBit_two_pow]
  by_cases e : i = j
  · subst e; simp [h]
  · simp [e]

/-- The words of a set with a further member. -/
theorem fx_bit (n M i : Nat) : fx 64 n (M ||| 1 <<< i) = (fx 64 n M).set (i / 64) (M / 2 ^ (64 * (i / 64)) % 2 ^ 64 ||| 1 <<< (i % 64)) :=
  fx_put (t := 64) (X := 1) (u := 1) (by omega) (by omega) (by omega)

/-- A block of words is a set, if there are as many as the set has. -/
theorem SetAt.blk {w : World} {g n M : Nat} (h : Blk w g 38 ((fx 64 n M).map wv).toArray) (hn : len2 64 M = n) (h64 : n ≤ 64) : SetAt w w.heap.size (.agg #[.slice (some ⟨g, 0, none⟩) n n]) M := by
  refine ⟨_, n, n, rfl, Nat.le_refl _, h64, hn, ?_, fun b o e _ => ?_⟩
  · unfold dg; rw [hn]; exact h.sees
  · injection e with e
    injection e with e
    subst e
    exact ⟨_, h⟩

/-- A result that is a set, read from its cell. -/
theorem ret_set {fn : Func} {R : Ending → World → Prop} {a : Act} {w : World} {p : Tmp} (h : fn.results = #[.cell p 48]) (g : Nat) (u : Value) (hp : a.tmps.getD p undef = .pointer (some ⟨g, 0, none⟩))
    (hb : Blk w g 48 #[u]) (hd : a.defers = []) (hR : R (.returned (.agg #[u])) w) : bodyPost Tryd.prog fn R .ret a w :=
  bodyPost_ret (results_cell_row h _ w g _ _ _ _ hp hb Tryd.underlying48 rfl (by kernel_rfl)) hd hR

theorem bit_u64 {k : Nat} (h : k < 64) : ∃ p : Nat, Hid (p = 1 <<< k) ∧ p < 18446744073709551616 ∧ IntKind.u64.wrap ((2 : Int) ^ k) = (p : Int) := by
  have h1 : 2 ^ k < 2 ^ 64 := Nat.pow_lt_pow_right (by omega) h
  refine ⟨2 ^ k, Lib.hid (by rw [Nat.shiftLeft_eq, Nat.one_mul]), by omega, ?_⟩
  generalize hp : 2 ^ k = p at h1
  have e : (2 : Int) ^ k = (p : Int) := by rw [← hp]; simp
  rw [e, IntKind.wrap_u64]
  omega

end Go.Proofs.YtfbdfpnmopgkoaaDoor
