/- math/bits.TrailingZeros64 over the laid table, and a bound on math/bits.OnesCount64: walks; the bits of a word, ascending: plain. -/
import Derived.Test.YtfbdfpnmopgkoaaDoorWords
import Derived.Laws.Bits64b
import Derived.Lib.TrailingZeros
namespace Go.Proofs.YtfbdfpnmopgkoaaDoor
open Go.RowKit
set_option linter.unusedVariables false
set_option linter.unusedSimpArgs false

/-- The members that a word stands for, ascending. -/
def memW (x : Nat) : List Nat := (List.range 64).filter x.testBit
theorem memW_zero : memW 0 = [] := by simp [memW]
theorem low_form {x : Nat} (h0 : x ≠ 0) (hx : x < 2 ^ 64) : ∃ m, x = 2 ^ Lib.ctz 64 x * (2 * m + 1) ∧ Lib.ctz 64 x < 64 := by
  have := Lib.ctzFrom_spec 64 x (by omega) hx
  unfold Lib.ctz
  rw [if_neg h0]
  exact this
theorem low_bits {x : Nat} (h0 : x ≠ 0) (hx : x < 2 ^ 64) (j : Nat) : x.testBit j = (decide (Lib.ctz 64 x ≤ j) && (x / 2 ^ Lib.ctz 64 x).testBit (j - Lib.ctz 64 x)) := by
  obtain ⟨m, hm, _⟩ := low_form h0 hx
  generalize Lib.ctz 64 x = k at hm ⊢
  subst hm
  rw [Nat.mul_comm, Nat.testBit_mul_two_pow, Nat.mul_div_cancel _ (Nat.two_pow_pos k)]
theorem clear_low {x : Nat} (h0 : x ≠ 0) (hx : x < 2 ^ 64) (j : Nat) : (x &&& (x - 1)).testBit j = (decide (Lib.ctz 64 x < j) && x.testBit j) := by
  obtain ⟨m, hm, _⟩ := low_form h0 hx
  generalize Lib.ctz 64 x = k at hm ⊢
  have e1 : x = 2 ^ k * (2 * m + 1) + 0 := by omega
  have e2 : x - 1 = 2 ^ k * (2 * m) + (2 ^ k - 1) := by
    have := Nat.two_pow_pos k
    have e3 : 2 ^ k * (2 * m + 1) = 2 ^ k * (2 * m) + 2 ^ k := by rw [Nat.mul_add, Nat.mul_one]
    omega
  rw [Nat.testBit_and, e2, e1, Nat.testBit_two_pow_mul_add _ (Nat.two_pow_pos k), Nat.testBit_two_pow_mul_add _ (by have := Nat.two_pow_pos k; omega)]
  by_cases hj : j < k
  · simp [hj, show ¬ k < j by omega]
  · rw [if_neg hj, if_neg hj]
    by_cases he : j = k
    · subst he
      simp [Nat.testBit_zero]
    · obtain ⟨i, rfl⟩ : ∃ i, j = k + (i + 1) := ⟨j - k - 1, by omega⟩
      rw [show k + (i + 1) - k = i + 1 by omega, Nat.testBit_succ, Nat.testBit_succ, show (2 * m + 1) / 2 = m by omega, show 2 * m / 2 = m by omega]
      simp
theorem low_top {x : Nat} (h0 : x ≠ 0) (hx : x < 2 ^ 64) : x.testBit (Lib.ctz 64 x) = true := by
  obtain ⟨m, hm, _⟩ := low_form h0 hx
  generalize Lib.ctz 64 x = k at hm ⊢
  subst hm
  rw [Nat.mul_comm, Nat.testBit_mul_two_pow]
  simp [Nat.testBit_zero]
theorem memW_cons {x : Nat} (h0 : x ≠ 0) (hx : x < 2 ^ 64) : memW x = Lib.ctz 64 x :: memW (x &&& (x - 1)) := by
  obtain ⟨_, _, hk⟩ := low_form h0 hx
  have ht := low_top h0 hx
  have hl := fun j => low_bits h0 hx j
  have hc := fun j => clear_low h0 hx j
  generalize hkk : Lib.ctz 64 x = k at *
  have e : List.range 64 = List.range k ++ k :: (List.range (63 - k)).map (fun i => k + 1 + i) := by
    have := List.range_add (n := k) (m := 64 - k)
    rw [show k + (64 - k) = 64 by omega] at this
    rw [this, show 64 - k = (63 - k) + 1 by omega, List.range_succ_eq_map]
    simp [List.map_map, Function.comp_def, Nat.add_assoc, Nat.add_comm 1]
  unfold memW
  rw [e, List.filter_append, List.filter_append]
  have z1 : (List.range k).filter x.testBit = [] := by
    rw [List.filter_eq_nil_iff]
    intro j hj
    have hj := List.mem_range.1 hj
    rw [hl, show decide (k ≤ j) = false by simpa using hj]
    simp
  have z2 : (List.range k).filter (x &&& (x - 1)).testBit = [] := by
    rw [List.filter_eq_nil_iff]
    intro j hj
    have hj := List.mem_range.1 hj
    rw [hc, show decide (k < j) = false by simp; omega]
    simp
  rw [z1, z2, List.nil_append, List.nil_append, List.filter_cons_of_pos (by simpa using ht), List.filter_cons_of_neg (by rw [hc]; simp)]
  congr 1
  apply List.filter_congr
  intro j hj
  obtain ⟨i, _, rfl⟩ := List.mem_map.1 hj
  rw [hc, show decide (k < k + 1 + i) = true by simp; omega]
  simp
theorem clear_lt {x : Nat} (h0 : x ≠ 0) : x &&& (x - 1) < x := Nat.lt_of_le_of_lt Nat.and_le_right (by omega)

/-- The table lies as its initialiser lays it. -/
def Tab (w : World) : Prop := ∀ j, j < 64 → w.cell? ⟨0, j, none⟩ = some (.int .u8 (Lib.deBruijn64tab.getD j 0))
theorem Tab.below {w w' : World} {B : Nat} (h : Tab w) (hb : Below B w w') (hB : 0 < B) : Tab w' := fun j hj => (hb.cell (p := ⟨0, j, none⟩) hB).trans (h j hj)

theorem tz_key (x a : Nat) (hx : x < 18446744073709551616) (hx0 : x ≠ 0) (hlow : x &&& (18446744073709551616 - x) = a) :
    IntKind.u64.wrap (bits BinOp.and IntKind.u64 (x : Int) (IntKind.u64.wrap (-(x : Int))) * 285870213051353865) / 288230376151711744 = ((a * 285870213051353865 % 18446744073709551616 / 288230376151711744 : Nat) : Int) := by
  have e1 : IntKind.u64.wrap (-(x : Int)) = ((18446744073709551616 - x : Nat) : Int) := by rw [IntKind.wrap_u64]; omega
  rw [e1, bits_and_u64_nat x _ hx (by omega), hlow, IntKind.wrap_u64]
  omega
set_option maxHeartbeats 1000000 in
theorem tz_core (x k idx : Nat) (w : World) (hx0 : ((x : Int) == 0) = false)
    (key : IntKind.u64.wrap (bits BinOp.and IntKind.u64 (x : Int) (IntKind.u64.wrap (-(x : Int))) * 285870213051353865) / 288230376151711744 = (idx : Int))
    (hi : idx < 64) (hk : k < 64) (hcell : w.cell? ⟨0, idx, none⟩ = some (.int .u8 k)) :
    Calls Tryd.prog 72 #[.int .u64 x] w fun e w' => e = .returned (.int .i64 k) ∧ w = w' := by
  go_enter Tryd.func72, Tryd.ntmps72
  go_wp2_with (simp only [key])
  go_ret
  exact ⟨rfl, rfl⟩
/-- math/bits.TrailingZeros64, of a number that is not 0. -/
theorem tz_any (x : Nat) (hx : x < 18446744073709551616) (h0 : x ≠ 0) (w : World) (hT : Tab w) :
    Calls Tryd.prog 72 #[.int .u64 x] w fun e w' => e = .returned (.int .i64 (Lib.ctz 64 x)) ∧ w = w' := by
  obtain ⟨hlow, hk⟩ := Lib.lowest_bit 64 x h0 hx
  obtain ⟨hi, htab⟩ := Lib.deBruijn64_at _ hk
  have hcell := hT _ hi
  rw [htab] at hcell
  exact tz_core x _ _ w (by simp; omega) (tz_key x _ hx h0 hlow) hi hk hcell

theorem and127_i64 (z : Int) : ∃ c : Nat, bits .and .i64 z 127 = (c : Int) ∧ c ≤ 127 := by
  have h : (BitVec.ofInt 64 z &&& BitVec.ofInt 64 127).toNat ≤ 127 := by
    rw [BitVec.toNat_and]
    exact Nat.le_trans Nat.and_le_right (by decide)
  refine ⟨(BitVec.ofInt 64 z &&& BitVec.ofInt 64 127).toNat, ?_, h⟩
  show IntKind.i64.wrap ((BitVec.ofInt 64 z &&& BitVec.ofInt 64 127).toNat : Int) = _
  rw [IntKind.wrap_i64]
  omega
set_option maxHeartbeats 4000000 in
theorem ones_ex (x : Nat) : ∃ y : Int, ∀ w, Calls Tryd.prog 70 #[.int .u64 x] w fun e w' => e = .returned (.int .i64 (bits .and .i64 y 127)) ∧ w = w' := by
  apply Exists.intro
  intro w
  go_enter Tryd.func70, Tryd.ntmps70
  go_wp2_with fail
  go_ret
  exact ⟨rfl, rfl⟩
/-- math/bits.OnesCount64 answers a number up to 127. -/
theorem ones_any (x : Nat) : ∃ c : Nat, c ≤ 127 ∧ ∀ w, Calls Tryd.prog 70 #[.int .u64 x] w fun e w' => e = .returned (.int .i64 c) ∧ w = w' := by
  obtain ⟨y, h⟩ := ones_ex x
  obtain ⟨c, hc, hb⟩ := and127_i64 y
  rw [hc] at h
  exact ⟨c, hb, h⟩
end Go.Proofs.YtfbdfpnmopgkoaaDoor
