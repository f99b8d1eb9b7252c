/- The encoding of numbers, plain. -/
import Derived.Test.YtcnofhlgiffkjaaGreatDoorPb
namespace Go.Proofs.YtcnofhlgiffkjaaGreatDoor
open Go.RowKit
set_option linter.unusedVariables false
set_option linter.unusedSimpArgs false

/-- The groups of seven bits above the lowest, the lowest first, each marked. -/
def low (v : Nat) : List UInt8 := if h : v = 0 then [] else UInt8.ofNat (v % 128 + 128) :: low (v / 128)
termination_by v
decreasing_by omega
theorem low_zero : low 0 = [] := by rw [low]; simp
theorem low_pos {v : Nat} (h : v ≠ 0) : low v = UInt8.ofNat (v % 128 + 128) :: low (v / 128) := by rw [low]; simp [h]
/-- The encoding of a number, the lowest group first. -/
def encR (v : Nat) : List UInt8 := UInt8.ofNat (v % 128) :: low (v / 128)
/-- The encoding of a number. -/
def enc (v : Nat) : List UInt8 := (encR v).reverse
theorem low_len (v : Nat) : ∀ k, v < 128 ^ k → (low v).length ≤ k := by
  intro k
  induction k generalizing v with
  | zero => intro h; obtain rfl : v = 0 := by simpa using h
            rw [low_zero]; exact Nat.le_refl _
  | succ k ih =>
    intro h
    by_cases h0 : v = 0
    · subst h0; rw [low_zero]; exact Nat.zero_le _
    · rw [low_pos h0, List.length_cons]
      have := ih (v / 128) (by rw [Nat.pow_succ] at h; omega)
      omega
theorem enc_len {v : Nat} (h : v < 18446744073709551616) : (enc v).length ≤ 10 := by
  unfold enc encR
  rw [List.length_reverse, List.length_cons]
  have := low_len (v / 128) 9 (by omega)
  omega
theorem enc_pos (v : Nat) : 0 < (enc v).length := by unfold enc encR; simp

/-- The number at the front, and how many bytes it has. -/
def numGo (v k : Nat) : List UInt8 → Nat × Nat
  | [] => (0, 0)
  | b :: l => if (k = 0 ∧ b = 128) ∨ 144115188075855871 < v then (0, 0) else if b < 128 then (128 * v + b.toNat % 128, k + 1) else numGo (128 * v + b.toNat % 128) (k + 1) l
def num (l : List UInt8) : Nat × Nat := numGo 0 0 l

theorem mark_toNat (u : Nat) : (UInt8.ofNat (u % 128 + 128)).toNat = u % 128 + 128 := by
  rw [UInt8.toNat_ofNat']; omega
theorem unmark_toNat (u : Nat) : (UInt8.ofNat (u % 128)).toNat = u % 128 := by
  rw [UInt8.toNat_ofNat']; omega
theorem num_low (u : Nat) (h0 : u ≠ 0) (h : u < 144115188075855872) (l : List UInt8) : numGo 0 0 ((low u).reverse ++ l) = numGo u (low u).length l := by
  induction u using Nat.strongRecOn generalizing l with
  | ind u ih =>
    have e := mark_toNat u
    have hb : ¬ UInt8.ofNat (u % 128 + 128) < 128 := by
      rw [UInt8.lt_iff_toNat_lt, e]
      simp
    rw [low_pos h0, List.reverse_cons, List.append_assoc, List.singleton_append, List.length_cons]
    by_cases h1 : u / 128 = 0
    · rw [h1, low_zero]
      have hne : ¬ UInt8.ofNat (u % 128 + 128) = 128 := by
        intro e'
        rw [e'] at e
        simp at e
        omega
      rw [List.reverse_nil, List.nil_append, numGo, if_neg (by rintro (⟨_, h⟩ | h) <;> first | exact hne h | omega), if_neg hb, e]
      congr 1
      omega
    · rw [ih (u / 128) (by omega) h1 (by omega), numGo]
      have hl : (low (u / 128)).length ≠ 0 := by rw [low_pos h1]; simp
      rw [if_neg (by omega), if_neg hb, e]
      congr 1
      omega
/-- What was written is read. -/
theorem num_enc {V : Nat} (h : V < 18446744073709551616) (l : List UInt8) : num (enc V ++ l) = (V, (enc V).length) := by
  unfold num enc encR
  rw [List.reverse_cons, List.append_assoc, List.singleton_append, List.length_append, List.length_reverse]
  have e := unmark_toNat V
  have hb : UInt8.ofNat (V % 128) < 128 := by
    rw [UInt8.lt_iff_toNat_lt, e]
    simp
    omega
  have hne : ¬ UInt8.ofNat (V % 128) = 128 := by
    intro e'
    rw [e'] at e
    simp at e
    omega
  by_cases h1 : V / 128 = 0
  · rw [h1, low_zero]
    rw [List.reverse_nil, List.nil_append, numGo, if_neg (by rintro (⟨_, h⟩ | h) <;> first | exact hne h | omega), if_pos hb, e]
    simp
    omega
  · rw [num_low _ h1 (by omega), numGo]
    have hl : (low (V / 128)).length ≠ 0 := by rw [low_pos h1]; simp
    rw [if_neg (by omega), if_pos hb, e]
    simp
    omega
/-- A number that is read ends in the bytes, and is below 2^64. -/
theorem numGo_le (l : List UInt8) (v k : Nat) : (numGo v k l).1 < 18446744073709551616 ∧ (numGo v k l).2 ≤ k + l.length := by
  induction l generalizing v k with
  | nil => simp [numGo]
  | cons b l ih =>
    rw [numGo]
    by_cases h : (k = 0 ∧ b = 128) ∨ 144115188075855871 < v
    · rw [if_pos h]; simp
    · rw [if_neg h]
      by_cases h2 : b < 128
      · rw [if_pos h2, List.length_cons]
        constructor
        · show 128 * v + b.toNat % 128 < _; omega
        · show k + 1 ≤ _; omega
      · rw [if_neg h2, List.length_cons]
        have := ih (128 * v + b.toNat % 128) (k + 1)
        omega
theorem num_le (l : List UInt8) : (num l).1 < 18446744073709551616 ∧ (num l).2 ≤ l.length := by
  have := numGo_le l 0 0
  rw [Nat.zero_add] at this
  exact this
end Go.Proofs.YtcnofhlgiffkjaaGreatDoor
