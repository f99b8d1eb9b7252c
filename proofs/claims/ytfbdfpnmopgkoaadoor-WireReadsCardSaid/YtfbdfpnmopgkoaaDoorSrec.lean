/- The record of a set. -/
import Derived.Test.YtfbdfpnmopgkoaaDoorWireF
namespace Go.Proofs.YtfbdfpnmopgkoaaDoor
open Go.RowKit
set_option linter.unusedVariables false
set_option linter.unusedSimpArgs false

/-- The record of a set. -/
def srec (M : Nat) : List UInt8 := enc (sbytes M).length ++ sbytes M
theorem sbytes_le {M : Nat} (h : len2 64 M ≤ 64) : (sbytes M).length ≤ 512 := by
  rw [sbytes_length]
  have := len2_8_64 M
  omega
theorem srec_len {M : Nat} (h : len2 64 M ≤ 64) : (srec M).length ≤ 522 := by
  unfold srec
  rw [List.length_append]
  have h1 := sbytes_le h
  have h2 := enc_len (v := (sbytes M).length) (by omega)
  omega
/-- What was written is read. -/
theorem rdS_rec {M : Nat} {most : Int} (h : len2 64 M ≤ 64) (hm : M ≠ 0 → ((M.log2 : Nat) : Int) ≤ most) (l : List UInt8) : rdS most (srec M ++ l) = (M, l, 0) := by
  have h1 := sbytes_le h
  have hB : rdB 512 (srec M ++ l) = (sbytes M, l, 0) := by
    unfold rdB srec
    rw [List.append_assoc, num_enc (by omega), if_neg (by omega), if_neg (by have := enc_pos (sbytes M).length; show ¬ (enc (sbytes M).length).length = 0; omega)]
    rw [if_neg (by show ¬ (512 : Int) < ((sbytes M).length : Nat); omega), if_neg (by simp), List.drop_left' rfl, List.take_left' rfl, List.drop_left' rfl]
  have hc : canon (sbytes M) = true := by
    unfold canon
    rw [decide_eq_true h1]
    have := sbytes_last M
    simpa using this
  unfold rdS
  rw [hB, if_neg (by simp), if_neg (by rw [hc]; simp), bval_sbytes, if_neg (by rintro ⟨h1, h2⟩; have := hm h1; omega)]
theorem log2_le {M : Nat} (h : len2 64 M ≤ 64) (hM : M ≠ 0) : M.log2 ≤ 4095 := by
  rw [len2_pos hM] at h
  omega
end Go.Proofs.YtfbdfpnmopgkoaaDoor
