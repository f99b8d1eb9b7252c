/- What was written is read back; what is cut off is refused: plain. -/
import Derived.Test.YtfbdfpnmopgkoaaLawC
namespace Go.Proofs.Ytfbdfpnmopgkoaa
open Go.RowKit
set_option linter.unusedVariables false
set_option linter.unusedSimpArgs false

theorem rdB_app (b l : List UInt8) (hb : b.length ≤ 300) : rdB ((b.length : Nat) : Int) (enc b.length ++ (b ++ l)) = (b, l, 0) := by
  unfold rdB
  rw [num_enc (by omega), if_neg (by omega), if_neg (by have := enc_pos b.length; show ¬ (enc b.length).length = 0; omega), if_neg (by show ¬ ((b.length : Nat) : Int) < ((b.length : Nat) : Int); omega), if_neg (by simp), List.drop_left' rfl, List.take_left' rfl, List.drop_left' rfl]
theorem rdI_app {z : Int} (h1 : -9223372036854775808 ≤ z) (h2 : z ≤ 9223372036854775807) (l : List UInt8) : rdI z z (enc (zig z) ++ l) = (z, l, 0) := by
  unfold rdI
  rw [num_enc (zig_lt h1 h2), if_neg (by omega), if_neg (by have := enc_pos (zig z); show ¬ (enc (zig z)).length = 0; omega)]
  show (if zag (zig z) < z ∨ z < zag (zig z) then _ else _) = _
  rw [zag_zig, if_neg (by omega), List.drop_left' rfl]
/-- What was written is read back. -/
theorem bkV_back {k u : Nat} {s : Int} (b l : List UInt8) (hu : u < 18446744073709551616) (h1 : -9223372036854775808 ≤ s) (h2 : s ≤ 9223372036854775807) : bkV k u s b (encV k u s b ++ l) = (true, l, 0) := by
  have hbl : (b.take 300).length ≤ 300 := by rw [List.length_take]; omega
  unfold bkV encV
  by_cases e0 : k % 7 = 0
  · rw [if_pos e0, if_pos e0, rdU_enc hu, if_neg (by omega)]
    simp
  · rw [if_neg e0, if_neg e0]
    by_cases e1 : k % 7 = 1
    · rw [if_pos e1, if_pos e1, rdI_app h1 h2]
      simp
    · rw [if_neg e1, if_neg e1]
      by_cases e2 : k % 7 = 2 ∨ k % 7 = 3
      · rw [if_pos e2, if_pos e2, List.append_assoc, rdB_app _ _ hbl]
        simp
      · rw [if_neg e2, if_neg e2]
        by_cases e4 : k % 7 = 4
        · rw [if_pos e4, if_pos e4]
          unfold encF
          by_cases hp : u % 2 = 1
          · simp [hp, rdF]
          · simp [hp, rdF]
        · rw [if_neg e4, if_neg e4]
          by_cases e5 : k % 7 = 5
          · rw [if_pos e5, if_pos e5]
            unfold rdR
            rw [if_neg (by rw [List.length_append]; omega), List.take_left' rfl, List.drop_left' rfl]
            simp
          · rw [if_neg e5, if_neg e5, rdS_rec (mem64 _) (fun h => by have := log2_le (mem64 (b.take 300)) h; omega)]
            simp

theorem numGo_marked (l : List UInt8) : ∀ (v k : Nat), (∀ x ∈ l, ¬ x < 128) → (numGo v k l).2 = 0 := by
  induction l with
  | nil => intro v k _; rfl
  | cons b l ih =>
    intro v k h
    rw [numGo]
    split
    · rfl
    · rw [if_neg (h b (by simp))]
      exact ih _ _ (fun x hx => h x (by simp [hx]))
theorem low_marked (v : Nat) : ∀ x ∈ low v, ¬ x < 128 := by
  induction v using Nat.strongRecOn with
  | ind v ih =>
    intro x hx
    by_cases h0 : v = 0
    · subst h0; rw [low_zero] at hx; cases hx
    · rw [low_pos h0] at hx
      rcases List.mem_cons.1 hx with rfl | hx
      · rw [UInt8.lt_iff_toNat_lt, mark_toNat]; simp
      · exact ih (v / 128) (by omega) x hx
/-- A number that is cut off is none. -/
theorem num_cut {V n : Nat} (h : n < (enc V).length) : (num ((enc V).take n)).2 = 0 := by
  refine numGo_marked _ 0 0 (fun x hx => ?_)
  unfold enc encR at h hx
  rw [List.reverse_cons] at hx
  rw [List.length_reverse, List.length_cons] at h
  rw [List.take_append_of_le_length (by rw [List.length_reverse]; omega)] at hx
  exact low_marked _ x (List.mem_reverse.1 (List.mem_of_mem_take hx))
theorem cut_bytes {V n : Nat} {b : List UInt8} (hV : V < 18446744073709551616) (hb : V = b.length) (h : n < (enc V ++ b).length) (most : Int) (hm : (V : Int) ≤ most) : rdB most ((enc V ++ b).take n) = ([], (enc V ++ b).take n, 6) := by
  unfold rdB
  rw [if_neg (by omega)]
  rcases Nat.lt_or_ge n (enc V).length with hn | hn
  · rw [List.take_append_of_le_length (by omega), num_cut hn, if_pos rfl]
  · have e : (enc V ++ b).take n = enc V ++ b.take (n - (enc V).length) := by
      rw [List.take_append, List.take_of_length_le hn]
    rw [e, num_enc hV, if_neg (by have := enc_pos V; show ¬ (enc V).length = 0; omega), if_neg (by show ¬ most < (V : Int); omega), if_pos]
    show (enc V ++ b.take (n - (enc V).length)).length - (enc V).length < V
    rw [List.length_append] at h
    rw [List.length_append, List.length_take]
    omega
/-- What is cut off is refused, and nothing is taken. -/
theorem bkV_cut {k u n : Nat} {s : Int} (b : List UInt8) (hu : u < 18446744073709551616) (h1 : -9223372036854775808 ≤ s) (h2 : s ≤ 9223372036854775807) (hk : k % 7 ≠ 5) (hn : n < (encV k u s b).length) : (bkV k u s b ((encV k u s b).take n)).2 = ((encV k u s b).take n, 6) := by
  have hbl : (b.take 300).length ≤ 300 := by rw [List.length_take]; omega
  unfold bkV encV
  unfold encV at hn
  by_cases e0 : k % 7 = 0
  · rw [if_pos e0] at hn
    rw [if_pos e0, if_pos e0]
    unfold rdU
    rw [num_cut hn, if_pos rfl]
  · rw [if_neg e0] at hn
    rw [if_neg e0, if_neg e0]
    by_cases e1 : k % 7 = 1
    · rw [if_pos e1] at hn
      rw [if_pos e1, if_pos e1]
      unfold rdI
      rw [num_cut hn, if_neg (by omega), if_pos rfl]
    · rw [if_neg e1] at hn
      rw [if_neg e1, if_neg e1]
      by_cases e2 : k % 7 = 2 ∨ k % 7 = 3
      · rw [if_pos e2] at hn
        rw [if_pos e2, if_pos e2, cut_bytes (by omega) rfl hn _ (by omega)]
      · rw [if_neg e2] at hn
        rw [if_neg e2, if_neg e2]
        by_cases e4 : k % 7 = 4
        · rw [if_pos e4] at hn
          rw [if_pos e4, if_pos e4]
          obtain rfl : n = 0 := by unfold encF at hn; simp at hn; exact hn
          rfl
        · rw [if_neg e4, if_neg hk] at hn
          rw [if_neg e4, if_neg e4, if_neg hk, if_neg hk]
          have hB := cut_bytes (V := (sbytes (ofL (mems (b.take 300)))).length) (n := n) (by have := sbytes_le (mem64 (b.take 300)); omega) rfl hn 512 (by have := sbytes_le (mem64 (b.take 300)); omega)
          unfold rdS
          have hB' : rdB 512 ((srec (ofL (mems (b.take 300)))).take n) = ([], (srec (ofL (mems (b.take 300)))).take n, 6) := hB
          rw [hB', if_pos (by show (6 : Int) ≠ 0; omega)]
theorem encV_pos {k u : Nat} {s : Int} (b : List UInt8) (hk : k % 7 ≠ 5) : 0 < (encV k u s b).length := by
  unfold encV
  by_cases e0 : k % 7 = 0
  · rw [if_pos e0]; exact enc_pos _
  · rw [if_neg e0]
    by_cases e1 : k % 7 = 1
    · rw [if_pos e1]; exact enc_pos _
    · rw [if_neg e1]
      by_cases e2 : k % 7 = 2 ∨ k % 7 = 3
      · rw [if_pos e2, List.length_append]; have := enc_pos (b.take 300).length; omega
      · rw [if_neg e2]
        by_cases e4 : k % 7 = 4
        · rw [if_pos e4]; unfold encF; simp
        · rw [if_neg e4, if_neg hk]; unfold srec; rw [List.length_append]; have := enc_pos (sbytes (ofL (mems (b.take 300)))).length; omega
end Go.Proofs.Ytfbdfpnmopgkoaa
