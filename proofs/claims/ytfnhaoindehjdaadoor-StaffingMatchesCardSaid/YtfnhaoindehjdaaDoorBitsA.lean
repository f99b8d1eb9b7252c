/- The walks of math/bits.Len64 and bits.Set's Greatest. -/
import Derived.Test.YtfnhaoindehjdaaDoorPa
import Derived.Test.YtfnhaoindehjdaaDoorShelf
namespace Go.Proofs.YtfnhaoindehjdaaDoor
open Go.RowKit
set_option linter.unusedVariables false
set_option linter.unusedSimpArgs false

theorem blen_bit (x : Nat) (h : x < 2 ^ 64) : blen x = Lib.bitLen x := by
  induction x using Nat.strongRecOn with
  | ind x ih =>
    by_cases h0 : x = 0
    · subst h0; rfl
    · by_cases h1 : x = 1
      · subst h1; decide +kernel
      rw [Lib.bitLen_half x h0 h, blen_div (k := 1) (by omega), ih (x / 2 ^ 1) (by omega) (by omega)]
/-- math/bits.Len64. -/
theorem len64_any (x : Nat) (w : World) (h : x < 18446744073709551616) :
    Calls Tryd.prog 97 #[.int .u64 (x : Int)] w fun e w' => e = .returned (.int .i64 (blen x : Nat)) ∧ w = w' := by
  refine (YtfnhaoindehjdaaDoorbits_Len64 (x : Int) w (by omega) (by omega)).mono ?_
  rintro e w' ⟨rfl, rfl⟩
  rw [blen_bit x h]
  exact ⟨rfl, rfl⟩

/-- The greatest member of a set. -/
def topOf (M : Nat) : Nat := M.log2
/-- Its place: the highest word and its length. -/
theorem top_word {M n : Nat} (h : len2 64 M = n) (hn : n ≠ 0) : 64 * (n - 1) + blen (M / 2 ^ (64 * (n - 1)) % 2 ^ 64) = M.log2 + 1 ∧ 1 ≤ blen (M / 2 ^ (64 * (n - 1)) % 2 ^ 64) ∧ blen (M / 2 ^ (64 * (n - 1)) % 2 ^ 64) ≤ 64 := by
  have hM : M ≠ 0 := by intro e; subst e; exact hn h.symm
  have hlt := (len2_le (t := 64) (by omega)).1 (Nat.le_of_eq h)
  have hge : ¬ M < 2 ^ (64 * (n - 1)) := by
    intro hx
    have := (len2_le (t := 64) (by omega)).2 hx
    omega
  have hs : M / 2 ^ (64 * (n - 1)) < 2 ^ 64 := by
    rw [Nat.div_lt_iff_lt_mul (Nat.two_pow_pos _), ← Nat.pow_add, show 64 + 64 * (n - 1) = 64 * n by omega]
    exact hlt
  rw [Nat.mod_eq_of_lt hs]
  have h0 : M / 2 ^ (64 * (n - 1)) ≠ 0 := by
    have := Nat.div_pos (Nat.le_of_not_lt hge) (Nat.two_pow_pos (64 * (n - 1)))
    omega
  refine ⟨?_, ?_, blen_le.2 hs⟩
  · rw [← blen_pos hM, blen_div (k := 64 * (n - 1)) (Nat.le_of_not_lt hge)]
  · rw [blen_pos h0]; omega

set_option maxRecDepth 100000 in
/-- Set.Greatest. -/
theorem greatest_any (v : Value) (M : Nat) (w : World) (h : SetAt w w.heap.size v M) :
    Calls Tryd.prog 90 #[v] w fun e w' => e = .returned (.tuple #[.int .i64 (M.log2 : Nat), .bool (decide (M ≠ 0))]) ∧ Below w.heap.size w w' := by
  have hs := h
  have hem := fun w' h => empty_any v M w' h
  obtain ⟨A, n, c, rfl, h1, h2, h4, s, _⟩ := h
  by_cases hn : n = 0
  · have hM : M = 0 := len2_eq_zero.1 (by rw [h4]; exact hn)
    clear h4
    subst hn
    rw [decide_eq_true hM] at hem
    go_enter Tryd.func90, Tryd.ntmps90
    go_wp2_with fail
    refine (hem _ (hs.on (Below.alloc (Below.refl _ _) (Nat.le_refl _) _))).mono ?_
    rintro e w1 ⟨rfl, bw⟩
    go_wp2_with fail
    go_ret2
    subst hM
    exact ⟨rfl, ((Below.refl _ _).alloc (Nat.le_refl _) _).trans (bw.mono (by simp))⟩
  · have hM : M ≠ 0 := by intro e; subst e; exact hn h4.symm
    obtain ⟨t1, t2, t3⟩ := top_word h4 hn
    have hget := dg_get (t := 64) (M := M) (k := n - 1) (by rw [h4]; omega)
    clear h4
    obtain ⟨b, o, rfl, hb, hc⟩ := s.word hget
    clear hget
    rw [decide_eq_false hM] at hem
    have hx : M / 2 ^ (64 * (n - 1)) % 2 ^ 64 < 18446744073709551616 := Nat.mod_lt _ (by omega)
    have hl := fun w' => len64_any (M / 2 ^ (64 * (n - 1)) % 2 ^ 64) w' hx
    generalize M / 2 ^ (64 * (n - 1)) % 2 ^ 64 = x at t1 t2 t3 hc hl hx
    go_enter Tryd.func90, Tryd.ntmps90
    go_wp2_with fail
    refine (hem _ (hs.on (Below.alloc (Below.refl _ _) (Nat.le_refl _) _))).mono ?_
    rintro e w1 ⟨rfl, bw⟩
    have hn1 : ((n : Int) - 1) = ((n - 1 : Nat) : Int) := by omega
    have hn2 : ((n - 1 : Nat) : Int) < (n : Int) := by omega
    have hn3 : (0 : Int) ≤ (n : Int) - 1 := by omega
    have hn4 : ((n : Int) - 1).toNat = n - 1 := by omega
    have c0 : w1.cell? ⟨w.heap.size, 0, none⟩ = some (.slice (some ⟨b, o, none⟩) n c) := (bw.cell (p := ⟨w.heap.size, 0, none⟩) (by simp)).trans (by simp)
    have c1 : w1.cell? ⟨b, o + (n - 1), none⟩ = some (.int .u64 (x : Int)) := (bw.cell (p := ⟨b, o + (n - 1), none⟩) (by simp; omega)).trans ((World.cell?_alloc_lt w _ ⟨b, o + (n - 1), none⟩ hb).trans hc)
    have g1 : (1 : Int) ≤ (blen x : Nat) := by omega
    have g2 : ((blen x : Nat) : Int) ≤ 64 := by omega
    have g3 : (64 : Int) * ((n - 1 : Nat) : Int) + (blen x : Nat) = ((M.log2 : Nat) : Int) + 1 := by omega
    have g4 : ((n - 1 : Nat) : Int) ≤ 63 := by omega
    go_wp2_with fail
    refine (hl _).mono ?_
    rintro e w2 ⟨rfl, rfl⟩
    go_wp2_with fail
    go_ret2
    refine ⟨?_, ((Below.refl _ _).alloc (Nat.le_refl _) _).trans (bw.mono (by simp))⟩
    rw [decide_eq_true (show M ≠ 0 from hM)]
    rfl
end Go.Proofs.YtfnhaoindehjdaaDoor
