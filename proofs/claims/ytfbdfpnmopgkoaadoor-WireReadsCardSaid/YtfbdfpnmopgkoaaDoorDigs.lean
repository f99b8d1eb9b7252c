/- Plain facts on numbers as lists of digits, and on sets of small numbers as numbers (bit i: i is a member). No program in sight. -/
import Derived.Test.YtfbdfpnmopgkoaaDoorMem
namespace Go.Proofs.YtfbdfpnmopgkoaaDoor
set_option linter.unusedVariables false
set_option linter.unusedSimpArgs false

/-- The n lowest digits to the base 2^t. -/
def fx (t n M : Nat) : List Nat := (List.range n).map fun k => M / 2 ^ (t * k) % 2 ^ t
theorem fx_length (t n M : Nat) : (fx t n M).length = n := by simp [fx]
theorem fx_get {t n M k : Nat} (h : k < n) : (fx t n M)[k]? = some (M / 2 ^ (t * k) % 2 ^ t) := by
  unfold fx; rw [List.getElem?_map, List.getElem?_range h]; rfl
theorem fx_lt {t n M d : Nat} (h : d ∈ fx t n M) : d < 2 ^ t := by
  unfold fx at h
  obtain ⟨k, _, rfl⟩ := List.mem_map.1 h
  exact Nat.mod_lt _ (Nat.two_pow_pos t)
theorem fx_zero (t n : Nat) : fx t n 0 = List.replicate n 0 := by
  unfold fx
  apply List.ext_getElem
  · simp
  · intro i h1 h2; simp
theorem fx_snoc (t n M : Nat) : fx t (n + 1) M = fx t n M ++ [M / 2 ^ (t * n) % 2 ^ t] := by
  unfold fx; rw [List.range_succ, List.map_append]; rfl
/-- A bit of a digit. -/
theorem word_bit (t M k r : Nat) : (M / 2 ^ (t * k) % 2 ^ t).testBit r = (decide (r < t) && M.testBit (t * k + r)) := by
  rw [Nat.testBit_mod_two_pow, Nat.testBit_div_two_pow, Nat.add_comm]
/-- Bits put into one digit. -/
theorem fx_put {t n M X s u : Nat} (hX : X < 2 ^ u) (hs : s % t + u ≤ t) (ht : 0 < t) :
    fx t n (M ||| X <<< s) = (fx t n M).set (s / t) (M / 2 ^ (t * (s / t)) % 2 ^ t ||| X <<< (s % t)) := by
  have hst : t * (s / t) + s % t = s := Nat.div_add_mod s t
  apply List.ext_getElem
  · simp [fx_length]
  · intro k h1 h2
    have hk : k < n := by simpa [fx_length] using h1
    have e1 : ∀ M', (fx t n M')[k]? = some (M' / 2 ^ (t * k) % 2 ^ t) := fun M' => fx_get hk
    rw [List.getElem_set]
    have g : ∀ M' h, (fx t n M')[k]'h = M' / 2 ^ (t * k) % 2 ^ t := fun M' h => by
      have := e1 M'
      rw [List.getElem?_eq_getElem h] at this
      injection this
    rw [g, g]
    by_cases hkk : s / t = k
    · subst hkk
      rw [if_pos rfl]
      apply Nat.eq_of_testBit_eq
      intro r
      rw [word_bit, Nat.testBit_or, Nat.testBit_or, word_bit, Nat.testBit_shiftLeft, Nat.testBit_shiftLeft]
      by_cases hr : r < t
      · simp only [hr, decide_true, Bool.true_and]
        congr 1
        by_cases h3 : s % t ≤ r
        · rw [show t * (s / t) + r - s = r - s % t by omega]
          simp [h3, show s ≤ t * (s / t) + r by omega]
        · simp [h3, show ¬ s ≤ t * (s / t) + r by omega]
      · have h3 : X.testBit (r - s % t) = false := Nat.testBit_lt_two_pow (Nat.lt_of_lt_of_le hX (Nat.pow_le_pow_right (by omega) (by omega)))
        simp [hr, h3]
    · rw [if_neg hkk]
      apply Nat.eq_of_testBit_eq
      intro r
      rw [word_bit, word_bit, Nat.testBit_or, Nat.testBit_shiftLeft]
      by_cases hr : r < t
      · simp only [hr, decide_true, Bool.true_and]
        have : (decide (s ≤ t * k + r) && X.testBit (t * k + r - s)) = false := by
          by_cases h3 : s ≤ t * k + r
          · have hb : u ≤ t * k + r - s := by
              rcases Nat.lt_or_ge k (s / t) with h | h
              · have := Nat.mul_le_mul_left t (show k + 1 ≤ s / t from h)
                rw [Nat.mul_add] at this
                omega
              · have := Nat.mul_le_mul_left t (show s / t + 1 ≤ k by omega)
                rw [Nat.mul_add] at this
                omega
            rw [Nat.testBit_lt_two_pow (Nat.lt_of_lt_of_le hX (Nat.pow_le_pow_right (by omega) hb))]
            simp
          · simp [h3]
        rw [this, Bool.or_false]
      · simp [hr]

/-- How many digits to the base 2^t a number has. -/
def len2 (t M : Nat) : Nat := if M = 0 then 0 else M.log2 / t + 1
theorem len2_zero (t : Nat) : len2 t 0 = 0 := rfl
theorem len2_le {t M n : Nat} (ht : 0 < t) : len2 t M ≤ n ↔ M < 2 ^ (t * n) := by
  unfold len2
  by_cases hM : M = 0
  · subst hM; simp [Nat.two_pow_pos]
  · rw [if_neg hM, ← Nat.log2_lt hM]
    rw [show t * n = n * t from Nat.mul_comm _ _, ← Nat.div_lt_iff_lt_mul ht]
    omega
theorem len2_pos {t M : Nat} (h : M ≠ 0) : len2 t M = M.log2 / t + 1 := by unfold len2; rw [if_neg h]
/-- The digits to the base 2^t, the lowest first; the last is not zero. -/
def dg (t M : Nat) : List Nat := fx t (len2 t M) M
theorem dg_length (t M : Nat) : (dg t M).length = len2 t M := fx_length _ _ _
theorem dg_zero (t : Nat) : dg t 0 = [] := rfl
/-- The number of digits. -/
def vl (t : Nat) : List Nat → Nat
  | [] => 0
  | d :: l => d + 2 ^ t * vl t l
theorem fx_cons (t n M : Nat) : fx t (n + 1) M = M % 2 ^ t :: fx t n (M / 2 ^ t) := by
  unfold fx
  rw [List.range_succ_eq_map, List.map_cons, List.map_map]
  congr 1
  · simp
  · apply List.map_congr_left
    intro k _
    show M / 2 ^ (t * (k + 1)) % 2 ^ t = _
    rw [Nat.mul_add, Nat.mul_one, Nat.add_comm, Nat.pow_add, Nat.div_div_eq_div_mul]
theorem vl_fx (t n M : Nat) : vl t (fx t n M) = M % 2 ^ (t * n) := by
  induction n generalizing M with
  | zero => simp [fx, vl, Nat.mod_one]
  | succ n ih =>
    rw [fx_cons, vl, ih, Nat.mul_add, Nat.mul_one, Nat.add_comm (t * n), Nat.pow_add, Nat.mod_mul]
theorem fx_vl (t : Nat) (l : List Nat) (h : ∀ d ∈ l, d < 2 ^ t) : fx t l.length (vl t l) = l := by
  induction l with
  | nil => rfl
  | cons d l ih =>
    have hd := h d List.mem_cons_self
    rw [List.length_cons, fx_cons, vl, Nat.add_mul_mod_self_left, Nat.mod_eq_of_lt hd, Nat.add_mul_div_left _ _ (Nat.two_pow_pos t), Nat.div_eq_of_lt hd, Nat.zero_add, ih (fun x hx => h x (List.mem_cons_of_mem _ hx))]
theorem vl_lt (t : Nat) (l : List Nat) (h : ∀ d ∈ l, d < 2 ^ t) : vl t l < 2 ^ (t * l.length) := by
  have := vl_fx t l.length (vl t l)
  rw [fx_vl t l h] at this
  rw [this]
  exact Nat.mod_lt _ (Nat.two_pow_pos _)
theorem vl_dg {t : Nat} (ht : 0 < t) (M : Nat) : vl t (dg t M) = M := by
  unfold dg
  rw [vl_fx, Nat.mod_eq_of_lt ((len2_le ht).1 (Nat.le_refl _))]
/-- Digits of which the last is not zero are the number's. -/
theorem dg_vl {t : Nat} (ht : 0 < t) (l : List Nat) (h : ∀ d ∈ l, d < 2 ^ t) (hl : ∀ d, l.getLast? = some d → d ≠ 0) : dg t (vl t l) = l := by
  have e : len2 t (vl t l) = l.length := by
    apply Nat.le_antisymm ((len2_le ht).2 (vl_lt t l h))
    rcases Nat.eq_zero_or_pos l.length with h0 | h0
    · omega
    · apply Nat.le_of_not_lt
      intro hlt
      have h1 : vl t l < 2 ^ (t * (l.length - 1)) := (len2_le ht).1 (by omega)
      have h2 := fx_get (t := t) (n := l.length) (M := vl t l) (k := l.length - 1) (by omega)
      rw [fx_vl t l h, ← List.getLast?_eq_getElem?, Nat.div_eq_of_lt h1] at h2
      exact hl _ h2 (by simp)
  unfold dg
  rw [e, fx_vl t l h]
theorem fx_pad {t M n : Nat} (ht : 0 < t) (h : len2 t M ≤ n) : fx t n M = dg t M ++ List.replicate (n - len2 t M) 0 := by
  have hlt := (len2_le ht).1 (Nat.le_refl (len2 t M))
  apply List.ext_getElem?
  intro k
  by_cases hk : k < len2 t M
  · rw [List.getElem?_append_left (by rw [dg_length]; exact hk), fx_get (by omega)]
    exact (fx_get hk).symm
  · rw [List.getElem?_append_right (by rw [dg_length]; omega), dg_length]
    by_cases hn : k < n
    · rw [fx_get hn, List.getElem?_replicate, if_pos (by omega), Nat.div_eq_of_lt (Nat.lt_of_lt_of_le hlt (Nat.pow_le_pow_right (by omega) (Nat.mul_le_mul_left t (by omega))))]
      simp
    · rw [List.getElem?_eq_none (by rw [fx_length]; omega), List.getElem?_eq_none (by simp; omega)]
/-- A digit of a number, zero behind the end. -/
theorem dg_at {t M k : Nat} (ht : 0 < t) : (dg t M)[k]?.getD 0 = M / 2 ^ (t * k) % 2 ^ t := by
  by_cases hk : k < len2 t M
  · unfold dg; rw [fx_get hk]; rfl
  · have hlt := (len2_le ht).1 (Nat.le_refl (len2 t M))
    rw [List.getElem?_eq_none (by rw [dg_length]; omega), Nat.div_eq_of_lt (Nat.lt_of_lt_of_le hlt (Nat.pow_le_pow_right (by omega) (Nat.mul_le_mul_left t (by omega))))]
    simp
end Go.Proofs.YtfbdfpnmopgkoaaDoor
