/- Words for slices of uint64: what is owned, a word read and stored; the length of a number in bits. -/
import Derived.Test.YtfbdfpnmopgkoaaDoorDigs
namespace Go.Proofs.YtfbdfpnmopgkoaaDoor
open Go.RowKit
set_option linter.unusedVariables false
set_option linter.unusedSimpArgs false

/-- A word as a value. -/
def wv (x : Nat) : Value := .int .u64 (x : Int)
theorem oneCell_wv (l : List Nat) : ∀ u ∈ l.map wv, u.oneCell' = true := by
  intro u hu
  obtain ⟨_, _, rfl⟩ := List.mem_map.1 hu
  rfl
/-- Number k. -/
theorem Sees.word {w : World} {B : Nat} {A : Option Addr} {l : List Nat} {k x : Nat} (h : Sees w B A (l.map wv)) (hk : l[k]? = some x) :
    ∃ b o, A = some ⟨b, o, none⟩ ∧ b < B ∧ w.cell? ⟨b, o + k, none⟩ = some (.int .u64 (x : Int)) := by
  have hl : k < l.length := (List.getElem?_eq_some_iff.1 hk).1
  obtain ⟨b, o, e, hb, hc⟩ := h.at_ (k := k) (by simpa using hl)
  refine ⟨b, o, e, hb, ?_⟩
  rw [hc, List.getElem_map]
  rw [List.getElem?_eq_getElem hl] at hk
  injection hk with hk
  rw [hk]; rfl

/-- How many bits a number has. -/
def blen (x : Nat) : Nat := len2 1 x
theorem blen_le {x n : Nat} : blen x ≤ n ↔ x < 2 ^ n := by unfold blen; rw [len2_le (by omega), Nat.one_mul]
theorem blen_zero : blen 0 = 0 := rfl
theorem blen_div {x k : Nat} (h : 2 ^ k ≤ x) : blen x = k + blen (x / 2 ^ k) := by
  have key : ∀ n, blen x ≤ n ↔ k + blen (x / 2 ^ k) ≤ n := by
    intro n
    rcases Nat.lt_or_ge n k with hn | hn
    · constructor
      · intro h1
        have := blen_le.1 h1
        have := Nat.pow_le_pow_right (n := 2) (by omega) (Nat.le_of_lt hn)
        omega
      · intro h1; omega
    · obtain ⟨m, rfl⟩ : ∃ m, n = k + m := ⟨n - k, by omega⟩
      rw [blen_le, show (k + blen (x / 2 ^ k) ≤ k + m ↔ blen (x / 2 ^ k) ≤ m) by omega, blen_le, Nat.div_lt_iff_lt_mul (Nat.two_pow_pos k), Nat.pow_add, Nat.mul_comm]
  exact Nat.le_antisymm ((key _).2 (Nat.le_refl _)) ((key _).1 (Nat.le_refl _))
theorem blen_pos {x : Nat} (h : x ≠ 0) : blen x = x.log2 + 1 := by unfold blen; rw [len2_pos h, Nat.div_one]
end Go.Proofs.YtfbdfpnmopgkoaaDoor
