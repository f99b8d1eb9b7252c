/- Plain: the reference's list of all staffings is empty exactly if nothing is valid. -/
import Derived.Test.YtfnhaoindehjdaaDoorPm
import Derived.Test.YtfnhaoindehjdaaDoorPj
namespace Go.Proofs.YtfnhaoindehjdaaDoor
open Go.RowKit
set_option linter.unusedVariables false
set_option linter.unusedSimpArgs false

/-- The sets are of users 0 to 4. -/
def Few32 (P : Pr) : Prop := ∀ M ∈ P.elig, M < 32
theorem mkP_32 (R : Rw) : Few32 (mkP R) := fun M hM => by
  obtain ⟨k, _, rfl⟩ := List.mem_map.1 (show M ∈ (List.range (rn R)).map (mkE R) from hM)
  unfold mkE
  omega
theorem elig_32 {P : Pr} (h : Few32 P) (z : Int) : eligA P z < 2 ^ 5 := by
  unfold eligA
  cases he : P.elig[z.toNat]? with
  | none => simp
  | some M =>
    have := h M (List.mem_of_getElem? he)
    simp only [Option.getD_some]
    omega
theorem mem5 {P : Pr} (h : Few32 P) (z : Int) : (memZ (eligA P z)).length ≤ 5 := by
  unfold memZ
  rw [List.length_map, memM_memT (elig_32 h z)]
  exact memT_len 5 _
theorem sixL_mem {l : List Int} {u : Nat} : ∀ {j : Nat}, u < j → l ++ [((u + 1 : Nat) : Int)] ∈ sixL l j
  | 0, h => absurd h (Nat.not_lt_zero _)
  | j + 1, h => by
    unfold sixL
    rcases Nat.lt_succ_iff_lt_or_eq.1 h with h1 | rfl
    · exact List.mem_append_left _ (sixL_mem h1)
    · exact List.mem_append_right _ (by simp)
theorem longL_mem : ∀ (k : Nat) (s : List Int), s.length = k → (∀ u ∈ s, 1 ≤ u ∧ u ≤ 6) → s ∈ longL k
  | 0, s, h, _ => by
    rw [List.eq_nil_of_length_eq_zero h]
    simp [longL]
  | k + 1, s, h, hu => by
    have hne : s ≠ [] := fun e => by rw [e] at h; cases h
    obtain ⟨t, v, rfl⟩ : ∃ t v, s = t ++ [v] := ⟨s.dropLast, s.getLast hne, (List.dropLast_concat_getLast hne).symm⟩
    have h1 := longL_mem k t (by simpa using h) fun u hm => hu u (List.mem_append_left _ hm)
    obtain ⟨v1, v2⟩ := hu v (by simp)
    show t ++ [v] ∈ longF (longL k)
    unfold longF
    refine List.mem_flatMap.2 ⟨t, h1, ?_⟩
    have h2 : (v.toNat - 1) < 6 := by omega
    have h3 := sixL_mem (l := t) h2
    have e : (((v.toNat - 1) + 1 : Nat) : Int) = v := by omega
    rw [e] at h3
    exact h3
theorem valid_long {P : Pr} (h : Few32 P) {s : List Int} (hv : ValidB P s = true) : s ∈ longL P.elig.length := by
  obtain ⟨hc, hg, _⟩ := good_of_valid hv
  refine longL_mem _ s hg.len fun u hu => ?_
  obtain ⟨k, hk⟩ := List.mem_iff_getElem?.1 hu
  have hkl := (List.getElem?_eq_some_iff.1 hk).1
  have ha : atI s k = u := by unfold atI; rw [hk]; rfl
  have hp := hg.pos k hkl
  have hb := hg.elig hkl
  rw [ha] at hp hb
  have he : (P.elig[k]?).getD 0 < 2 ^ 5 := by
    cases he : P.elig[k]? with
    | none => simp
    | some M =>
      have := h M (List.mem_of_getElem? he)
      simp only [Option.getD_some]
      omega
  have := bit_lt he hb
  omega
theorem allL_nil {P : Pr} (h : Few32 P) (he : allL P = []) (s : List Int) : ValidB P s = false := by
  rcases hv : ValidB P s with _ | _
  · rfl
  · have h1 : s ∈ allL P := List.mem_filter.2 ⟨valid_long h hv, hv⟩
    rw [he] at h1
    cases h1
theorem allL_some {P : Pr} (he : allL P ≠ []) : ∃ s, ValidB P s = true := by
  obtain ⟨s, hs⟩ := List.exists_mem_of_ne_nil _ he
  exact ⟨s, (List.mem_filter.1 hs).2⟩
end Go.Proofs.YtfnhaoindehjdaaDoor
