/- Plain facts on frames whose end was cut off. No program in sight. -/
import Derived.Test.YtppkimlalceleaaCrcPl
namespace Go.Proofs.Ytppkimlalceleaa
set_option linter.unusedVariables false
set_option linter.unusedSimpArgs false

/-- Where the i-th frame ends. -/
def endAt (ps : List (List UInt8)) (i : Nat) : Nat := (flat (ps.take i)).length
theorem endAt_zero (ps : List (List UInt8)) : endAt ps 0 = 0 := rfl
theorem endAt_succ {ps : List (List UInt8)} {i : Nat} {p : List UInt8} (h : ps[i]? = some p) : endAt ps (i + 1) = endAt ps i + (8 + p.length) := by
  unfold endAt
  rw [List.take_add_one, h]
  show (flat (ps.take i ++ [p])).length = _
  rw [flat_snoc, List.length_append, frameOf_length]
theorem flat_append (a b : List (List UInt8)) : flat (a ++ b) = flat a ++ flat b := by simp [flat]
theorem endAt_le {ps : List (List UInt8)} {i j : Nat} (h : i ≤ j) : endAt ps i ≤ endAt ps j := by
  unfold endAt
  rw [show j = i + (j - i) by omega, List.take_add, flat_append, List.length_append]
  omega
theorem endAt_all (ps : List (List UInt8)) : endAt ps ps.length = (flat ps).length := by unfold endAt; rw [List.take_length]
/-- How many frames end at k or before. -/
theorem cut_index (ps : List (List UInt8)) (k : Nat) : ∃ j, j ≤ ps.length ∧ ∀ i, i ≤ ps.length → (endAt ps i ≤ k ↔ i ≤ j) := by
  have key : ∀ n, n ≤ ps.length → ∃ j, j ≤ n ∧ ∀ i, i ≤ n → (endAt ps i ≤ k ↔ i ≤ j) := by
    intro n
    induction n with
    | zero => intro _; exact ⟨0, Nat.le_refl _, fun i hi => by
        obtain rfl : i = 0 := by omega
        exact ⟨fun _ => Nat.le_refl _, fun _ => Nat.zero_le _⟩⟩
    | succ n ih =>
      intro hn
      obtain ⟨j, hj, h⟩ := ih (by omega)
      by_cases hc : endAt ps (n + 1) ≤ k
      · refine ⟨n + 1, Nat.le_refl _, fun i hi => ⟨fun _ => hi, fun _ => Nat.le_trans (endAt_le hi) hc⟩⟩
      · refine ⟨j, by omega, fun i hi => ?_⟩
        by_cases hin : i = n + 1
        · subst hin; exact ⟨fun h => absurd h hc, fun h => by omega⟩
        · exact h i (by omega)
  exact key _ (Nat.le_refl _)
theorem not_frame_short {p : List UInt8} {m : Nat} (hp : p.length ≤ 9000) (hm : m < (frameOf p).length) : ¬ IsFrame ((frameOf p).take m) := by
  intro hf
  obtain ⟨q, r, hq, e⟩ := (frame_at _).1 hf
  have e2 : frameOf p ++ [] = frameOf q ++ (r ++ (frameOf p).drop m) := by
    rw [List.append_nil, ← List.append_assoc, ← e, List.take_append_drop]
  obtain ⟨rfl, e3⟩ := frameOf_inj hp hq e2
  have h1 : ((frameOf p).drop m).length = 0 := by
    have := congrArg List.length e3
    simp at this
    simp; omega
  simp at h1
  omega
theorem not_frame_nil : ¬ IsFrame [] := fun h => by have := h.1; simp at this
/-- Of frames cut off at k exactly those that end at k or before are at the beginning. -/
theorem torn_scanned {ps : List (List UInt8)} (hp : ∀ p ∈ ps, p.length ≤ 9000) {k j : Nat} (hk : k ≤ (flat ps).length) (hj : j ≤ ps.length) (h : ∀ i, i ≤ ps.length → (endAt ps i ≤ k ↔ i ≤ j)) :
    Scanned ((flat ps).take k) (ps.take j) ∧ (flat (ps.take j)).length = endAt ps j := by
  refine ⟨⟨fun p hp' => hp p (List.mem_of_mem_take hp'), ?_⟩, rfl⟩
  have hjk : endAt ps j ≤ k := (h j hj).2 (Nat.le_refl _)
  have e1 : flat ps = flat (ps.take j) ++ flat (ps.drop j) := by rw [← flat_append, List.take_append_drop]
  have e2 : (flat ps).take k = flat (ps.take j) ++ (flat (ps.drop j)).take (k - endAt ps j) := by
    conv => lhs; rw [e1]
    rw [List.take_append]
    congr 1
    exact List.take_of_length_le hjk
  refine ⟨_, e2, ?_⟩
  rcases Nat.lt_or_ge j ps.length with hlt | hge
  · have hd : ps.drop j = ps[j] :: ps.drop (j + 1) := List.drop_eq_getElem_cons hlt
    have hn : ¬ endAt ps (j + 1) ≤ k := fun hc => by have := (h (j + 1) (by omega)).1 hc; omega
    rw [endAt_succ (List.getElem?_eq_getElem hlt)] at hn
    rw [hd, flat_cons, List.take_append_of_le_length (by rw [frameOf_length]; omega)]
    exact not_frame_short (hp _ (List.getElem_mem hlt)) (by rw [frameOf_length]; omega)
  · rw [List.drop_of_length_le hge, flat_nil, List.take_nil]
    exact not_frame_nil
end Go.Proofs.Ytppkimlalceleaa
