/- Plain facts on the frames found at the beginning of bytes. No program in sight. -/
import Derived.Test.YtppkimlalceleaaCrcTornP
namespace Go.Proofs.Ytppkimlalceleaa
set_option linter.unusedVariables false
set_option linter.unusedSimpArgs false

/-- The payload of the i-th frame lies where it should. -/
theorem scanned_pay {l : List UInt8} {ls : List (List UInt8)} (h : Scanned l ls) {i : Nat} {p : List UInt8} (hp : ls[i]? = some p) :
    endAt ls (i + 1) ≤ l.length ∧ endAt ls (i + 1) = endAt ls i + (8 + p.length) ∧ (l.drop (endAt ls i + 8)).take p.length = p := by
  obtain ⟨h9, r, hl, _⟩ := h
  have hi : i < ls.length := (List.getElem?_eq_some_iff.1 hp).1
  have e := endAt_succ hp
  refine ⟨?_, e, ?_⟩
  · have := endAt_le (ps := ls) (i := i + 1) (j := ls.length) (by omega)
    rw [endAt_all] at this
    rw [hl, List.length_append]; omega
  · have hd : ls.drop i = p :: ls.drop (i + 1) := by
      rw [List.drop_eq_getElem_cons hi]
      congr 1
      have := List.getElem?_eq_getElem hi
      rw [hp] at this
      injection this with this
      exact this.symm
    have e1 : flat ls = flat (ls.take i) ++ flat (ls.drop i) := by rw [← flat_append, List.take_append_drop]
    rw [hl, e1, hd, flat_cons, List.append_assoc, List.append_assoc, ← List.drop_drop]
    rw [show endAt ls i = (flat (ls.take i)).length from rfl, List.drop_left]
    have := frame_parts p (flat (ls.drop (i + 1)) ++ r) (h9 p (List.mem_of_getElem? hp))
    exact this.2.1
/-- What the bytes begin with tells the frames. -/
theorem scanned_nil {l : List UInt8} (h : Scanned l []) : ¬ IsFrame l := by
  obtain ⟨_, r, hl, hr⟩ := h
  rw [hl, flat_nil, List.nil_append]; exact hr
theorem scanned_cons {l p : List UInt8} {ls : List (List UInt8)} (h : Scanned l (p :: ls)) : IsFrame l ∧ num32 l = p.length ∧ (l.drop 8).take p.length = p := by
  obtain ⟨h9, r, hl, hr⟩ := h
  have hp := h9 p (List.mem_cons_self)
  rw [flat_cons, List.append_assoc] at hl
  have := frame_parts p (flat ls ++ r) hp
  rw [← hl] at this
  exact ⟨(frame_at _).2 ⟨p, _, hp, hl⟩, this.1, this.2.1⟩
end Go.Proofs.Ytppkimlalceleaa
