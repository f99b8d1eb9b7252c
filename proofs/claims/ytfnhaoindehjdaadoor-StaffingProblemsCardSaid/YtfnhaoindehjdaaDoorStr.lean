/- Strings: string(b), []byte(s). -/
import Derived.Test.YtfnhaoindehjdaaDoorPa
import Derived.Laws.BytesString
import Derived.Laws.IdiomStrings
namespace Go.Proofs.YtfnhaoindehjdaaDoor
open Go.RowKit
set_option linter.unusedVariables false
set_option linter.unusedSimpArgs false

theorem ba_loop (bs : ByteArray) (n : Nat) : ∀ (i : Nat) (r : List UInt8), bs.data.size - i = n → ByteArray.toList.loop bs i r = r.reverse ++ bs.data.toList.drop i := by
  induction n with
  | zero =>
    intro i r hn
    have hs : ¬ i < bs.size := by show ¬ i < bs.data.size; omega
    unfold ByteArray.toList.loop
    rw [if_neg hs, List.drop_eq_nil_of_le (by show bs.data.toList.length ≤ i; rw [Array.length_toList]; omega), List.append_nil]
  | succ n ih =>
    intro i r hn
    have h' : i < bs.data.size := by omega
    have hs : i < bs.size := h'
    have hi : i < bs.data.toList.length := by rw [Array.length_toList]; exact h'
    unfold ByteArray.toList.loop
    rw [if_pos hs, ih (i + 1) _ (by omega), List.drop_eq_getElem_cons hi, List.reverse_cons, List.append_assoc]
    have : bs.get! i = bs.data.toList[i] := by
      show bs.data[i]! = _
      rw [getElem!_pos bs.data i h']
      rfl
    rw [this]; rfl
theorem ba_toList (bs : ByteArray) : bs.toList = bs.data.toList := by
  show ByteArray.toList.loop bs 0 [] = _
  rw [ba_loop bs _ 0 [] rfl]; rfl

/-- Bytes as a string. -/
def bstr (l : List UInt8) : ByteArray := ⟨l.toArray⟩
theorem bstr_inj {l m : List UInt8} : bstr l = bstr m ↔ l = m := by
  constructor
  · intro h; unfold bstr at h; injection h with h; simpa using h
  · rintro rfl; rfl
theorem bstr_beq (l m : List UInt8) : ((bstr l).toList == (bstr m).toList) = decide (l = m) := by
  rw [ba_toList, ba_toList]
  show (l == m) = _
  by_cases h : l = m
  · subst h; simp
  · rw [decide_eq_false h]; simpa using h
theorem bstr_size (l : List UInt8) : (bstr l).size = l.length := by simp [bstr, ByteArray.size]
theorem foldl_bytes (l : List UInt8) (s : ByteArray) : (l.map fun b => ((b.toNat : Nat) : Int)).foldl (fun r n => r.push (UInt8.ofNat n.toNat)) s = ⟨s.data ++ l.toArray⟩ := by
  induction l generalizing s with
  | nil => simp
  | cons b l ih =>
    rw [List.map_cons, List.foldl_cons, ih]
    simp [ByteArray.push]
/-- string(b). -/
theorem run_str (w : World) (B : Nat) (A : Option Addr) (n c : Nat) (l : List UInt8) (h : Sees w B A (l.map bv)) (hn : l.length = n) :
    (convert 22 9 (.slice A n c)).run Tryd.prog w = .ok (.string (bstr l)) w := by
  rw [run_convert_bytes_string w _ _ _ A n c Tryd.underlying22 Tryd.underlying5 Tryd.underlying9]
  rcases A with _ | ad
  · have := h.none_
    simp at this
    subst this
    subst hn
    simp [Conv.bytesToString, bstr]
    rfl
  · have hcells : ∀ j u, (l.map bv)[j]? = some u → w.cell? (ad.add j) = some u := by
      intro j u hu
      obtain ⟨b, o, e, _, hc⟩ := h (by intro e; rw [e] at hu; simp at hu)
      injection e with e
      subst e
      rw [Addr.add_lit]
      exact hc j u hu
    have hl := run_loadCells_list (P := Tryd.prog) (w := w) ad (l.map bv) hcells
    rw [List.length_map, hn] at hl
    rw [run_bytesToString w ad n c (l.map fun b => ((b.toNat : Nat) : Int)) (by rw [hl, List.map_map]; rfl), foldl_bytes]
    have e : ByteArray.empty.data = #[] := rfl
    rw [e]
    simp [bstr]
/-- []byte(s). -/
theorem run_bytes (w : World) (l : List UInt8) : ∃ c w', (convert 9 22 (.string (bstr l))).run Tryd.prog w = .ok (.slice (some ⟨w.heap.size, 0, none⟩) l.length c) w' ∧ Sees w' w'.heap.size (some ⟨w.heap.size, 0, none⟩) (l.map bv) ∧ Below w.heap.size w w' := by
  have h := run_bytes_of_string (P := Tryd.prog) w 9 22 5 (bstr l) Tryd.underlying9 Tryd.underlying22 Tryd.underlying5
  rw [bstr_size] at h
  refine ⟨_, _, h, fun hn => ?_, (Below.refl _ _).drew.alloc (Nat.le_refl _) _⟩
  refine ⟨w.heap.size, 0, rfl, by simp, fun j u hu => ?_⟩
  refine (cell_of_row _ w.heap.size (0 + j) _ _ _ (heap_alloc_new w.drew _)).trans ?_
  have hj : j < l.length := by have := (List.getElem?_eq_some_iff.1 hu).1; simpa using this
  rw [Nat.zero_add, bytesRow_at (bstr l) _ j (by simpa [bstr] using hj)]
  rw [← hu, List.getElem?_map, List.getElem?_eq_getElem hj]
  simp [bstr, bv]
end Go.Proofs.YtfnhaoindehjdaaDoor
