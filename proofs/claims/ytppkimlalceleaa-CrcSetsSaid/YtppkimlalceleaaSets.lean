/- Slices of sets; the record of a set; bits.Of of nothing. -/
import Derived.Test.YtppkimlalceleaaWireF
namespace Go.Proofs.Ytppkimlalceleaa
open Go.RowKit
set_option linter.unusedVariables false
set_option linter.unusedSimpArgs false

theorem set_info : (Try.prog.info? 62).map (fun i => (i.zero, i.size, i.bytes)) = some (some (.agg #[.slice none 0 0]), 1, 24) := by kernel_rfl

theorem SetAt.kept {w w' : World} {v : Value} {M : Nat} {r : Option Nat} (h : SetAt w w.heap.size v M) (hg : w.grownBy w' r) (hr : ∀ b cs, Blk w b 85 cs → r ≠ some b) : SetAt w' w'.heap.size v M := by
  obtain ⟨A, n, c, e, h1, h2, h3, s, q⟩ := h
  refine ⟨A, n, c, e, h1, h2, h3, fun hn => ?_, fun b o e h0 => ?_⟩
  · obtain ⟨b, o, e, hb, hc⟩ := s hn
    have hn0 : n ≠ 0 := by
      intro e0
      apply hn
      have : (dg 64 M).length = 0 := by rw [dg_length, h3, e0]
      rw [List.length_eq_zero_iff.1 this]; rfl
    obtain ⟨cs, hcs⟩ := q b o e hn0
    have hne := hr b cs hcs
    exact ⟨b, o, e, Nat.lt_of_lt_of_le hb hg.size, fun j u hu => (World.cell?_of_block (a := ⟨b, o + j, none⟩) (hg.block b hb (fun e => hne e.symm))).trans (hc j u hu)⟩
  · obtain ⟨cs, hcs⟩ := q b o e h0
    exact ⟨cs, hcs.grown hg (hr b cs hcs)⟩
theorem row_far {w : World} {base n : Nat} {e : TypeId} {size : Nat} {v : Value} {xs : List Value} (h : w.ownsRow base e size v n xs) (he : e ≠ 85) : ∀ b cs, Blk w b 85 cs → v.ownBlock ≠ some b :=
  fun _ _ hb => own_far h hb he

/-- The values are sets. -/
def SetsAt (w : World) (vs : List Value) (Ms : List Nat) : Prop := vs.length = Ms.length ∧ ∀ (i : Nat) (u : Value) (M : Nat), vs[i]? = some u → Ms[i]? = some M → SetAt w w.heap.size (.agg #[u]) M
theorem SetsAt.nil (w : World) : SetsAt w [] [] := ⟨rfl, fun i u M h => by simp at h⟩
theorem SetsAt.on {w w' : World} {vs : List Value} {Ms : List Nat} (h : SetsAt w vs Ms) (hb : Below w.heap.size w w') : SetsAt w' vs Ms := ⟨h.1, fun i u M h1 h2 => (h.2 i u M h1 h2).on hb⟩
theorem SetsAt.kept {w w' : World} {vs : List Value} {Ms : List Nat} {r : Option Nat} (h : SetsAt w vs Ms) (hg : w.grownBy w' r) (hr : ∀ b cs, Blk w b 85 cs → r ≠ some b) : SetsAt w' vs Ms := ⟨h.1, fun i u M h1 h2 => (h.2 i u M h1 h2).kept hg hr⟩
theorem SetsAt.snoc {w : World} {vs : List Value} {Ms : List Nat} {u : Value} {M : Nat} (h : SetsAt w vs Ms) (hu : SetAt w w.heap.size (.agg #[u]) M) : SetsAt w (vs ++ [u]) (Ms ++ [M]) := by
  refine ⟨by simp [h.1], fun i v N h1 h2 => ?_⟩
  rcases Nat.lt_trichotomy i vs.length with hi | hi | hi
  · rw [List.getElem?_append_left hi] at h1
    rw [List.getElem?_append_left (by rw [← h.1]; exact hi)] at h2
    exact h.2 i v N h1 h2
  · rw [List.getElem?_append_right (by omega), hi, Nat.sub_self] at h1
    rw [List.getElem?_append_right (by rw [← h.1]; omega), ← h.1, hi, Nat.sub_self] at h2
    simp at h1 h2
    subst h1 h2
    exact hu
  · rw [List.getElem?_eq_none (by simp; omega)] at h1
    cases h1
/-- v is a slice of the call's own that holds the sets Ms. -/
def OwnS (w : World) (base : Nat) (v : Value) (n : Nat) (vs : List Value) (Ms : List Nat) : Prop := w.ownsRow base 62 1 v n vs ∧ SetsAt w vs Ms
theorem OwnS.nil (w : World) (base : Nat) : OwnS w base (.slice none 0 0) 0 [] [] := ⟨World.ownsRow_nil _ _ _ _, SetsAt.nil _⟩
theorem OwnS.len {w : World} {base n : Nat} {v : Value} {vs : List Value} {Ms : List Nat} (h : OwnS w base v n vs Ms) : vs.length = n ∧ Ms.length = n := by
  have h1 : vs.length = n := by simpa using h.1.1
  exact ⟨h1, by rw [← h.2.1, h1]⟩
theorem OwnS.on {w w' : World} {base n : Nat} {v : Value} {vs : List Value} {Ms : List Nat} (h : OwnS w base v n vs Ms) (hb : Below w.heap.size w w') : OwnS w' base v n vs Ms :=
  ⟨World.ownsRow.kept (row := none) h.1 ⟨hb.os, hb.tape, hb.output, hb.size, fun k hk _ => hb.block k hk⟩ (by cases v.ownBlock <;> simp), h.2.on hb⟩
theorem OwnS.kept {w w' : World} {base base' n m : Nat} {v u : Value} {vs : List Value} {Ms : List Nat} {l : List UInt8} (h : OwnS w base v n vs Ms) (hu : OwnB w base' u m l) (hg : w.grownBy w' u.ownBlock) : OwnS w' base v n vs Ms :=
  ⟨World.ownsRow.kept h.1 hg (own_ne hu h.1 (by decide)), h.2.kept hg (row_far hu (by decide))⟩

/-- append of one set, which lies in a block just made. -/
theorem wpL_appS (w : World) {ops : Array Oper} {rest : List Oper} {o : Oper} {a : Act} {Q : Exit → Act → World → Prop} (hgd : o.guard = none) (s x : Operand)
    (ho : o.op = .call { callee := .builtin .append, args := #[s, x], argTypes := #[58, 58] })
    (w0 : World) (base : Nat) (v : Value) (n : Nat) (vs : List Value) (Ms : List Nat) (hs : a.eval s = v) (hown : OwnS w0 base v n vs Ms)
    (A : Option Addr) (m c : Nat) (M : Nat) (hu : SetAt w0 w0.heap.size (.agg #[.slice A m c]) M) (hw : w = w0.alloc (.cells #[.slice A m c] 62)) (g : Nat) (hg : g = w0.heap.size)
    (hx : a.eval x = .slice (some ⟨g, 0, none⟩) 1 1) (hbytes : n + 1 ≤ 1000000000000) (hbase : base ≤ w0.heap.size) (n' : Nat) (hn' : n + 1 = n')
    (h : ∀ A' c' w' vs', OwnS w' base (.slice A' n' c') n' vs' (Ms ++ [M]) → w.grownBy w' v.ownBlock → Below base w0 w' →
      wpList Try.prog ops Q rest (a.put o.dst (.slice A' n' c')) w') : wpList Try.prog ops Q (o :: rest) a w := by
  subst hw
  obtain ⟨i0, hi0, hz0, hz1, hz2⟩ := info_parts set_info
  have h1 : (w0.alloc (.cells #[.slice A m c] 62)).ownsRow base 62 1 v n vs := World.ownsRow.alloc hown.1 _
  have hz : base ≤ (w0.alloc (.cells #[.slice A m c] 62)).heap.size := by simp; omega
  have ha : Below w0.heap.size w0 (w0.alloc (.cells #[.slice A m c] 62)) := (Below.refl _ _).alloc (Nat.le_refl _) _
  refine wpList_append_sees _ hgd s x _ ho base _ i0 _ 1 24 Try.underlying58 hi0 hz0 hz1 hz2 rfl (by omega) v n _ hs h1 _ _ 1 1 _ hx (by simp) (Sees.one w0 _ 62 g hg) (by simp [Value.oneCell'])
    (by unfold maxLen; omega) (by omega) hz n' hn' _ rfl ?_
  intro A' c' w' hw' hgr _
  have hR := ((hown.2.snoc hu).on ha).kept hgr (row_far h1 (by decide))
  exact h A' c' w' _ ⟨hw', hR⟩ hgr (below_app ((Below.refl _ _).alloc hbase _) hz h1 hgr)

/-- The record of a set. -/
def srec (M : Nat) : List UInt8 := enc (sbytes M).length ++ sbytes M
theorem sbytes_le {M : Nat} (h : len2 64 M ≤ 64) : (sbytes M).length ≤ 512 := by
  rw [sbytes_length]
  have := len2_8_64 M
  omega
theorem srec_len {M : Nat} (h : len2 64 M ≤ 64) : (srec M).length ≤ 522 := by
  unfold srec
  rw [List.length_append]
  have h1 := sbytes_le h
  have h2 := enc_len (v := (sbytes M).length) (by omega)
  omega
/-- What was written is read. -/
theorem rdS_rec {M : Nat} {most : Int} (h : len2 64 M ≤ 64) (hm : M ≠ 0 → ((M.log2 : Nat) : Int) ≤ most) (l : List UInt8) : rdS most (srec M ++ l) = (M, l, 0) := by
  have h1 := sbytes_le h
  have hB : rdB 512 (srec M ++ l) = (sbytes M, l, 0) := by
    unfold rdB srec
    rw [List.append_assoc, num_enc (by omega), if_neg (by omega), if_neg (by have := enc_pos (sbytes M).length; show ¬ (enc (sbytes M).length).length = 0; omega)]
    rw [if_neg (by show ¬ (512 : Int) < ((sbytes M).length : Nat); omega), if_neg (by simp), List.drop_left' rfl, List.take_left' rfl, List.drop_left' rfl]
  have hc : canon (sbytes M) = true := by
    unfold canon
    rw [decide_eq_true h1]
    have := sbytes_last M
    simpa using this
  unfold rdS
  rw [hB, if_neg (by simp), if_neg (by rw [hc]; simp), bval_sbytes, if_neg (by rintro ⟨h1, h2⟩; have := hm h1; omega)]
theorem log2_le {M : Nat} (h : len2 64 M ≤ 64) (hM : M ≠ 0) : M.log2 ≤ 4095 := by
  rw [len2_pos hM] at h
  omega

set_option maxRecDepth 100000 in
/-- bits.Of of nothing. -/
theorem of_nil (w : World) :
    Calls Try.prog 30 #[.slice none 0 0] w fun e w' => e = .returned (.agg #[.slice none 0 0]) ∧ Below w.heap.size w w' := by
  go_enter Try.func30, Try.ntmps30
  go_wp2_with fail
  go_loop [3, 11] (fun v3 i => v3 = .int .i64 (-1) ∧ i = .int .i64 0) (fun _ _ => 0)
  case atStart => exact ⟨rfl, rfl⟩
  case round =>
    obtain ⟨rfl, rfl⟩ := hrel
    go_wp2_with fail
    refine ret_set rfl w.heap.size (.slice none 0 0) rfl ?_ rfl ?_
    · exact Blk.new _ _ _
    exact ⟨rfl, (Below.refl _ _).alloc (Nat.le_refl _) _⟩
end Go.Proofs.Ytppkimlalceleaa
