/- The bytes of a refutation, plain. -/
import Derived.Test.YtcnofhlgiffkjaaGreatDoorNum
namespace Go.Proofs.YtcnofhlgiffkjaaGreatDoor
open Go.RowKit
set_option linter.unusedVariables false
set_option linter.unusedSimpArgs false

def encZ (z : Int) : List UInt8 := enc z.toNat
def encN (x : Nd) : List UInt8 := enc x.kind ++ (numsL x).flatMap encZ
def okZ (z : Int) : Bool := decide (0 ≤ z) && decide (z ≤ 2147483647)
def okN (x : Nd) : Bool := decide (1 ≤ x.kind) && decide (x.kind ≤ 3) && (numsL x).all okZ
def bytesL (l : List Nd) : List UInt8 := if l.all okN then enc l.length ++ l.flatMap encN else []
def tot (l : List Nd) : Nat := (l.map fun x => (numsL x).length + 1).sum
theorem encZ_len {z : Int} (h : okZ z = true) : (encZ z).length ≤ 10 := by
  unfold okZ at h
  simp only [Bool.and_eq_true, decide_eq_true_eq] at h
  exact enc_len (v := z.toNat) (by omega)
theorem flatZ_len : ∀ {L : List Int}, L.all okZ = true → (L.flatMap encZ).length ≤ 10 * L.length
  | [], _ => Nat.zero_le _
  | z :: L, h => by
    simp only [List.all_cons, Bool.and_eq_true] at h
    have h1 := encZ_len h.1
    have h2 := flatZ_len h.2
    rw [List.flatMap_cons, List.length_append, List.length_cons]
    omega
theorem encN_len {x : Nd} (h : okN x = true) : (encN x).length ≤ 10 * ((numsL x).length + 1) := by
  unfold okN at h
  simp only [Bool.and_eq_true, decide_eq_true_eq] at h
  have h1 := flatZ_len h.2
  have h2 := enc_len (v := x.kind) (by omega)
  unfold encN
  rw [List.length_append]
  omega
theorem flatN_len : ∀ {l : List Nd}, l.all okN = true → (l.flatMap encN).length ≤ 10 * tot l
  | [], _ => Nat.zero_le _
  | x :: l, h => by
    simp only [List.all_cons, Bool.and_eq_true] at h
    have h1 := encN_len h.1
    have h2 := flatN_len h.2
    rw [List.flatMap_cons, List.length_append]
    show _ ≤ 10 * ((numsL x).length + 1 + tot l)
    omega
theorem tot_take : ∀ (l : List Nd) (k : Nat), tot (l.take k) ≤ tot l
  | [], k => by simp [tot]
  | x :: l, 0 => Nat.zero_le _
  | x :: l, k + 1 => by
    have := tot_take l k
    show (numsL x).length + 1 + tot (l.take k) ≤ (numsL x).length + 1 + tot l
    omega
theorem tot_mem : ∀ {l : List Nd} {x : Nd}, x ∈ l → (numsL x).length + 1 ≤ tot l
  | y :: l, x, h => by
    rcases List.mem_cons.1 h with rfl | h
    · show _ ≤ (numsL x).length + 1 + tot l; omega
    · have := tot_mem h
      show _ ≤ (numsL y).length + 1 + tot l
      omega
theorem flat_take {α β : Type} (f : α → List β) {l : List α} {k : Nat} {x : α} (h : l[k]? = some x) : (l.take (k + 1)).flatMap f = (l.take k).flatMap f ++ f x := by
  rw [List.take_add_one, h, List.flatMap_append]
  simp
theorem all_take {α : Type} (f : α → Bool) {l : List α} {k : Nat} {x : α} (h : l[k]? = some x) : (l.take (k + 1)).all f = ((l.take k).all f && f x) := by
  rw [List.take_add_one, h, List.all_append]
  simp
theorem bytesL_bad {l : List Nd} {k : Nat} {x : Nd} (h : l[k]? = some x) (hx : okN x = false) : bytesL l = [] := by
  unfold bytesL
  rw [if_neg]
  intro ha
  have := List.all_eq_true.1 ha x (List.mem_of_getElem? h)
  rw [hx] at this
  cases this
theorem okN_bad {x : Nd} {j : Nat} {z : Int} (h : (numsL x)[j]? = some z) (hz : okZ z = false) : okN x = false := by
  unfold okN
  have : (numsL x).all okZ = false := Bool.eq_false_iff.2 fun ha => by
    have := List.all_eq_true.1 ha z (List.mem_of_getElem? h)
    rw [hz] at this
    cases this
  rw [this, Bool.and_false]

theorem Blk.mvd {w w' : World} {k b g t : Nat} {u : Value} {cs : Array Value} {p : List UInt8} (h : Blk w k t cs) (hw : WrAt w b g u p) (hm : Mvd w w' g u.ownBlock) (h1 : t ≠ 144) (h2 : 5 ≠ t) : Blk w' k t cs :=
  (hm.block k h.lt (h.apart hw.blk h1) (own_off hw.own h h2)).trans h
theorem OwnI.mvd {w w' : World} {base n b g : Nat} {v u : Value} {l : List Int} {p : List UInt8} (h : OwnI w base v n l) (hw : WrAt w b g u p) (hm : Mvd w w' g u.ownBlock) : OwnI w' base v n l := by
  have hk : ∀ k, v.ownBlock = some k → k < w.heap.size ∧ k ≠ g ∧ u.ownBlock ≠ some k := fun k hv => by
    refine ⟨(h.lt k hv).2, fun e => ?_, fun e => ?_⟩
    · exact own_off h hw.blk (by decide) (e ▸ hv)
    · rcases own_apart h hw.own (by decide) with h0 | h0
      · rw [hv] at h0; cases h0
      · exact h0 (hv.trans e.symm)
  refine ⟨h.1, ?_⟩
  rcases h.2 with h2 | ⟨k, cap, cur, e1, e2, e3, e4⟩
  · exact .inl h2
  · refine .inr ⟨k, cap, cur, e1, e2, ?_, e4⟩
    obtain ⟨a1, a2, a3⟩ := hk k (by rw [e1]; simp [Value.ownBlock])
    rw [hm.block k a1 a2 a3]
    exact e3
theorem WrAt.low {w w' : World} {b g B : Nat} {u : Value} {p : List UInt8} (hw : WrAt w b g u p) (hm : Mvd w w' g u.ownBlock) (h1 : B ≤ b) (h2 : B ≤ g) : Below B w w' :=
  hm.below (Nat.le_trans h1 hw.base) h2 fun k hk => Nat.le_trans h1 (hw.own.lt k hk).1
end Go.Proofs.YtcnofhlgiffkjaaGreatDoor
