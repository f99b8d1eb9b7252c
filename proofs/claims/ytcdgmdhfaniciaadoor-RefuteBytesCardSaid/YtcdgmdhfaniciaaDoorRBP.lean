/- Plain laws of RefuteBytes: which nodes have bytes, and that other nodes have other bytes. -/
import Derived.Test.YtcdgmdhfaniciaaDoorChgA
import Derived.Test.YtcdgmdhfaniciaaDoorRtP
import Derived.Test.YtcdgmdhfaniciaaDoorRsP
namespace Go.Proofs.YtcdgmdhfaniciaaDoor
open Go.RowKit
set_option linter.unusedVariables false
set_option linter.unusedSimpArgs false

/-- Numbers that are not too large. -/
def upN (x : Nd) : Prop := x.step < 16384 ∧ (∀ z ∈ x.ch, z < 16384) ∧ (∀ z ∈ x.st, z < 16384)
def badN (x : Nd) : Bool := decide (x.kind < 1) || decide (3 < x.kind) || decide (x.step < 0) || (x.ch ++ x.st).any fun v => decide (v < 0)
theorem numsL_all (x : Nd) (f : Int → Bool) : (numsL x).all f = (f x.step && f (x.ch.length : Int) && x.ch.all f && f (x.st.length : Int) && x.st.all f) := by
  unfold numsL
  simp [Bool.and_assoc]
theorem upN_of {x : Nd} (h : smB x = true) : upN x := by
  unfold smB at h
  rw [Bool.and_eq_true, numsL_all] at h
  simp only [Bool.and_eq_true, decide_eq_true_eq, List.all_eq_true] at h
  obtain ⟨_, ⟨⟨⟨⟨_, h1⟩, _⟩, h2⟩, _⟩, h3⟩ := h
  exact ⟨h1, fun z hz => (h2 z hz).2, fun z hz => (h3 z hz).2⟩
theorem mem_set' {α : Type} {l : List α} {i : Nat} {a x : α} (h : x ∈ l.set i a) : x ∈ l ∨ x = a := List.mem_or_eq_of_mem_set h
theorem chg1_up {l : List Nd} {c : Chg} (h : ∀ x ∈ l, upN x) (hc : c.n < 128) : ∀ x ∈ chg1 l c, upN x := by
  unfold chg1
  by_cases n0 : l.length = 0
  · rw [if_pos n0]; exact h
  · rw [if_neg n0]
    have hi : c.at_ % l.length < l.length := Nat.mod_lt _ (by omega)
    obtain ⟨y, hy⟩ : ∃ y, l[c.at_ % l.length]? = some y := ⟨_, List.getElem?_eq_getElem hi⟩
    obtain ⟨h1, h2, h3⟩ := h y (List.mem_of_getElem? hy)
    simp only [hy, Option.getD_some]
    have cN : c.n < 16384 := by omega
    have key : ∀ y' : Nd, upN y' → ∀ x ∈ l.set (c.at_ % l.length) y', upN x := fun y' hy' x hx => by
      rcases mem_set' hx with e | e
      · exact h x e
      · rw [e]; exact hy'
    split
    · exact key _ ⟨h1, h2, h3⟩
    split
    · exact key _ ⟨cN, h2, h3⟩
    split
    · split
      · exact h
      · refine key _ ⟨h1, fun z hz => ?_, h3⟩
        rcases mem_set' hz with e | e
        · exact h2 z e
        · rw [e]; exact cN
    split
    · refine key _ ⟨h1, fun z hz => ?_, h3⟩
      rcases List.mem_append.1 hz with e | e
      · exact h2 z e
      · obtain rfl : z = c.n := by simpa using e
        exact cN
    split
    · refine key _ ⟨h1, h2, fun z hz => ?_⟩
      rcases List.mem_append.1 hz with e | e
      · exact h3 z e
      · obtain rfl : z = c.n := by simpa using e
        exact cN
    · exact fun x hx => h x (List.mem_of_mem_take hx)
theorem chgs_up : ∀ (cs : List Chg) {l : List Nd}, (∀ x ∈ l, upN x) → (∀ c ∈ cs, c.n < 128) → ∀ x ∈ cs.foldl chg1 l, upN x
  | [], _, h, _ => h
  | c :: cs, _, h, hc => chgs_up cs (chg1_up h (hc c (by simp))) fun d hd => hc d (by simp [hd])
theorem chgL_up {cs : List Chg} {l : List Nd} (h : l.all smB = true) (hc : ∀ c ∈ cs, c.n < 128) : ∀ x ∈ chgL l cs, upN x :=
  chgs_up _ (fun x hx => upN_of (List.all_eq_true.1 h x hx)) fun c hx => hc c (List.mem_of_mem_take hx)
theorem okN_good {x : Nd} (h : upN x) (h1 : x.ch.length ≤ 1000000) (h2 : x.st.length ≤ 1000000) (hb : badN x = false) : okN x = true := by
  obtain ⟨u1, u2, u3⟩ := h
  unfold badN at hb
  simp only [Bool.or_eq_false_iff, decide_eq_false_iff_not, List.any_eq_false, decide_eq_true_eq] at hb
  obtain ⟨⟨⟨b1, b2⟩, b3⟩, b4⟩ := hb
  unfold okN
  rw [numsL_all]
  unfold okZ
  simp only [Bool.and_eq_true, decide_eq_true_eq, List.all_eq_true]
  refine ⟨⟨by omega, by omega⟩, ⟨⟨⟨⟨⟨by omega, by omega⟩, ⟨by omega, by omega⟩⟩, fun z hz => ?_⟩, ⟨by omega, by omega⟩⟩, fun z hz => ?_⟩⟩
  · have q1 := u2 z hz
    have q2 := b4 z (List.mem_append.2 (Or.inl hz))
    exact ⟨by omega, by omega⟩
  · have q1 := u3 z hz
    have q2 := b4 z (List.mem_append.2 (Or.inr hz))
    exact ⟨by omega, by omega⟩
theorem okN_not {x : Nd} (hb : badN x = true) : okN x = false := by
  rw [← Bool.not_eq_true]
  intro h
  unfold okN at h
  rw [numsL_all] at h
  unfold okZ at h
  simp only [Bool.and_eq_true, decide_eq_true_eq, List.all_eq_true] at h
  obtain ⟨⟨k1, k2⟩, ⟨⟨⟨⟨⟨s1, _⟩, _⟩, c1⟩, _⟩, t1⟩⟩ := h
  unfold badN at hb
  simp only [Bool.or_eq_true, decide_eq_true_eq, List.any_eq_true] at hb
  rcases hb with ((e | e) | e) | ⟨z, hz, e⟩
  · omega
  · omega
  · omega
  · rcases List.mem_append.1 hz with e1 | e1
    · have := (c1 z e1).1; omega
    · have := (t1 z e1).1; omega
theorem bytes_inj {l l2 : List Nd} (h : l.all okN = true) (h2 : l2.all okN = true) (n : l.length ≤ 1000000) (n2 : l2.length ≤ 1000000) : (bytesL l == bytesL l2) = decide (l = l2) := by
  rw [Bool.eq_iff_iff, beq_iff_eq, decide_eq_true_iff]
  refine ⟨fun e => ?_, fun e => by rw [e]⟩
  have a := (rdN_enc h (by omega)).1
  have b := (rdN_enc h2 (by omega)).1
  rw [e, b] at a
  exact (Prod.mk.inj a).1.symm
theorem law_bad {l z : List Nd} {k : Nat} {x : Nd} (h : l.all okN = true) (hx : z[k]? = some x) (hb : badN x = true) : bytesL z = [] ∧ decide (l = z) = false := by
  refine ⟨bytesL_bad hx (okN_not hb), ?_⟩
  rw [decide_eq_false_iff_not]
  intro e
  have h1 := List.all_eq_true.1 h x (by rw [e]; exact List.mem_of_getElem? hx)
  rw [okN_not hb] at h1
  cases h1
theorem law_good {l z : List Nd} (h : l.all okN = true) (hu : ∀ x ∈ z, upN x) (hs : ∀ x ∈ z, x.ch.length ≤ 1000000 ∧ x.st.length ≤ 1000000) (hb : ∀ x ∈ z, badN x = false) (n : l.length ≤ 1000000) (n2 : z.length ≤ 1000000) : (bytesL l == bytesL z) = decide (l = z) :=
  bytes_inj h (List.all_eq_true.2 fun x hx => okN_good (hu x hx) (hs x hx).1 (hs x hx).2 (hb x hx)) n n2
theorem tot_le {b : Nat} : ∀ {l : List Nd}, (∀ x ∈ l, x.ch.length ≤ b ∧ x.st.length ≤ b) → tot l ≤ l.length * (2 * b + 4)
  | [], _ => Nat.zero_le _
  | x :: l, h => by
    have h1 := tot_le (l := l) fun y hy => h y (by simp [hy])
    have h2 := h x (by simp)
    have h3 := numsL_len x
    show (numsL x).length + 1 + tot l ≤ (l.length + 1) * (2 * b + 4)
    rw [Nat.add_mul, h3]
    omega
theorem bytesL_pos {l : List Nd} (h : l.all okN = true) (hl : bytesL l = enc l.length ++ l.flatMap encN) : 0 < (bytesL l).length := by
  rw [hl, List.length_append]
  have := enc_pos l.length
  omega
end Go.Proofs.YtcdgmdhfaniciaaDoor
