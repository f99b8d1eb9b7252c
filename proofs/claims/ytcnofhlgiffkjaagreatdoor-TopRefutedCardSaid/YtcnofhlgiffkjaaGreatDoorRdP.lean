/- What refute.Read reads, plain: it reads back what Bytes writes, and nothing else. -/
import Derived.Test.YtcnofhlgiffkjaaGreatDoorByL
namespace Go.Proofs.YtcnofhlgiffkjaaGreatDoor
open Go.RowKit
set_option linter.unusedVariables false
set_option linter.unusedSimpArgs false

theorem numGo_can (l : List UInt8) : ∀ (v k V K : Nat), (k = 0 → v = 0) → (k ≠ 0 → v ≠ 0) → numGo v k l = (V, K) → K ≠ 0 → ∃ m, K = k + m ∧ m ≤ l.length ∧ (low v).reverse ++ l.take m = enc V := by
  induction l with
  | nil =>
    intro v k V K _ _ h hK
    rw [numGo] at h
    injection h with _ h
    exact absurd h.symm hK
  | cons b l ih =>
    intro v k V K h0 h1 h hK
    rw [numGo] at h
    have hb := b.toNat_lt
    by_cases c : (k = 0 ∧ b = 128) ∨ 144115188075855871 < v
    · rw [if_pos c] at h
      injection h with _ h
      exact absurd h.symm hK
    · rw [if_neg c] at h
      by_cases c2 : b < 128
      · rw [if_pos c2] at h
        have c3 : b.toNat < 128 := by rw [UInt8.lt_iff_toNat_lt] at c2; simpa using c2
        injection h with e1 e2
        refine ⟨1, e2.symm, by simp, ?_⟩
        subst e1
        unfold enc encR
        have a1 : (128 * v + b.toNat % 128) % 128 = b.toNat := by omega
        have a2 : (128 * v + b.toNat % 128) / 128 = v := by omega
        rw [a1, a2, List.reverse_cons]
        simp
      · rw [if_neg c2] at h
        have c3 : 128 ≤ b.toNat := by rw [UInt8.lt_iff_toNat_lt] at c2; simp at c2; omega
        have hv : 128 * v + b.toNat % 128 ≠ 0 := by
          intro e
          by_cases hk : k = 0
          · have : b = 128 := UInt8.toNat_inj.1 (by simp; omega)
            exact c (.inl ⟨hk, this⟩)
          · have := h1 hk
            omega
        obtain ⟨m, e1, e2, e3⟩ := ih (128 * v + b.toNat % 128) (k + 1) V K (fun h => absurd h (Nat.succ_ne_zero k)) (fun _ => hv) h hK
        refine ⟨m + 1, by omega, by simp; omega, ?_⟩
        rw [← e3, low_pos hv]
        have a1 : (128 * v + b.toNat % 128) % 128 + 128 = b.toNat := by omega
        have a2 : (128 * v + b.toNat % 128) / 128 = v := by omega
        rw [a1, a2]
        simp
theorem num_can {p : List UInt8} (h : (num p).2 ≠ 0) : p = enc (num p).1 ++ p.drop (num p).2 := by
  obtain ⟨m, e1, _, e3⟩ := numGo_can p 0 0 (num p).1 (num p).2 (fun _ => rfl) (fun h => absurd rfl h) rfl h
  rw [low_zero, List.reverse_nil, List.nil_append] at e3
  rw [← e3, e1, Nat.zero_add, List.take_append_drop]
theorem rdU_can {most V : Nat} {p p' : List UInt8} (h : rdU most p = (V, p', 0)) : p = enc V ++ p' ∧ V ≤ most := by
  unfold rdU at h
  by_cases c : (num p).2 = 0
  · rw [if_pos c] at h; injection h with _ h; injection h with _ h; cases h
  · rw [if_neg c] at h
    by_cases c2 : most < (num p).1
    · rw [if_pos c2] at h; injection h with _ h; injection h with _ h; cases h
    · rw [if_neg c2] at h
      injection h with e1 h
      injection h with e2 _
      rw [← e1, ← e2]
      exact ⟨num_can c, by omega⟩
theorem rdC_can {most V : Nat} {p p' : List UInt8} (h : rdC most p = (V, p', 0)) : p = enc V ++ p' ∧ V ≤ most := by
  unfold rdC at h
  by_cases c : (num p).2 = 0
  · rw [if_pos c] at h; injection h with _ h; injection h with _ h; cases h
  · rw [if_neg c] at h
    by_cases c2 : most < (num p).1
    · rw [if_pos c2] at h; injection h with _ h; injection h with _ h; cases h
    · rw [if_neg c2] at h
      injection h with e1 h
      injection h with e2 _
      rw [← e1, ← e2]
      exact ⟨num_can c, by omega⟩
theorem rdU_enc' {V : Nat} (h : V < 18446744073709551616) {most : Nat} (hm : V ≤ most) (l : List UInt8) : rdU most (enc V ++ l) = (V, l, 0) := by
  unfold rdU
  rw [num_enc h, if_neg (by have := enc_pos V; show ¬ (enc V).length = 0; omega), if_neg (by show ¬ most < V; omega), List.drop_left' rfl]
theorem rdC_enc' {V : Nat} (h : V < 18446744073709551616) {most : Nat} (hm : V ≤ most) (l : List UInt8) : rdC most (enc V ++ l) = (V, l, 0) := by
  unfold rdC
  rw [num_enc h, if_neg (by have := enc_pos V; show ¬ (enc V).length = 0; omega), if_neg (by show ¬ most < V; omega), List.drop_left' rfl]

/-- Number, whatever the error; Count; Fail. -/
def nU (most : Nat) (p : List UInt8) (e : Int) : Nat × List UInt8 × Int := if e = 0 then rdU most p else (0, p, e)
def nC (most : Nat) (p : List UInt8) (e : Int) : Nat × List UInt8 × Int := if e = 0 then rdC most p else (0, p, e)
def nF (e er : Int) : Int := if e = 0 then er else e
theorem nU_can {most V : Nat} {p p' : List UInt8} {e : Int} (h : nU most p e = (V, p', 0)) : e = 0 ∧ p = enc V ++ p' ∧ V ≤ most := by
  unfold nU at h
  by_cases c : e = 0
  · rw [if_pos c] at h; exact ⟨c, rdU_can h⟩
  · rw [if_neg c] at h; injection h with _ h; injection h with _ h; exact absurd h c
theorem nC_can {most V : Nat} {p p' : List UInt8} {e : Int} (h : nC most p e = (V, p', 0)) : e = 0 ∧ p = enc V ++ p' ∧ V ≤ most := by
  unfold nC at h
  by_cases c : e = 0
  · rw [if_pos c] at h; exact ⟨c, rdC_can h⟩
  · rw [if_neg c] at h; injection h with _ h; injection h with _ h; exact absurd h c
def goL : Nat → List UInt8 → Int → List Int × List UInt8 × Int
  | 0, p, e => ([], p, e)
  | k + 1, p, e => if e = 0 then (((nU 2147483647 p e).1 : Int) :: (goL k (nU 2147483647 p e).2.1 (nU 2147483647 p e).2.2).1, (goL k (nU 2147483647 p e).2.1 (nU 2147483647 p e).2.2).2) else ([], p, e)
def liR (p : List UInt8) (e : Int) : List Int × List UInt8 × Int := goL (nC p.length p e).1 (nC p.length p e).2.1 (nC p.length p e).2.2
def kdR (p : List UInt8) (e : Int) : Nat × List UInt8 × Int := if (nU 3 p e).1 = 0 then (0, (nU 3 p e).2.1, nF (nU 3 p e).2.2 6) else nU 3 p e
def ndR (p : List UInt8) (e : Int) : Nd × List UInt8 × Int :=
  let a := kdR p e
  let b := nU 2147483647 a.2.1 a.2.2
  let c := liR b.2.1 b.2.2
  let d := liR c.2.1 c.2.2
  (⟨a.1, b.1, c.1, d.1⟩, d.2)
def goN : Nat → List UInt8 → Int → List Nd × List UInt8 × Int
  | 0, p, e => ([], p, e)
  | k + 1, p, e => if e = 0 then ((ndR p e).1 :: (goN k (ndR p e).2.1 (ndR p e).2.2).1, (goN k (ndR p e).2.1 (ndR p e).2.2).2) else ([], p, e)
def rdN (p : List UInt8) : List Nd × List UInt8 × Int := goN (nC p.length p 0).1 (nC p.length p 0).2.1 (nC p.length p 0).2.2
def okR (p : List UInt8) : Bool := decide ((rdN p).2.2 = 0) && (rdN p).2.1.isEmpty

theorem goL_can : ∀ (k : Nat) {p p' : List UInt8} {e : Int} {L : List Int}, goL k p e = (L, p', 0) → e = 0 ∧ L.length = k ∧ p = L.flatMap encZ ++ p' ∧ L.all okZ = true
  | 0, p, p', e, L, h => by
    injection h with h1 h
    injection h with h2 h3
    subst h1 h2 h3
    exact ⟨rfl, rfl, rfl, rfl⟩
  | k + 1, p, p', e, L, h => by
    rw [goL] at h
    by_cases c : e = 0
    · rw [if_pos c] at h
      obtain ⟨V, q, e1⟩ : ∃ x, x = nU 2147483647 p e := ⟨_, rfl⟩
      generalize hx : nU 2147483647 p e = x at h
      obtain ⟨V, q, e1⟩ := x
      simp only [] at h
      injection h with h1 h
      obtain ⟨f1, f2, f3, f4⟩ := goL_can k (p := q) (p' := p') (e := e1) (L := (goL k q e1).1) (by rw [← h])
      subst f1
      obtain ⟨_, g1, g2⟩ := nU_can hx
      rw [← h1, g1]
      refine ⟨c, by rw [List.length_cons, f2], ?_, ?_⟩
      · rw [List.flatMap_cons, List.append_assoc, ← f3]; rfl
      · rw [List.all_cons, f4]; unfold okZ; simp; omega
    · rw [if_neg c] at h
      injection h with _ h
      injection h with _ h
      exact absurd h c
theorem liR_can {p p' : List UInt8} {e : Int} {L : List Int} (h : liR p e = (L, p', 0)) : e = 0 ∧ p = enc L.length ++ L.flatMap encZ ++ p' ∧ L.all okZ = true ∧ L.length ≤ p.length := by
  unfold liR at h
  generalize hx : nC p.length p e = x at h
  obtain ⟨V, q, e1⟩ := x
  simp only [] at h
  obtain ⟨f1, f2, f3, f4⟩ := goL_can V h
  subst f1
  obtain ⟨g0, g1, g2⟩ := nC_can hx
  refine ⟨g0, ?_, f4, by omega⟩
  rw [f2, List.append_assoc, ← f3]
  exact g1
theorem ndR_can {p p' : List UInt8} {e : Int} {x : Nd} (hp : p.length ≤ 2147483647) (h : ndR p e = (x, p', 0)) : e = 0 ∧ p = encN x ++ p' ∧ okN x = true := by
  unfold ndR at h
  generalize ha : kdR p e = a at h
  obtain ⟨kd, pa, ea⟩ := a
  simp only [] at h
  generalize hb : nU 2147483647 pa ea = b at h
  obtain ⟨stp, pb, eb⟩ := b
  simp only [] at h
  generalize hc : liR pb eb = c at h
  obtain ⟨C, pc, ec⟩ := c
  simp only [] at h
  generalize hd : liR pc ec = d at h
  obtain ⟨S, pd, ed⟩ := d
  simp only [] at h
  injection h with h1 h
  injection h with h2 h3
  subst h1 h2 h3
  obtain ⟨d1, d2, d3, d4⟩ := liR_can hd
  subst d1
  obtain ⟨c1, c2, c3, c4⟩ := liR_can hc
  subst c1
  obtain ⟨b1, b2, b3⟩ := nU_can hb
  subst b1
  have hk : nU 3 p e = (kd, pa, 0) ∧ kd ≠ 0 := by
    unfold kdR at ha
    by_cases c : (nU 3 p e).1 = 0
    · rw [if_pos c] at ha
      injection ha with _ ha
      injection ha with _ ha
      unfold nF at ha
      by_cases c2 : (nU 3 p e).2.2 = 0
      · rw [if_pos c2] at ha; cases ha
      · rw [if_neg c2] at ha; exact absurd ha c2
    · rw [if_neg c] at ha
      rw [ha] at c
      exact ⟨ha, c⟩
  obtain ⟨k1, k2, k3⟩ := nU_can hk.1
  have len : ∀ {a b c : List UInt8}, a = b ++ c → c.length ≤ a.length := fun h => by rw [h, List.length_append]; omega
  have l1 := len k2
  have l2 := len b2
  have l3 := len c2
  refine ⟨k1, ?_, ?_⟩
  · rw [k2, b2, c2, d2]
    simp [encN, numsL, encZ, List.append_assoc]
  · unfold okN numsL
    simp only [List.all_append, List.all_cons, List.all_nil, c3, d3, Bool.and_true]
    have := hk.2
    unfold okZ
    simp
    omega
theorem goN_can : ∀ (k : Nat) {p p' : List UInt8} {e : Int} {l : List Nd}, p.length ≤ 2147483647 → goN k p e = (l, p', 0) → e = 0 ∧ l.length = k ∧ p = l.flatMap encN ++ p' ∧ l.all okN = true
  | 0, p, p', e, l, _, h => by
    injection h with h1 h
    injection h with h2 h3
    subst h1 h2 h3
    exact ⟨rfl, rfl, rfl, rfl⟩
  | k + 1, p, p', e, l, hp, h => by
    rw [goN] at h
    by_cases c : e = 0
    · rw [if_pos c] at h
      generalize hx : ndR p e = x at h
      obtain ⟨y, q, e1⟩ := x
      simp only [] at h
      injection h with h1 h
      by_cases ce : e1 = 0
      · subst ce
        obtain ⟨_, g1, g2⟩ := ndR_can hp hx
        have hq : q.length ≤ 2147483647 := by
          have := congrArg List.length g1
          rw [List.length_append] at this
          omega
        obtain ⟨f1, f2, f3, f4⟩ := goN_can k (p := q) (p' := p') (e := 0) (l := (goN k q 0).1) hq (by rw [← h])
        rw [← h1, g1]
        refine ⟨c, by rw [List.length_cons, f2], ?_, ?_⟩
        · rw [List.flatMap_cons, List.append_assoc, ← f3]
        · rw [List.all_cons, f4, g2]; rfl
      · exfalso
        have : ∀ k q, (goN k q e1).2.2 = e1 := fun k q => by
          cases k with
          | zero => rfl
          | succ k => rw [goN, if_neg ce]
        have h9 := this k q
        rw [h] at h9
        exact ce h9.symm
    · rw [if_neg c] at h
      injection h with _ h
      injection h with _ h
      exact absurd h c
/-- What is read, is written so. -/
theorem rdN_can {p : List UInt8} (hp : p.length ≤ 2147483647) (h : okR p = true) : bytesL (rdN p).1 = p ∧ (rdN p).1.all okN = true := by
  unfold okR at h
  simp only [Bool.and_eq_true, decide_eq_true_eq, List.isEmpty_iff] at h
  generalize hr : rdN p = r at h ⊢
  obtain ⟨l, p', e⟩ := r
  simp only [] at h ⊢
  obtain ⟨rfl, rfl⟩ := h
  unfold rdN at hr
  generalize hx : nC p.length p 0 = x at hr
  obtain ⟨V, q, e1⟩ := x
  simp only [] at hr
  by_cases ce : e1 = 0
  · subst ce
    obtain ⟨_, g1, g2⟩ := nC_can hx
    have hq : q.length ≤ 2147483647 := by
      have := congrArg List.length g1
      rw [List.length_append] at this
      omega
    obtain ⟨f1, f2, f3, f4⟩ := goN_can V hq hr
    refine ⟨?_, f4⟩
    unfold bytesL
    rw [if_pos f4, f2, g1, f3]
    simp
  · exfalso
    have h9 : (goN V q e1).2.2 = e1 := by
      cases V with
      | zero => rfl
      | succ k => rw [goN, if_neg ce]
    rw [hr] at h9
    exact ce h9.symm
end Go.Proofs.YtcnofhlgiffkjaaGreatDoor
