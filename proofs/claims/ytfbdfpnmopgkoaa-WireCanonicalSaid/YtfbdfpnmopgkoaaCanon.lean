/- What is read, written again, is what was taken: the reader's methods. -/
import Derived.Test.YtfbdfpnmopgkoaaWireI
import Derived.Test.YtfbdfpnmopgkoaaWireJ
import Derived.Test.YtfbdfpnmopgkoaaBitsE
namespace Go.Proofs.Ytfbdfpnmopgkoaa
open Go.RowKit
set_option linter.unusedVariables false
set_option linter.unusedSimpArgs false

theorem ofNat_toNat8 (b : UInt8) (n : Nat) (h : n = b.toNat) : UInt8.ofNat n = b := by
  subst h
  exact UInt8.toNat_inj.1 (by rw [UInt8.toNat_ofNat']; have := b.toNat_lt; omega)
theorem numGo_canon (l : List UInt8) : ∀ (u k : Nat), (k = 0 ∧ u = 0) ∨ (k ≠ 0 ∧ u ≠ 0) → (numGo u k l).2 ≠ 0 → k < (numGo u k l).2 ∧ (low u).reverse ++ l = enc (numGo u k l).1 ++ l.drop ((numGo u k l).2 - k) := by
  induction l with
  | nil => intro u k _ h; exact absurd rfl h
  | cons b l ih =>
    intro u k hk h
    rw [numGo] at h ⊢
    by_cases hbad : (k = 0 ∧ b = 128) ∨ 144115188075855871 < u
    · rw [if_pos hbad] at h; exact absurd rfl h
    · rw [if_neg hbad] at h ⊢
      by_cases hb : b < 128
      · rw [if_pos hb]
        have hbn : b.toNat < 128 := by rw [UInt8.lt_iff_toNat_lt] at hb; simpa using hb
        refine ⟨Nat.lt_succ_self k, ?_⟩
        show (low u).reverse ++ b :: l = enc (128 * u + b.toNat % 128) ++ (b :: l).drop (k + 1 - k)
        rw [show k + 1 - k = 1 by omega]
        unfold enc encR
        rw [show (128 * u + b.toNat % 128) / 128 = u by omega, List.reverse_cons, List.append_assoc]
        congr 1
        rw [ofNat_toNat8 b _ (by omega)]
        rfl
      · rw [if_neg hb] at h ⊢
        have hbn : ¬ b.toNat < 128 := by rw [UInt8.lt_iff_toNat_lt] at hb; simpa using hb
        have hb255 := b.toNat_lt
        have hu' : 128 * u + b.toNat % 128 ≠ 0 := by
          rcases hk with ⟨rfl, rfl⟩ | ⟨_, h2⟩
          · have : b.toNat ≠ 128 := fun e => hbad (.inl ⟨rfl, UInt8.toNat_inj.1 (by simpa using e)⟩)
            omega
          · omega
        obtain ⟨g1, g2⟩ := ih (128 * u + b.toNat % 128) (k + 1) (.inr ⟨by omega, hu'⟩) h
        refine ⟨by omega, ?_⟩
        rw [low_pos hu', List.reverse_cons, show (128 * u + b.toNat % 128) / 128 = u by omega, ofNat_toNat8 b _ (by omega), List.append_assoc, List.singleton_append] at g2
        rw [g2]
        congr 1
        obtain ⟨d, hd⟩ : ∃ d, (numGo (128 * u + b.toNat % 128) (k + 1) l).2 = k + 1 + d := ⟨(numGo (128 * u + b.toNat % 128) (k + 1) l).2 - (k + 1), by omega⟩
        rw [hd, show k + 1 + d - (k + 1) = d by omega, show k + 1 + d - k = d + 1 by omega]
        rfl
/-- A number that is read is its encoding. -/
theorem num_canon {l : List UInt8} (h : (num l).2 ≠ 0) : l = enc (num l).1 ++ l.drop (num l).2 := by
  have := (numGo_canon l 0 0 (.inl ⟨rfl, rfl⟩) h).2
  rw [low_zero] at this
  exact this
theorem rdU_canon (most : Nat) (p : List UInt8) : ((rdU most p).2.2 = 0 ∧ p = enc (rdU most p).1 ++ (rdU most p).2.1) ∨ ((rdU most p).2.2 ≠ 0 ∧ (rdU most p).2.1 = p) := by
  unfold rdU
  split
  · exact .inr ⟨by show (6 : Int) ≠ 0; omega, rfl⟩
  · rename_i h
    split
    · exact .inr ⟨by show (2 : Int) ≠ 0; omega, rfl⟩
    · exact .inl ⟨rfl, num_canon h⟩
theorem rdU_lt (most : Nat) (p : List UInt8) : (rdU most p).1 < 18446744073709551616 := by
  unfold rdU
  split
  · show 0 < _; omega
  · split
    · show 0 < _; omega
    · exact (num_le p).1
theorem rdI_canon (low high : Int) (p : List UInt8) : ((rdI low high p).2.2 = 0 ∧ p = enc (zig (rdI low high p).1) ++ (rdI low high p).2.1) ∨ ((rdI low high p).2.2 ≠ 0 ∧ (rdI low high p).2.1 = p) := by
  unfold rdI
  split
  · exact .inr ⟨by show (1 : Int) ≠ 0; omega, rfl⟩
  · split
    · exact .inr ⟨by show (6 : Int) ≠ 0; omega, rfl⟩
    · rename_i h
      split
      · exact .inr ⟨by show (2 : Int) ≠ 0; omega, rfl⟩
      · refine .inl ⟨rfl, ?_⟩
        show p = enc (zig (zag (num p).1)) ++ p.drop (num p).2
        rw [zig_zag]
        exact num_canon h
theorem rdI_bounds (low high : Int) (p : List UInt8) : -9223372036854775808 ≤ (rdI low high p).1 ∧ (rdI low high p).1 ≤ 9223372036854775807 := by
  unfold rdI
  split
  · show _ ≤ (0 : Int) ∧ (0 : Int) ≤ _; omega
  · split
    · show _ ≤ (0 : Int) ∧ (0 : Int) ≤ _; omega
    · split
      · show _ ≤ (0 : Int) ∧ (0 : Int) ≤ _; omega
      · exact zag_bounds (num_le p).1
theorem rdB_canon (most : Int) (p : List UInt8) : ((rdB most p).2.2 = 0 ∧ p = enc (rdB most p).1.length ++ (rdB most p).1 ++ (rdB most p).2.1) ∨ ((rdB most p).2.2 ≠ 0 ∧ (rdB most p).2.1 = p) := by
  unfold rdB
  split
  · exact .inr ⟨by show (1 : Int) ≠ 0; omega, rfl⟩
  · split
    · exact .inr ⟨by show (6 : Int) ≠ 0; omega, rfl⟩
    · rename_i h
      split
      · exact .inr ⟨by show (3 : Int) ≠ 0; omega, rfl⟩
      · split
        · exact .inr ⟨by show (6 : Int) ≠ 0; omega, rfl⟩
        · rename_i h4
          refine .inl ⟨rfl, ?_⟩
          show p = enc ((p.drop (num p).2).take (num p).1).length ++ (p.drop (num p).2).take (num p).1 ++ (p.drop (num p).2).drop (num p).1
          rw [List.length_take, List.length_drop, Nat.min_eq_left (by omega), List.append_assoc, List.take_append_drop]
          exact num_canon h
theorem rdB_most (most : Int) (p : List UInt8) (h : 0 ≤ most) : ((rdB most p).1.length : Int) ≤ most := by
  unfold rdB
  split
  · simpa using h
  · split
    · simpa using h
    · split
      · simpa using h
      · split
        · simpa using h
        · show (((p.drop (num p).2).take (num p).1).length : Int) ≤ most
          rw [List.length_take]
          omega
theorem rdF_canon (p : List UInt8) : ((rdF p).2.2 = 0 ∧ p = encF (rdF p).1 ++ (rdF p).2.1) ∨ ((rdF p).2.2 ≠ 0 ∧ (rdF p).2.1 = p) := by
  cases p with
  | nil => exact .inr ⟨by show (6 : Int) ≠ 0; omega, rfl⟩
  | cons x l =>
    by_cases h : 1 < x.toNat
    · have e : rdF (x :: l) = (false, x :: l, 6) := by unfold rdF; simp only []; rw [if_pos h]
      rw [e]
      exact .inr ⟨by show (6 : Int) ≠ 0; omega, rfl⟩
    · have e : rdF (x :: l) = (decide (x.toNat = 1), l, 0) := by unfold rdF; simp only []; rw [if_neg h]
      rw [e]
      refine .inl ⟨rfl, ?_⟩
      show x :: l = [if decide (x.toNat = 1) = true then 1 else 0] ++ l
      rw [List.singleton_append]
      congr 1
      by_cases h1 : x.toNat = 1
      · rw [if_pos (by simpa using h1)]
        exact UInt8.toNat_inj.1 (by simpa using h1)
      · rw [if_neg (by simpa using h1)]
        exact UInt8.toNat_inj.1 (by simp; omega)
theorem rdS_canon (most : Int) (p : List UInt8) : ((rdS most p).2.2 = 0 ∧ p = srec (rdS most p).1 ++ (rdS most p).2.1) ∨ ((rdS most p).2.2 ≠ 0 ∧ (rdS most p).2.1 = p) := by
  have hB := rdB_canon 512 p
  unfold rdS
  split
  · rename_i h
    rcases hB with ⟨h0, _⟩ | ⟨h1, h2⟩
    · exact absurd h0 h
    · exact .inr ⟨h1, h2⟩
  · rename_i h
    split
    · exact .inr ⟨by show (6 : Int) ≠ 0; omega, rfl⟩
    · rename_i hc
      split
      · exact .inr ⟨by show (2 : Int) ≠ 0; omega, rfl⟩
      · refine .inl ⟨rfl, ?_⟩
        rcases hB with ⟨h0, hp⟩ | ⟨h1, h2⟩
        · have hcl : (rdB 512 p).1.getLast? ≠ some 0 := by
            have : canon (rdB 512 p).1 = true := by simpa using hc
            unfold canon at this
            rw [Bool.and_eq_true] at this
            simpa using this.2
          show p = srec (bval (rdB 512 p).1) ++ (rdB 512 p).2.1
          unfold srec
          rw [sbytes_bval hcl]
          exact hp
        · exact absurd h1 h

/-- Read and written again. -/
def Can (p q p' : List UInt8) (e' : Int) : Prop := (e' = 0 ∧ p = q ++ p') ∨ (e' ≠ 0 ∧ p' = p)
theorem Can.bad {p q : List UInt8} {e : Int} (h : e ≠ 0) : Can p q p e := .inr ⟨h, rfl⟩

theorem cUint (g : Nat) (p : List UInt8) (er : Int) (w : World) (h : RdAt w g p er) :
    Calls Try.prog 15 #[.pointer (some ⟨g, 0, none⟩), .int .u64 18446744073709551615] w fun e w' => ∃ (v : Nat) (p' : List UInt8) (e' : Int), e = .returned (.int .u64 (v : Nat)) ∧ v < 18446744073709551616 ∧ RdAt w' g p' e' ∧ Only w w' g ∧ Can p (enc v) p' e' := by
  by_cases he : er = 0
  · subst he
    refine (rUint_any g p 18446744073709551615 w h).mono ?_
    rintro e w' ⟨rfl, h1, m1⟩
    exact ⟨_, _, _, rfl, rdU_lt _ _, h1, m1, rdU_canon _ _⟩
  · refine (rUint_bad g p er _ w h he).mono ?_
    rintro e w' ⟨rfl, rfl⟩
    exact ⟨0, p, er, rfl, by omega, h, Mvd.refl _ _ _, Can.bad he⟩
theorem cInt (g : Nat) (p : List UInt8) (er low high : Int) (w : World) (h : RdAt w g p er) :
    Calls Try.prog 23 #[.pointer (some ⟨g, 0, none⟩), .int .i64 low, .int .i64 high] w fun e w' => ∃ (z : Int) (p' : List UInt8) (e' : Int), e = .returned (.int .i64 z) ∧ (-9223372036854775808 ≤ z ∧ z ≤ 9223372036854775807) ∧ RdAt w' g p' e' ∧ Only w w' g ∧ Can p (enc (zig z)) p' e' := by
  by_cases he : er = 0
  · subst he
    refine (rInt_any g p low high w h).mono ?_
    rintro e w' ⟨rfl, h1, m1⟩
    exact ⟨_, _, _, rfl, rdI_bounds _ _ _, h1, m1, rdI_canon _ _ _⟩
  · refine (rInt_bad g p er low high w h he).mono ?_
    rintro e w' ⟨rfl, rfl⟩
    exact ⟨0, p, er, rfl, by omega, h, Mvd.refl _ _ _, Can.bad he⟩
theorem cString (g : Nat) (p : List UInt8) (er : Int) (w : World) (h : RdAt w g p er) :
    Calls Try.prog 54 #[.pointer (some ⟨g, 0, none⟩), .int .i64 1000] w fun e w' => ∃ (o p' : List UInt8) (e' : Int), e = .returned (.string (bstr o)) ∧ o.length ≤ 1000 ∧ RdAt w' g p' e' ∧ Only w w' g ∧ Can p (enc o.length ++ o) p' e' := by
  by_cases he : er = 0
  · subst he
    refine (rString_any g p 1000 w h (by omega) (by omega)).mono ?_
    rintro e w' ⟨rfl, h1, m1⟩
    exact ⟨_, _, _, rfl, by have := rdB_most 1000 p (by omega); omega, h1, m1, rdB_canon _ _⟩
  · refine (rString_bad g p er _ w h he).mono ?_
    rintro e w' ⟨rfl, rfl⟩
    exact ⟨[], p, er, rfl, by simp, h, Mvd.refl _ _ _, Can.bad he⟩
theorem cBytes (g : Nat) (p : List UInt8) (er : Int) (w : World) (h : RdAt w g p er) :
    Calls Try.prog 51 #[.pointer (some ⟨g, 0, none⟩), .int .i64 1000] w fun e w' => ∃ (A : Option Addr) (n c : Nat) (o p' : List UInt8) (e' : Int), e = .returned (.slice A n c) ∧ n ≤ 1000 ∧ OwnB w' w.heap.size (.slice A n c) n o ∧ RdAt w' g p' e' ∧ Only w w' g ∧ Can p (enc n ++ o) p' e' := by
  by_cases he : er = 0
  · subst he
    refine (rBytes_any g p 1000 w h (by omega) (by omega)).mono ?_
    rintro e w' ⟨A, n, c, rfl, o1, h1, m1⟩
    have hl := o1.len
    refine ⟨A, n, c, _, _, _, rfl, by have := rdB_most 1000 p (by omega); omega, o1, h1, m1, ?_⟩
    rw [← hl]
    exact rdB_canon _ _
  · refine (rBytes_bad g p er _ w h he).mono ?_
    rintro e w' ⟨rfl, rfl⟩
    exact ⟨none, 0, 0, [], p, er, rfl, by omega, OwnB.nil _ _, h, Mvd.refl _ _ _, Can.bad he⟩
theorem cFlag (g : Nat) (p : List UInt8) (er : Int) (w : World) (h : RdAt w g p er) :
    Calls Try.prog 55 #[.pointer (some ⟨g, 0, none⟩)] w fun e w' => ∃ (b : Bool) (p' : List UInt8) (e' : Int), e = .returned (.bool b) ∧ RdAt w' g p' e' ∧ Only w w' g ∧ Can p (encF b) p' e' := by
  by_cases he : er = 0
  · subst he
    refine (rFlag_any g p w h).mono ?_
    rintro e w' ⟨rfl, h1, m1⟩
    exact ⟨_, _, _, rfl, h1, m1, rdF_canon _⟩
  · refine (rFlag_bad g p er w h he).mono ?_
    rintro e w' ⟨rfl, rfl⟩
    exact ⟨false, p, er, rfl, h, Mvd.refl _ _ _, Can.bad he⟩
theorem cSet (g : Nat) (p : List UInt8) (er : Int) (w : World) (h : RdAt w g p er) :
    Calls Try.prog 28 #[.pointer (some ⟨g, 0, none⟩), .int .i64 4095] w fun e w' => ∃ (v : Value) (M : Nat) (p' : List UInt8) (e' : Int), e = .returned v ∧ SetAt w' w'.heap.size v M ∧ RdAt w' g p' e' ∧ Only w w' g ∧ Can p (srec M) p' e' := by
  by_cases he : er = 0
  · subst he
    refine (rSet_any g p 4095 w h).mono ?_
    rintro e w' ⟨v, rfl, hs, h1, m1⟩
    exact ⟨v, _, _, _, rfl, hs, h1, m1, rdS_canon _ _⟩
  · refine (rSet_bad g p er _ w h he).mono ?_
    rintro e w' ⟨v, rfl, hs, h1, m1⟩
    exact ⟨v, 0, p, er, rfl, hs, h1, m1, Can.bad he⟩
end Go.Proofs.Ytfbdfpnmopgkoaa
