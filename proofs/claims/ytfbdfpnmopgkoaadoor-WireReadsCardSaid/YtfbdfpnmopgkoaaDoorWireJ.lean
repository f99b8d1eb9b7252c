/- The walks of wire.Reader's String, Flag, Raw. -/
import Derived.Test.YtfbdfpnmopgkoaaDoorWireH
namespace Go.Proofs.YtfbdfpnmopgkoaaDoor
open Go.RowKit
set_option linter.unusedVariables false
set_option linter.unusedSimpArgs false

/-- String, behind an error. -/
theorem rString_bad (g : Nat) (p : List UInt8) (er most : Int) (w : World) (h : RdAt w g p er) (he : er ≠ 0) :
    Calls Tryd.prog 33 #[.pointer (some ⟨g, 0, none⟩), .int .i64 most] w fun e w' => e = .returned (.string (bstr [])) ∧ w = w' := by
  have r1 := run_str w w.heap.size none 0 0 [] (Sees.nil _ _ _) rfl
  have hb := rBytes_bad g p er most w h he
  go_enter Tryd.func33, Tryd.ntmps33
  go_wp2_with fail
  refine hb.mono ?_
  rintro e w1 ⟨rfl, rfl⟩
  go_wp2_with fail
  go_ret
  exact ⟨rfl, rfl⟩
/-- String. -/
theorem rString_any (g : Nat) (p : List UInt8) (most : Int) (w : World) (h : RdAt w g p 0) (hm1 : -9223372036854775808 ≤ most) (hm2 : most ≤ 9223372036854775807) :
    Calls Tryd.prog 33 #[.pointer (some ⟨g, 0, none⟩), .int .i64 most] w fun e w' => e = .returned (.string (bstr (rdB most p).1)) ∧ RdAt w' g (rdB most p).2.1 (rdB most p).2.2 ∧ Only w w' g := by
  have hb := rBytes_any g p most w h hm1 hm2
  generalize (rdB most p).1 = out at hb ⊢
  generalize (rdB most p).2.1 = p2 at hb ⊢
  generalize (rdB most p).2.2 = e2 at hb ⊢
  go_enter Tryd.func33, Tryd.ntmps33
  go_wp2_with fail
  refine hb.mono ?_
  rintro e w1 ⟨A, n, c, rfl, o1, h1, m1⟩
  have r1 := run_str w1 w1.heap.size A n c out o1.sees o1.len
  go_wp2_with fail
  go_ret
  exact ⟨rfl, h1, m1⟩

/-- What Flag reads. -/
def rdF (p : List UInt8) : Bool × List UInt8 × Int :=
  match p with
  | [] => (false, [], 6)
  | x :: l => if 1 < x.toNat then (false, x :: l, 6) else (decide (x.toNat = 1), l, 0)
/-- Flag, behind an error. -/
theorem rFlag_bad (g : Nat) (p : List UInt8) (er : Int) (w : World) (h : RdAt w g p er) (he : er ≠ 0) :
    Calls Tryd.prog 17 #[.pointer (some ⟨g, 0, none⟩)] w fun e w' => e = .returned (.bool false) ∧ w = w' := by
  have hk := ok_any g p er w h
  rw [beq_false_of_ne he] at hk
  go_enter Tryd.func17, Tryd.ntmps17
  go_wp2_with fail
  refine hk.mono ?_
  rintro e w1 ⟨rfl, rfl⟩
  go_wp2_with fail
  go_ret
  exact ⟨rfl, rfl⟩
theorem beq_one (x : Nat) : (((x : Nat) : Int) == 1) = decide (x = 1) := by
  by_cases h : x = 1
  · subst h; rfl
  · rw [decide_eq_false h]; exact beq_false_of_ne (by omega)
/-- Flag. -/
theorem rFlag_any (g : Nat) (p : List UInt8) (w : World) (h : RdAt w g p 0) :
    Calls Tryd.prog 17 #[.pointer (some ⟨g, 0, none⟩)] w fun e w' => e = .returned (.bool (rdF p).1) ∧ RdAt w' g (rdF p).2.1 (rdF p).2.2 ∧ Only w w' g := by
  have hk := ok_any g p 0 w h
  have h' := h
  obtain ⟨A, n, c, h'⟩ := h'
  obtain ⟨d0, d1, f0, f1⟩ := h'.cells
  have hl := h'.len
  cases p with
  | nil =>
    obtain rfl : n = 0 := hl.symm
    unfold rdF
    clear hl
    go_enter Tryd.func17, Tryd.ntmps17
    go_wp2_with fail
    refine hk.mono ?_
    rintro e w1 ⟨rfl, rfl⟩
    go_wp2_with fail
    refine (refuse_yes g [] 6 w h (by first | rfl | assumption)).mono ?_
    rintro e w1 ⟨rfl, h1, ho⟩
    go_wp2_with fail
    go_ret
    exact ⟨rfl, h1, ho⟩
  | cons x l =>
    have hn0 : ((n : Int) == 0) = false := beq_false_of_ne (by simp at hl; omega)
    have hn1 : 0 < (n : Int) := by simp at hl; omega
    have hn2 : 0 < n := by omega
    obtain ⟨b, o, y, rfl, hb1, hy, hyb, hc1⟩ := Sees.byte (k := 0) h'.sees (by simp)
    obtain rfl : x = y := by have := hy.out; simpa using this
    rw [Nat.add_zero] at hc1
    have ht := take_any g 1 (x :: l) 0 w h (by simp)
    clear hl
    by_cases h1 : 1 < x.toNat
    · have e : rdF (x :: l) = (false, x :: l, 6) := by unfold rdF; simp only []; rw [if_pos h1]
      rw [e]
      have h1i : (1 : Int) < ((x.toNat : Nat) : Int) := by omega
      clear e ht
      go_enter Tryd.func17, Tryd.ntmps17
      go_wp2_with fail
      refine hk.mono ?_
      rintro e w1 ⟨rfl, rfl⟩
      go_wp2_with fail
      refine (refuse_yes g (x :: l) 6 w h (by first | rfl | assumption | (rw [decide_eq_true_eq]; omega))).mono ?_
      rintro e w1 ⟨rfl, h1, ho⟩
      go_wp2_with fail
      go_ret
      exact ⟨rfl, h1, ho⟩
    · have e : rdF (x :: l) = (decide (x.toNat = 1), l, 0) := by unfold rdF; simp only []; rw [if_neg h1]
      rw [e, ← beq_one]
      have h1i : ¬ (1 : Int) < ((x.toNat : Nat) : Int) := by omega
      clear e
      go_enter Tryd.func17, Tryd.ntmps17
      go_wp2_with fail
      refine hk.mono ?_
      rintro e w1 ⟨rfl, rfl⟩
      go_wp2_with fail
      refine (refuse_no g 6 w (by first | rfl | assumption | (rw [decide_eq_false_iff_not]; omega))).mono ?_
      rintro e w1 ⟨rfl, rfl⟩
      go_wp2_with fail
      refine ht.mono ?_
      rintro e w1 ⟨A1, c1, rfl, ho1, hr1, hm1⟩
      obtain ⟨gg, rfl, _, _, z, hz, hcz, _⟩ := ho1.byte (k := 0) (by omega)
      obtain rfl : x = z := by have := hz.out; simpa using this
      simp only [bv] at hcz
      go_wp2_with fail
      go_ret
      exact ⟨rfl, hr1, hm1⟩

/-- Raw, n bytes from 0 on. -/
def rdR (k : Nat) (p : List UInt8) : List UInt8 × List UInt8 × Int := if p.length < k then ([], p, 6) else (p.take k, p.drop k, 0)
theorem rRaw_any (g : Nat) (p : List UInt8) (k : Nat) (w : World) (h : RdAt w g p 0) (hk9 : k ≤ 9223372036854775807) :
    Calls Tryd.prog 36 #[.pointer (some ⟨g, 0, none⟩), .int .i64 (k : Int)] w fun e w' => ∃ A n c, e = .returned (.slice A n c) ∧ OwnB w' w.heap.size (.slice A n c) n (rdR k p).1 ∧ RdAt w' g (rdR k p).2.1 (rdR k p).2.2 ∧ Only w w' g := by
  have hk := ok_any g p 0 w h
  have h' := h
  obtain ⟨A, n, c, h'⟩ := h'
  obtain ⟨d0, d1, f0, f1⟩ := h'.cells
  have hl := h'.len
  have hk0 : ¬ (k : Int) < 0 := by omega
  by_cases c1 : n < k
  · have e : rdR k p = ([], p, 6) := by unfold rdR; rw [if_pos (by omega)]
    rw [e]
    have c1' : (n : Int) < (k : Int) := by omega
    clear e hl
    go_enter Tryd.func36, Tryd.ntmps36
    go_wp2_with fail
    refine hk.mono ?_
    rintro e w1 ⟨rfl, rfl⟩
    go_wp2_with fail
    refine (refuse_no g 1 w (by first | rfl | assumption | (rw [decide_eq_false_iff_not]; omega))).mono ?_
    rintro e w1 ⟨rfl, rfl⟩
    go_wp2_with fail
    refine (refuse_yes g p 6 w h (by first | rfl | assumption | (rw [decide_eq_true_eq]; omega))).mono ?_
    rintro e w1 ⟨rfl, h1, ho⟩
    go_wp2_with fail
    go_ret
    exact ⟨none, 0, 0, rfl, OwnB.nil _ _, h1, ho⟩
  · have e : rdR k p = (p.take k, p.drop k, 0) := by unfold rdR; rw [if_neg (by omega)]
    rw [e]
    have c1' : ¬ (n : Int) < (k : Int) := by omega
    have ht := take_any g k p 0 w h (by omega)
    clear e hl
    go_enter Tryd.func36, Tryd.ntmps36
    go_wp2_with fail
    refine hk.mono ?_
    rintro e w1 ⟨rfl, rfl⟩
    go_wp2_with fail
    refine (refuse_no g 1 w (by first | rfl | assumption | (rw [decide_eq_false_iff_not]; omega))).mono ?_
    rintro e w1 ⟨rfl, rfl⟩
    go_wp2_with fail
    refine (refuse_no g 6 w (by first | rfl | assumption | (rw [decide_eq_false_iff_not]; omega))).mono ?_
    rintro e w1 ⟨rfl, rfl⟩
    go_wp2_with fail
    refine ht.mono ?_
    rintro e w1 ⟨A1, c1, rfl, ho1, hr1, hm1⟩
    go_wp2_with fail
    go_ret
    exact ⟨A1, k, c1, rfl, ho1, hr1, hm1⟩
end Go.Proofs.YtfbdfpnmopgkoaaDoor
