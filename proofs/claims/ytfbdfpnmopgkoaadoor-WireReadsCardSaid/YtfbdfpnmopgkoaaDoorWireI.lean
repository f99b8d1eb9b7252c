/- The walk of wire.Reader's Int; the reference's PutInt. -/
import Derived.Test.YtfbdfpnmopgkoaaDoorWireH
namespace Go.Proofs.YtfbdfpnmopgkoaaDoor
open Go.RowKit
set_option linter.unusedVariables false
set_option linter.unusedSimpArgs false

/-- The number with a sign. -/
def zag (u : Nat) : Int := if u % 2 = 1 then -((u / 2 : Nat) : Int) - 1 else ((u / 2 : Nat) : Int)
theorem zag_zig (z : Int) : zag (zig z) = z := by
  unfold zag zig
  split <;> split <;> omega
theorem zig_zag (u : Nat) : zig (zag u) = u := by
  unfold zag zig
  split <;> split <;> omega
theorem zag_bounds {u : Nat} (h : u < 18446744073709551616) : -9223372036854775808 ≤ zag u ∧ zag u ≤ 9223372036854775807 := by
  unfold zag
  split <;> omega
/-- What Int reads: the number, what is left, the error. -/
def rdI (low high : Int) (p : List UInt8) : Int × List UInt8 × Int :=
  if high < low then (0, p, 1) else if (num p).2 = 0 then (0, p, 6) else if zag (num p).1 < low ∨ high < zag (num p).1 then (0, p, 2) else (zag (num p).1, p.drop (num p).2, 0)
theorem and1_nat {V : Nat} (h : V < 18446744073709551616) : bits BinOp.and IntKind.u64 (V : Int) 1 = ((V % 2 : Nat) : Int) := by
  have e := bits_and_u64_nat V 1 h (by omega)
  rw [Nat.and_one_is_mod] at e
  exact e

/-- Int, behind an error. -/
theorem rInt_bad (g : Nat) (p : List UInt8) (er low high : Int) (w : World) (h : RdAt w g p er) (he : er ≠ 0) :
    Calls Tryd.prog 31 #[.pointer (some ⟨g, 0, none⟩), .int .i64 low, .int .i64 high] w fun e w' => e = .returned (.int .i64 0) ∧ w = w' := by
  have hk := ok_any g p er w h
  rw [beq_false_of_ne he] at hk
  go_enter Tryd.func31, Tryd.ntmps31
  go_wp2_with fail
  refine hk.mono ?_
  rintro e w1 ⟨rfl, rfl⟩
  go_wp2_with fail
  go_ret
  exact ⟨rfl, rfl⟩

set_option maxHeartbeats 4000000 in
set_option maxRecDepth 100000 in
/-- Int. -/
theorem rInt_any (g : Nat) (p : List UInt8) (low high : Int) (w : World) (h : RdAt w g p 0) :
    Calls Tryd.prog 31 #[.pointer (some ⟨g, 0, none⟩), .int .i64 low, .int .i64 high] w fun e w' => e = .returned (.int .i64 (rdI low high p).1) ∧ RdAt w' g (rdI low high p).2.1 (rdI low high p).2.2 ∧ Only w w' g := by
  have hk := ok_any g p 0 w h
  have hnum := number_any g p 0 w h
  obtain ⟨l1, l2⟩ := num_le p
  by_cases c1 : high < low
  · have e : rdI low high p = (0, p, 1) := by unfold rdI; rw [if_pos c1]
    rw [e]
    clear e
    go_enter Tryd.func31, Tryd.ntmps31
    go_wp2_with fail
    refine hk.mono ?_
    rintro e w1 ⟨rfl, rfl⟩
    go_wp2_with fail
    refine (refuse_yes g p 1 w h (by first | rfl | assumption | (rw [decide_eq_true_eq]; omega))).mono ?_
    rintro e w1 ⟨rfl, h1, ho⟩
    go_wp2_with fail
    go_ret
    exact ⟨rfl, h1, ho⟩
  · obtain ⟨N, hN⟩ : ∃ N, N = (num p).2 := ⟨_, rfl⟩
    obtain ⟨V, hV⟩ : ∃ V, V = (num p).1 := ⟨_, rfl⟩
    have e0 : rdI low high p = if N = 0 then (0, p, 6) else if zag V < low ∨ high < zag V then (0, p, 2) else (zag V, p.drop N, 0) := by
      unfold rdI; rw [if_neg c1, ← hN, ← hV]
    rw [← hN, ← hV] at hnum
    rw [← hN] at l2
    rw [← hV] at l1
    clear hN hV
    have ha := and1_nat l1
    have hz := Lib.hid (zag_bounds l1)
    have hV2 : (V : Int) / 2 ≤ 9223372036854775807 := by omega
    have hlh : low ≤ high := by omega
    by_cases hpar : V % 2 = 1
    · rw [hpar] at ha
      have hpb : (bits BinOp.and IntKind.u64 (V : Int) 1 == 1) = true := by rw [ha]; rfl
      have hzv : zag V = -((V : Int) / 2) - 1 := by unfold zag; rw [if_pos hpar]; omega
      rw [hzv] at e0 hz
      clear ha hpar
      by_cases c2 : N = 0
      · rw [if_pos c2] at e0
        rw [e0]
        clear e0 hzv
        subst c2
        go_enter Tryd.func31, Tryd.ntmps31
        go_wp2_with fail
        refine hk.mono ?_
        rintro e w1 ⟨rfl, rfl⟩
        go_wp2_with fail
        refine (refuse_no g 1 w (by first | rfl | assumption | (rw [decide_eq_false_iff_not]; omega))).mono ?_
        rintro e w1 ⟨rfl, rfl⟩
        go_wp2_with fail
        refine hnum.mono ?_
        rintro e w1 ⟨rfl, rfl⟩
        go_wp2_with fail
        refine (refuse_yes g p 6 w h (by first | rfl | assumption | (rw [decide_eq_true_eq]; omega))).mono ?_
        rintro e w1 ⟨rfl, h1, ho⟩
        go_wp2_with fail
        go_ret
        exact ⟨rfl, h1, ho⟩
      · rw [if_neg c2] at e0
        have c2' : ((N : Int) == 0) = false := beq_false_of_ne (by omega)
        by_cases c3 : (-((V : Int) / 2) - 1) < low ∨ high < (-((V : Int) / 2) - 1)
        · rw [if_pos c3] at e0
          rw [e0]
          clear e0 hzv
          go_enter Tryd.func31, Tryd.ntmps31
          go_wp2_with fail
          refine hk.mono ?_
          rintro e w1 ⟨rfl, rfl⟩
          go_wp2_with fail
          refine (refuse_no g 1 w (by first | rfl | assumption | (rw [decide_eq_false_iff_not]; omega))).mono ?_
          rintro e w1 ⟨rfl, rfl⟩
          go_wp2_with fail
          refine hnum.mono ?_
          rintro e w1 ⟨rfl, rfl⟩
          go_wp2_with fail
          refine (refuse_no g 6 w (by first | rfl | assumption | (rw [decide_eq_false_iff_not]; omega))).mono ?_
          rintro e w1 ⟨rfl, rfl⟩
          go_wp2_with fail
          all_goals
            refine (refuse_yes g p 2 w h (by first | rfl | assumption | (rw [Bool.or_eq_true, decide_eq_true_eq, decide_eq_true_eq]; omega) | (rw [decide_eq_true_eq]; omega))).mono ?_
            rintro e w1 ⟨rfl, h1, ho⟩
            go_wp2_with fail
            go_ret
            exact ⟨rfl, h1, ho⟩
        · rw [if_neg c3] at e0
          rw [e0]
          clear e0 hzv
          have c4 : low ≤ (-((V : Int) / 2) - 1) := by omega
          have c5 : (-((V : Int) / 2) - 1) ≤ high := by omega
          have c6 : ¬ (-((V : Int) / 2) - 1) < low := by omega
          have c7 : ¬ high < (-((V : Int) / 2) - 1) := by omega
          go_enter Tryd.func31, Tryd.ntmps31
          go_wp2_with fail
          refine hk.mono ?_
          rintro e w1 ⟨rfl, rfl⟩
          go_wp2_with fail
          refine (refuse_no g 1 w (by first | rfl | assumption | (rw [decide_eq_false_iff_not]; omega))).mono ?_
          rintro e w1 ⟨rfl, rfl⟩
          go_wp2_with fail
          refine hnum.mono ?_
          rintro e w1 ⟨rfl, rfl⟩
          go_wp2_with fail
          refine (refuse_no g 6 w (by first | rfl | assumption | (rw [decide_eq_false_iff_not]; omega))).mono ?_
          rintro e w1 ⟨rfl, rfl⟩
          go_wp2_with fail
          refine (refuse_no g 2 w (by first | rfl | assumption | (rw [Bool.or_eq_false_iff, decide_eq_false_iff_not, decide_eq_false_iff_not]; omega) | (rw [decide_eq_false_iff_not]; omega))).mono ?_
          rintro e w1 ⟨rfl, rfl⟩
          go_wp2_with fail
          refine (take_any g N p 0 w h (by omega)).mono ?_
          rintro e w1 ⟨A1, c1, rfl, ho1, hr1, hm1⟩
          go_wp2_with fail
          go_ret
          exact ⟨rfl, hr1, hm1⟩
    · rw [show V % 2 = 0 by omega] at ha
      have hpb : (bits BinOp.and IntKind.u64 (V : Int) 1 == 1) = false := by rw [ha]; rfl
      have hzv : zag V = (V : Int) / 2 := by unfold zag; rw [if_neg hpar]; omega
      rw [hzv] at e0 hz
      clear ha hpar
      by_cases c2 : N = 0
      · rw [if_pos c2] at e0
        rw [e0]
        clear e0 hzv
        subst c2
        go_enter Tryd.func31, Tryd.ntmps31
        go_wp2_with fail
        refine hk.mono ?_
        rintro e w1 ⟨rfl, rfl⟩
        go_wp2_with fail
        refine (refuse_no g 1 w (by first | rfl | assumption | (rw [decide_eq_false_iff_not]; omega))).mono ?_
        rintro e w1 ⟨rfl, rfl⟩
        go_wp2_with fail
        refine hnum.mono ?_
        rintro e w1 ⟨rfl, rfl⟩
        go_wp2_with fail
        refine (refuse_yes g p 6 w h (by first | rfl | assumption | (rw [decide_eq_true_eq]; omega))).mono ?_
        rintro e w1 ⟨rfl, h1, ho⟩
        go_wp2_with fail
        go_ret
        exact ⟨rfl, h1, ho⟩
      · rw [if_neg c2] at e0
        have c2' : ((N : Int) == 0) = false := beq_false_of_ne (by omega)
        by_cases c3 : ((V : Int) / 2) < low ∨ high < ((V : Int) / 2)
        · rw [if_pos c3] at e0
          rw [e0]
          clear e0 hzv
          go_enter Tryd.func31, Tryd.ntmps31
          go_wp2_with fail
          refine hk.mono ?_
          rintro e w1 ⟨rfl, rfl⟩
          go_wp2_with fail
          refine (refuse_no g 1 w (by first | rfl | assumption | (rw [decide_eq_false_iff_not]; omega))).mono ?_
          rintro e w1 ⟨rfl, rfl⟩
          go_wp2_with fail
          refine hnum.mono ?_
          rintro e w1 ⟨rfl, rfl⟩
          go_wp2_with fail
          refine (refuse_no g 6 w (by first | rfl | assumption | (rw [decide_eq_false_iff_not]; omega))).mono ?_
          rintro e w1 ⟨rfl, rfl⟩
          go_wp2_with fail
          all_goals
            refine (refuse_yes g p 2 w h (by first | rfl | assumption | (rw [Bool.or_eq_true, decide_eq_true_eq, decide_eq_true_eq]; omega) | (rw [decide_eq_true_eq]; omega))).mono ?_
            rintro e w1 ⟨rfl, h1, ho⟩
            go_wp2_with fail
            go_ret
            exact ⟨rfl, h1, ho⟩
        · rw [if_neg c3] at e0
          rw [e0]
          clear e0 hzv
          have c4 : low ≤ ((V : Int) / 2) := by omega
          have c5 : ((V : Int) / 2) ≤ high := by omega
          have c6 : ¬ ((V : Int) / 2) < low := by omega
          have c7 : ¬ high < ((V : Int) / 2) := by omega
          go_enter Tryd.func31, Tryd.ntmps31
          go_wp2_with fail
          refine hk.mono ?_
          rintro e w1 ⟨rfl, rfl⟩
          go_wp2_with fail
          refine (refuse_no g 1 w (by first | rfl | assumption | (rw [decide_eq_false_iff_not]; omega))).mono ?_
          rintro e w1 ⟨rfl, rfl⟩
          go_wp2_with fail
          refine hnum.mono ?_
          rintro e w1 ⟨rfl, rfl⟩
          go_wp2_with fail
          refine (refuse_no g 6 w (by first | rfl | assumption | (rw [decide_eq_false_iff_not]; omega))).mono ?_
          rintro e w1 ⟨rfl, rfl⟩
          go_wp2_with fail
          refine (refuse_no g 2 w (by first | rfl | assumption | (rw [Bool.or_eq_false_iff, decide_eq_false_iff_not, decide_eq_false_iff_not]; omega) | (rw [decide_eq_false_iff_not]; omega))).mono ?_
          rintro e w1 ⟨rfl, rfl⟩
          go_wp2_with fail
          refine (take_any g N p 0 w h (by omega)).mono ?_
          rintro e w1 ⟨A1, c1, rfl, ho1, hr1, hm1⟩
          go_wp2_with fail
          go_ret
          exact ⟨rfl, hr1, hm1⟩
end Go.Proofs.YtfbdfpnmopgkoaaDoor
