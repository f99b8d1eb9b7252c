/- wire.Reader's Number, Count, Raw of whatever number, and what they read. -/
import Derived.Test.YtfbdfpnmopgkoaaDoorRrdK
namespace Go.Proofs.YtfbdfpnmopgkoaaDoor
open Go.RowKit
set_option linter.unusedVariables false
set_option linter.unusedSimpArgs false

set_option maxRecDepth 100000 in
/-- Number. -/
theorem rNumber_any (g : Nat) (p : List UInt8) (most : Int) (w : World) (h : RdAt w g p 0) (hm : most ≤ 9223372036854775807) :
    Calls Tryd.prog 29 #[.pointer (some ⟨g, 0, none⟩), .int .i64 most] w fun e w' => e = .returned (.int .i64 (rdN most p).1) ∧ RdAt w' g (rdN most p).2.1 (rdN most p).2.2 ∧ Only w w' g := by
  have hk := ok_any g p 0 w h
  by_cases c1 : most < 0
  · have e : rdN most p = (0, p, 1) := by unfold rdN; rw [if_pos c1]
    rw [e]
    clear e
    go_enter Tryd.func29, Tryd.ntmps29
    go_wp2_with fail
    refine hk.mono ?_
    rintro e w1 ⟨rfl, rfl⟩
    go_wp2_with fail
    refine (refuse_yes g p 1 w h (by first | rfl | assumption | (rw [decide_eq_true_eq]; omega))).mono ?_
    rintro e w1 ⟨rfl, h1, ho⟩
    go_wp2_with fail
    go_ret
    exact ⟨rfl, h1, ho⟩
  · have e : rdN most p = ((((rdU most.toNat p).1 : Nat) : Int), (rdU most.toNat p).2) := by unfold rdN; rw [if_neg c1]
    rw [e]
    clear e
    obtain ⟨M, rfl⟩ := Int.eq_ofNat_of_zero_le (show 0 ≤ most by omega)
    have hu := rUint_any g p M w h
    have hle : (rdU M p).1 ≤ M := rdU_le M p
    simp only [Int.toNat_natCast]
    generalize rdU M p = R at hu hle ⊢
    go_enter Tryd.func29, Tryd.ntmps29
    go_wp2_with fail
    refine hk.mono ?_
    rintro e w1 ⟨rfl, rfl⟩
    go_wp2_with fail
    refine (refuse_no g 1 w (by first | rfl | assumption | (rw [decide_eq_false_iff_not]; omega))).mono ?_
    rintro e w1 ⟨rfl, rfl⟩
    go_wp2_with fail
    refine hu.mono ?_
    rintro e w1 ⟨rfl, h1, ho⟩
    go_wp2_with fail
    go_ret
    exact ⟨rfl, h1, ho⟩

set_option maxHeartbeats 4000000 in
set_option maxRecDepth 100000 in
/-- Count. -/
theorem rCount_any (g : Nat) (p : List UInt8) (most : Int) (w : World) (h : RdAt w g p 0) (hm : most ≤ 9223372036854775807) :
    Calls Tryd.prog 38 #[.pointer (some ⟨g, 0, none⟩), .int .i64 most] w fun e w' => e = .returned (.int .i64 ((rdC most p).1 : Nat)) ∧ RdAt w' g (rdC most p).2.1 (rdC most p).2.2 ∧ Only w w' g := by
  have hk := ok_any g p 0 w h
  have hnum := number_any g p 0 w h
  obtain ⟨l1, l2⟩ := num_le p
  by_cases c1 : most < 0
  · have e : rdC most p = (0, p, 1) := by unfold rdC; rw [if_pos c1]
    rw [e]
    clear e
    go_enter Tryd.func38, Tryd.ntmps38
    go_wp2_with fail
    refine hk.mono ?_
    rintro e w1 ⟨rfl, rfl⟩
    go_wp2_with fail
    refine (refuse_yes g p 1 w h (by first | rfl | assumption | (rw [decide_eq_true_eq]; omega))).mono ?_
    rintro e w1 ⟨rfl, h1, ho⟩
    go_wp2_with fail
    go_ret
    exact ⟨rfl, h1, ho⟩
  · have c1' : 0 ≤ most := by omega
    by_cases c2 : (num p).2 = 0
    · have e : rdC most p = (0, p, 6) := by unfold rdC; rw [if_neg c1, if_pos c2]
      rw [e]
      clear e
      rw [c2] at hnum
      go_enter Tryd.func38, Tryd.ntmps38
      go_wp2_with fail
      refine hk.mono ?_
      rintro e w1 ⟨rfl, rfl⟩
      go_wp2_with fail
      refine (refuse_no g 1 w (by first | rfl | assumption | (rw [decide_eq_false_iff_not]; omega))).mono ?_
      rintro e w1 ⟨rfl, rfl⟩
      go_wp2_with fail
      refine hnum.mono ?_
      rintro e w1 ⟨rfl, rfl⟩
      go_wp2_with fail
      refine (refuse_yes g p 6 w h (by first | rfl | assumption | (rw [decide_eq_true_eq]; omega))).mono ?_
      rintro e w1 ⟨rfl, h1, ho⟩
      go_wp2_with fail
      go_ret
      exact ⟨rfl, h1, ho⟩
    · obtain ⟨N, hN⟩ : ∃ N, N = (num p).2 := ⟨_, rfl⟩
      obtain ⟨V, hV⟩ : ∃ V, V = (num p).1 := ⟨_, rfl⟩
      have e0 : rdC most p = if most < (V : Nat) then (0, p, 3) else (V, p.drop N, 0) := by
        unfold rdC; rw [if_neg c1, if_neg c2, ← hN, ← hV]
      rw [← hN, ← hV] at hnum
      rw [← hN] at l2 c2
      rw [← hV] at l1
      clear hN hV
      have c2' : ((N : Int) == 0) = false := beq_false_of_ne (by omega)
      by_cases c3 : most < (V : Int)
      · rw [if_pos c3] at e0
        rw [e0]
        clear e0
        go_enter Tryd.func38, Tryd.ntmps38
        go_wp2_with fail
        refine hk.mono ?_
        rintro e w1 ⟨rfl, rfl⟩
        go_wp2_with fail
        refine (refuse_no g 1 w (by first | rfl | assumption | (rw [decide_eq_false_iff_not]; omega))).mono ?_
        rintro e w1 ⟨rfl, rfl⟩
        go_wp2_with fail
        refine hnum.mono ?_
        rintro e w1 ⟨rfl, rfl⟩
        go_wp2_with fail
        refine (refuse_no g 6 w (by first | rfl | assumption | (rw [decide_eq_false_iff_not]; omega))).mono ?_
        rintro e w1 ⟨rfl, rfl⟩
        go_wp2_with fail
        refine (refuse_yes g p 3 w h (by first | rfl | assumption | (rw [decide_eq_true_eq]; omega))).mono ?_
        rintro e w1 ⟨rfl, h1, ho⟩
        go_wp2_with fail
        go_ret
        exact ⟨rfl, h1, ho⟩
      · rw [if_neg c3] at e0
        rw [e0]
        clear e0
        have c3' : (V : Int) ≤ 9223372036854775807 := by omega
        go_enter Tryd.func38, Tryd.ntmps38
        go_wp2_with fail
        refine hk.mono ?_
        rintro e w1 ⟨rfl, rfl⟩
        go_wp2_with fail
        refine (refuse_no g 1 w (by first | rfl | assumption | (rw [decide_eq_false_iff_not]; omega))).mono ?_
        rintro e w1 ⟨rfl, rfl⟩
        go_wp2_with fail
        refine hnum.mono ?_
        rintro e w1 ⟨rfl, rfl⟩
        go_wp2_with fail
        refine (refuse_no g 6 w (by first | rfl | assumption | (rw [decide_eq_false_iff_not]; omega))).mono ?_
        rintro e w1 ⟨rfl, rfl⟩
        go_wp2_with fail
        refine (refuse_no g 3 w (by first | rfl | assumption | (rw [decide_eq_false_iff_not]; omega))).mono ?_
        rintro e w1 ⟨rfl, rfl⟩
        go_wp2_with fail
        refine (take_any g N p 0 w h (by omega)).mono ?_
        rintro e w1 ⟨A1, c1, rfl, ho1, hr1, hm1⟩
        go_wp2_with fail
        go_ret
        exact ⟨rfl, hr1, hm1⟩

/-- Raw. -/
theorem rRawZ_any (g : Nat) (p : List UInt8) (most : Int) (w : World) (h : RdAt w g p 0) (hm : most ≤ 9223372036854775807) :
    Calls Tryd.prog 36 #[.pointer (some ⟨g, 0, none⟩), .int .i64 most] w fun e w' => ∃ A n c, e = .returned (.slice A n c) ∧ OwnB w' w.heap.size (.slice A n c) n (rdZ most p).1 ∧ RdAt w' g (rdZ most p).2.1 (rdZ most p).2.2 ∧ Only w w' g := by
  by_cases c1 : most < 0
  · have e : rdZ most p = ([], p, 1) := by unfold rdZ; rw [if_pos c1]
    rw [e]
    clear e
    have hk := ok_any g p 0 w h
    go_enter Tryd.func36, Tryd.ntmps36
    go_wp2_with fail
    refine hk.mono ?_
    rintro e w1 ⟨rfl, rfl⟩
    go_wp2_with fail
    refine (refuse_yes g p 1 w h (by first | rfl | assumption | (rw [decide_eq_true_eq]; omega))).mono ?_
    rintro e w1 ⟨rfl, h1, ho⟩
    go_wp2_with fail
    go_ret
    exact ⟨none, 0, 0, rfl, OwnB.nil _ _, h1, ho⟩
  · obtain ⟨K, rfl⟩ := Int.eq_ofNat_of_zero_le (show 0 ≤ most by omega)
    have e : rdZ (K : Int) p = rdR K p := by unfold rdZ; rw [if_neg c1, Int.toNat_natCast]
    rw [e]
    exact rRaw_any g p K w h (by omega)
end Go.Proofs.YtfbdfpnmopgkoaaDoor
