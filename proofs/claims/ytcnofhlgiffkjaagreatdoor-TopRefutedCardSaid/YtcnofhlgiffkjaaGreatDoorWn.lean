/- The walks of wire.Reader's Number and Count. -/
import Derived.Test.YtcnofhlgiffkjaaGreatDoorWg
namespace Go.Proofs.YtcnofhlgiffkjaaGreatDoor
open Go.RowKit
set_option linter.unusedVariables false
set_option linter.unusedSimpArgs false

theorem rdU_le (most : Nat) (p : List UInt8) : (rdU most p).1 ≤ most := by
  unfold rdU
  split
  · exact Nat.zero_le _
  · split
    · exact Nat.zero_le _
    · show (num p).1 ≤ most
      omega
/-- What Count reads: the number, what is left, the error. -/
def rdC (most : Nat) (p : List UInt8) : Nat × List UInt8 × Int :=
  if (num p).2 = 0 then (0, p, 6) else if most < (num p).1 then (0, p, 3) else ((num p).1, p.drop (num p).2, 0)
/-- Number, behind an error. -/
theorem rNumber_bad (g : Nat) (p : List UInt8) (er : Int) (most : Int) (w : World) (h : RdAt w g p er) (he : er ≠ 0) :
    Calls Tryz.prog 41 #[.pointer (some ⟨g, 0, none⟩), .int .i64 most] w fun e w' => e = .returned (.int .i64 0) ∧ w = w' := by
  have hk := ok_any g p er w h
  rw [beq_false_of_ne he] at hk
  go_enter Tryz.func41, Tryz.ntmps41
  go_wp2_with fail
  refine hk.mono ?_
  rintro e w1 ⟨rfl, rfl⟩
  go_wp2_with fail
  go_ret
  exact ⟨rfl, rfl⟩
set_option maxHeartbeats 4000000 in
set_option maxRecDepth 100000 in
/-- Number. -/
theorem rNumber_any (g : Nat) (p : List UInt8) (most : Nat) (w : World) (h : RdAt w g p 0) (hm : most ≤ 9223372036854775807) :
    Calls Tryz.prog 41 #[.pointer (some ⟨g, 0, none⟩), .int .i64 (most : Int)] w fun e w' => e = .returned (.int .i64 ((rdU most p).1 : Nat)) ∧ RdAt w' g (rdU most p).2.1 (rdU most p).2.2 ∧ Only w w' g := by
  have hk := ok_any g p 0 w h
  have hU := rUint_any g p most w h
  have hle := rdU_le most p
  generalize rdU most p = x at hU hle ⊢
  obtain ⟨V, p', e'⟩ := x
  simp only [] at hU hle ⊢
  have hV : (V : Int) ≤ 9223372036854775807 := by omega
  have hm' : (most : Int) ≤ 9223372036854775807 := by omega
  clear hm hle
  go_enter Tryz.func41, Tryz.ntmps41
  go_wp2_with fail
  refine hk.mono ?_
  rintro e w1 ⟨rfl, rfl⟩
  go_wp2_with fail
  refine (refuse_no g 1 w (by first | rfl | assumption | (rw [decide_eq_false_iff_not]; omega))).mono ?_
  rintro e w1 ⟨rfl, rfl⟩
  go_wp2_with fail
  refine hU.mono ?_
  rintro e w1 ⟨rfl, h1, ho⟩
  go_wp2_with fail
  go_ret
  exact ⟨rfl, h1, ho⟩
/-- Count, behind an error. -/
theorem rCount_bad (g : Nat) (p : List UInt8) (er : Int) (most : Int) (w : World) (h : RdAt w g p er) (he : er ≠ 0) :
    Calls Tryz.prog 39 #[.pointer (some ⟨g, 0, none⟩), .int .i64 most] w fun e w' => e = .returned (.int .i64 0) ∧ w = w' := by
  have hk := ok_any g p er w h
  rw [beq_false_of_ne he] at hk
  go_enter Tryz.func39, Tryz.ntmps39
  go_wp2_with fail
  refine hk.mono ?_
  rintro e w1 ⟨rfl, rfl⟩
  go_wp2_with fail
  go_ret
  exact ⟨rfl, rfl⟩
set_option maxHeartbeats 8000000 in
set_option maxRecDepth 100000 in
/-- Count. -/
theorem rCount_any (g : Nat) (p : List UInt8) (most : Nat) (w : World) (h : RdAt w g p 0) (hm : most ≤ 9223372036854775807) :
    Calls Tryz.prog 39 #[.pointer (some ⟨g, 0, none⟩), .int .i64 (most : Int)] w fun e w' => e = .returned (.int .i64 ((rdC most p).1 : Nat)) ∧ RdAt w' g (rdC most p).2.1 (rdC most p).2.2 ∧ Only w w' g := by
  have hk := ok_any g p 0 w h
  have hnum := number_any g p 0 w h
  obtain ⟨l1, l2⟩ := num_le p
  have hm' : (most : Int) ≤ 9223372036854775807 := by omega
  by_cases c2 : (num p).2 = 0
  · have e : rdC most p = (0, p, 6) := by unfold rdC; rw [if_pos c2]
    rw [e]
    clear e
    rw [c2] at hnum
    go_enter Tryz.func39, Tryz.ntmps39
    go_wp2_with fail
    refine hk.mono ?_
    rintro e w1 ⟨rfl, rfl⟩
    go_wp2_with fail
    refine (refuse_no g 1 w (by first | rfl | assumption | (rw [decide_eq_false_iff_not]; omega))).mono ?_
    rintro e w1 ⟨rfl, rfl⟩
    go_wp2_with fail
    refine hnum.mono ?_
    rintro e w1 ⟨rfl, rfl⟩
    go_wp2_with fail
    refine (refuse_yes g p 6 w h (by first | rfl | assumption | (rw [decide_eq_true_eq]; omega))).mono ?_
    rintro e w1 ⟨rfl, h1, ho⟩
    go_wp2_with fail
    go_ret
    exact ⟨rfl, h1, ho⟩
  · obtain ⟨N, hN⟩ : ∃ N, N = (num p).2 := ⟨_, rfl⟩
    obtain ⟨V, hV⟩ : ∃ V, V = (num p).1 := ⟨_, rfl⟩
    have e0 : rdC most p = if most < V then (0, p, 3) else (V, p.drop N, 0) := by
      unfold rdC; rw [if_neg c2, ← hN, ← hV]
    rw [← hN, ← hV] at hnum
    rw [← hN] at l2 c2
    rw [← hV] at l1
    clear hN hV
    have c2' : ((N : Int) == 0) = false := beq_false_of_ne (by omega)
    by_cases c3 : most < V
    · rw [if_pos c3] at e0
      rw [e0]
      clear e0
      have c3' : (most : Int) < (V : Int) := by omega
      go_enter Tryz.func39, Tryz.ntmps39
      go_wp2_with fail
      refine hk.mono ?_
      rintro e w1 ⟨rfl, rfl⟩
      go_wp2_with fail
      refine (refuse_no g 1 w (by first | rfl | assumption | (rw [decide_eq_false_iff_not]; omega))).mono ?_
      rintro e w1 ⟨rfl, rfl⟩
      go_wp2_with fail
      refine hnum.mono ?_
      rintro e w1 ⟨rfl, rfl⟩
      go_wp2_with fail
      refine (refuse_no g 6 w (by first | rfl | assumption | (rw [decide_eq_false_iff_not]; omega))).mono ?_
      rintro e w1 ⟨rfl, rfl⟩
      go_wp2_with fail
      refine (refuse_yes g p 3 w h (by first | rfl | assumption | (rw [decide_eq_true_eq]; omega))).mono ?_
      rintro e w1 ⟨rfl, h1, ho⟩
      go_wp2_with fail
      go_ret
      exact ⟨rfl, h1, ho⟩
    · rw [if_neg c3] at e0
      rw [e0]
      clear e0
      have c3' : ¬ (most : Int) < (V : Int) := by omega
      have c4' : (V : Int) ≤ 9223372036854775807 := by omega
      go_enter Tryz.func39, Tryz.ntmps39
      go_wp2_with fail
      refine hk.mono ?_
      rintro e w1 ⟨rfl, rfl⟩
      go_wp2_with fail
      refine (refuse_no g 1 w (by first | rfl | assumption | (rw [decide_eq_false_iff_not]; omega))).mono ?_
      rintro e w1 ⟨rfl, rfl⟩
      go_wp2_with fail
      refine hnum.mono ?_
      rintro e w1 ⟨rfl, rfl⟩
      go_wp2_with fail
      refine (refuse_no g 6 w (by first | rfl | assumption | (rw [decide_eq_false_iff_not]; omega))).mono ?_
      rintro e w1 ⟨rfl, rfl⟩
      go_wp2_with fail
      refine (refuse_no g 3 w (by first | rfl | assumption | (rw [decide_eq_false_iff_not]; omega))).mono ?_
      rintro e w1 ⟨rfl, rfl⟩
      go_wp2_with fail
      refine (take_any g N p 0 w h (by omega)).mono ?_
      rintro e w1 ⟨A1, c1, rfl, ho1, hr1, hm1⟩
      go_wp2_with fail
      go_ret
      exact ⟨rfl, hr1, hm1⟩
end Go.Proofs.YtcnofhlgiffkjaaGreatDoor
