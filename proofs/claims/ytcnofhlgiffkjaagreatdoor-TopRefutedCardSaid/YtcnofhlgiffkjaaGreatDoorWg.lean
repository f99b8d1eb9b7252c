/- The walks of wire.Reader's Uint and Left, of wire.Writer's Int, String, Flag. -/
import Derived.Test.YtcnofhlgiffkjaaGreatDoorWd
namespace Go.Proofs.YtcnofhlgiffkjaaGreatDoor
open Go.RowKit
set_option linter.unusedVariables false
set_option linter.unusedSimpArgs false

/-- What Uint reads: the number, what is left, the error. -/
def rdU (most : Nat) (p : List UInt8) : Nat × List UInt8 × Int :=
  if (num p).2 = 0 then (0, p, 6) else if most < (num p).1 then (0, p, 2) else ((num p).1, p.drop (num p).2, 0)

/-- Uint, behind an error. -/
theorem rUint_bad (g : Nat) (p : List UInt8) (er : Int) (most : Int) (w : World) (h : RdAt w g p er) (he : er ≠ 0) :
    Calls Tryz.prog 81 #[.pointer (some ⟨g, 0, none⟩), .int .u64 most] w fun e w' => e = .returned (.int .u64 0) ∧ w = w' := by
  have hk := ok_any g p er w h
  rw [beq_false_of_ne he] at hk
  go_enter Tryz.func81, Tryz.ntmps81
  go_wp2_with fail
  refine hk.mono ?_
  rintro e w1 ⟨rfl, rfl⟩
  go_wp2_with fail
  go_ret
  exact ⟨rfl, rfl⟩

set_option maxHeartbeats 4000000 in
set_option maxRecDepth 100000 in
/-- Uint. -/
theorem rUint_any (g : Nat) (p : List UInt8) (most : Nat) (w : World) (h : RdAt w g p 0) :
    Calls Tryz.prog 81 #[.pointer (some ⟨g, 0, none⟩), .int .u64 (most : Int)] w fun e w' => e = .returned (.int .u64 ((rdU most p).1 : Nat)) ∧ RdAt w' g (rdU most p).2.1 (rdU most p).2.2 ∧ Only w w' g := by
  have hk := ok_any g p 0 w h
  have hnum := number_any g p 0 w h
  obtain ⟨l1, l2⟩ := num_le p
  by_cases c2 : (num p).2 = 0
  · have e : rdU most p = (0, p, 6) := by unfold rdU; rw [if_pos c2]
    rw [e]
    clear e
    rw [c2] at hnum
    go_enter Tryz.func81, Tryz.ntmps81
    go_wp2_with fail
    refine hk.mono ?_
    rintro e w1 ⟨rfl, rfl⟩
    go_wp2_with fail
    refine hnum.mono ?_
    rintro e w1 ⟨rfl, rfl⟩
    go_wp2_with fail
    refine (refuse_yes g p 6 w h (by first | rfl | assumption | (rw [decide_eq_true_eq]; omega))).mono ?_
    rintro e w1 ⟨rfl, h1, ho⟩
    go_wp2_with fail
    go_ret
    exact ⟨rfl, h1, ho⟩
  · obtain ⟨N, hN⟩ : ∃ N, N = (num p).2 := ⟨_, rfl⟩
    obtain ⟨V, hV⟩ : ∃ V, V = (num p).1 := ⟨_, rfl⟩
    have e0 : rdU most p = if most < V then (0, p, 2) else (V, p.drop N, 0) := by
      unfold rdU; rw [if_neg c2, ← hN, ← hV]
    rw [← hN, ← hV] at hnum
    rw [← hN] at l2 c2
    rw [← hV] at l1
    clear hN hV
    have c2' : ((N : Int) == 0) = false := beq_false_of_ne (by omega)
    by_cases c3 : most < V
    · rw [if_pos c3] at e0
      rw [e0]
      clear e0
      have c3' : (most : Int) < (V : Int) := by omega
      go_enter Tryz.func81, Tryz.ntmps81
      go_wp2_with fail
      refine hk.mono ?_
      rintro e w1 ⟨rfl, rfl⟩
      go_wp2_with fail
      refine hnum.mono ?_
      rintro e w1 ⟨rfl, rfl⟩
      go_wp2_with fail
      refine (refuse_no g 6 w (by first | rfl | assumption | (rw [decide_eq_false_iff_not]; omega))).mono ?_
      rintro e w1 ⟨rfl, rfl⟩
      go_wp2_with fail
      refine (refuse_yes g p 2 w h (by first | rfl | assumption | (rw [decide_eq_true_eq]; omega))).mono ?_
      rintro e w1 ⟨rfl, h1, ho⟩
      go_wp2_with fail
      go_ret
      exact ⟨rfl, h1, ho⟩
    · rw [if_neg c3] at e0
      rw [e0]
      clear e0
      have c3' : ¬ (most : Int) < (V : Int) := by omega
      go_enter Tryz.func81, Tryz.ntmps81
      go_wp2_with fail
      refine hk.mono ?_
      rintro e w1 ⟨rfl, rfl⟩
      go_wp2_with fail
      refine hnum.mono ?_
      rintro e w1 ⟨rfl, rfl⟩
      go_wp2_with fail
      refine (refuse_no g 6 w (by first | rfl | assumption | (rw [decide_eq_false_iff_not]; omega))).mono ?_
      rintro e w1 ⟨rfl, rfl⟩
      go_wp2_with fail
      refine (refuse_no g 2 w (by first | rfl | assumption | (rw [decide_eq_false_iff_not]; omega))).mono ?_
      rintro e w1 ⟨rfl, rfl⟩
      go_wp2_with fail
      refine (take_any g N p 0 w h (by omega)).mono ?_
      rintro e w1 ⟨A1, c1, rfl, ho1, hr1, hm1⟩
      go_wp2_with fail
      go_ret
      exact ⟨rfl, hr1, hm1⟩

/-- Left. -/
theorem left_any (g : Nat) (p : List UInt8) (er : Int) (w : World) (h : RdAt w g p er) :
    Calls Tryz.prog 82 #[.pointer (some ⟨g, 0, none⟩)] w fun e w' => e = .returned (.int .i64 (p.length : Nat)) ∧ w = w' := by
  obtain ⟨A, n, c, h⟩ := h
  obtain ⟨c0, c1, f0, f1⟩ := h.cells
  have Hl := Lib.hid h.len
  go_enter Tryz.func82, Tryz.ntmps82
  go_wp2_with fail
  go_ret
  exact ⟨by rw [Hl.out]; rfl, rfl⟩

/-- The number of a number with a sign. -/
def zig (z : Int) : Nat := if z < 0 then 2 * (-(z + 1)).toNat + 1 else 2 * z.toNat
theorem zig_lt {z : Int} (h1 : -9223372036854775808 ≤ z) (h2 : z ≤ 9223372036854775807) : zig z < 18446744073709551616 := by
  unfold zig
  split <;> omega

end Go.Proofs.YtcnofhlgiffkjaaGreatDoor
