/- The walk of wire.Reader's Bytes. -/
import Derived.Test.YtfbdfpnmopgkoaaDoorWireD
namespace Go.Proofs.YtfbdfpnmopgkoaaDoor
open Go.RowKit
set_option linter.unusedVariables false
set_option linter.unusedSimpArgs false

/-- What Bytes reads: the bytes, what is left, the error. -/
def rdB (most : Int) (p : List UInt8) : List UInt8 × List UInt8 × Int :=
  if most < 0 then ([], p, 1) else if (num p).2 = 0 then ([], p, 6) else if most < ((num p).1 : Nat) then ([], p, 3)
  else if p.length - (num p).2 < (num p).1 then ([], p, 6) else ((p.drop (num p).2).take (num p).1, (p.drop (num p).2).drop (num p).1, 0)

/-- Bytes, behind an error. -/
theorem rBytes_bad (g : Nat) (p : List UInt8) (er most : Int) (w : World) (h : RdAt w g p er) (he : er ≠ 0) :
    Calls Tryd.prog 16 #[.pointer (some ⟨g, 0, none⟩), .int .i64 most] w fun e w' => e = .returned (.slice none 0 0) ∧ w = w' := by
  have hk := ok_any g p er w h
  rw [beq_false_of_ne he] at hk
  go_enter Tryd.func16, Tryd.ntmps16
  go_wp2_with fail
  refine hk.mono ?_
  rintro e w1 ⟨rfl, rfl⟩
  go_wp2_with fail
  go_ret
  exact ⟨rfl, rfl⟩

set_option maxHeartbeats 4000000 in
set_option maxRecDepth 100000 in
/-- Bytes. -/
theorem rBytes_any (g : Nat) (p : List UInt8) (most : Int) (w : World) (h : RdAt w g p 0) (hm1 : -9223372036854775808 ≤ most) (hm2 : most ≤ 9223372036854775807) :
    Calls Tryd.prog 16 #[.pointer (some ⟨g, 0, none⟩), .int .i64 most] w fun e w' => ∃ A n c, e = .returned (.slice A n c) ∧ OwnB w' w.heap.size (.slice A n c) n (rdB most p).1 ∧ RdAt w' g (rdB most p).2.1 (rdB most p).2.2 ∧ Only w w' g := by
  have hk := ok_any g p 0 w h
  have hnum := number_any g p 0 w h
  obtain ⟨l1, l2⟩ := num_le p
  by_cases c1 : most < 0
  · have e : rdB most p = ([], p, 1) := by unfold rdB; rw [if_pos c1]
    rw [e]
    clear e
    go_enter Tryd.func16, Tryd.ntmps16
    go_wp2_with fail
    refine hk.mono ?_
    rintro e w1 ⟨rfl, rfl⟩
    go_wp2_with fail
    refine (refuse_yes g p 1 w h (by first | rfl | assumption | (rw [decide_eq_true_eq]; omega) | (rw [decide_eq_false_iff_not]; omega))).mono ?_
    rintro e w1 ⟨rfl, h1, ho⟩
    go_wp2_with fail
    go_ret
    exact ⟨none, 0, 0, rfl, OwnB.nil _ _, h1, ho⟩
  · by_cases c2 : (num p).2 = 0
    · have e : rdB most p = ([], p, 6) := by unfold rdB; rw [if_neg c1, if_pos c2]
      rw [e]
      clear e
      rw [c2] at hnum
      have c1' : ¬ most < 0 := c1
      go_enter Tryd.func16, Tryd.ntmps16
      go_wp2_with fail
      refine hk.mono ?_
      rintro e w1 ⟨rfl, rfl⟩
      go_wp2_with fail
      refine (refuse_no g 1 w (by first | rfl | assumption | (rw [decide_eq_true_eq]; omega) | (rw [decide_eq_false_iff_not]; omega))).mono ?_
      rintro e w1 ⟨rfl, rfl⟩
      go_wp2_with fail
      refine hnum.mono ?_
      rintro e w1 ⟨rfl, rfl⟩
      go_wp2_with fail
      refine (refuse_yes g p 6 w h (by first | rfl | assumption | (rw [decide_eq_true_eq]; omega) | (rw [decide_eq_false_iff_not]; omega))).mono ?_
      rintro e w1 ⟨rfl, h1, ho⟩
      go_wp2_with fail
      go_ret
      exact ⟨none, 0, 0, rfl, OwnB.nil _ _, h1, ho⟩
    · obtain ⟨N, hN⟩ : ∃ N, N = (num p).2 := ⟨_, rfl⟩
      obtain ⟨V, hV⟩ : ∃ V, V = (num p).1 := ⟨_, rfl⟩
      have e0 : rdB most p = if most < (V : Nat) then ([], p, 3) else if p.length - N < V then ([], p, 6) else ((p.drop N).take V, (p.drop N).drop V, 0) := by
        unfold rdB; rw [if_neg c1, if_neg c2, ← hN, ← hV]
      rw [← hN, ← hV] at hnum
      rw [← hN] at l2 c2
      rw [← hV] at l1
      clear hN hV
      have c2' : ((N : Int) == 0) = false := beq_false_of_ne (by omega)
      have c1' : 0 ≤ most := by omega
      by_cases c3 : most < (V : Int)
      · rw [if_pos c3] at e0
        rw [e0]
        clear e0
        go_enter Tryd.func16, Tryd.ntmps16
        go_wp2_with fail
        refine hk.mono ?_
        rintro e w1 ⟨rfl, rfl⟩
        go_wp2_with fail
        refine (refuse_no g 1 w (by first | rfl | assumption | (rw [decide_eq_true_eq]; omega) | (rw [decide_eq_false_iff_not]; omega))).mono ?_
        rintro e w1 ⟨rfl, rfl⟩
        go_wp2_with fail
        refine hnum.mono ?_
        rintro e w1 ⟨rfl, rfl⟩
        go_wp2_with fail
        refine (refuse_no g 6 w (by first | rfl | assumption | (rw [decide_eq_true_eq]; omega) | (rw [decide_eq_false_iff_not]; omega))).mono ?_
        rintro e w1 ⟨rfl, rfl⟩
        go_wp2_with fail
        refine (refuse_yes g p 3 w h (by first | rfl | assumption | (rw [decide_eq_true_eq]; omega) | (rw [decide_eq_false_iff_not]; omega))).mono ?_
        rintro e w1 ⟨rfl, h1, ho⟩
        go_wp2_with fail
        go_ret
        exact ⟨none, 0, 0, rfl, OwnB.nil _ _, h1, ho⟩
      · rw [if_neg c3] at e0
        have h' := h
        obtain ⟨A, n, c, h'⟩ := h'
        obtain ⟨d0, d1, f0, f1⟩ := h'.cells
        have hlen := h'.len
        have hbig := h'.big
        rw [hlen] at e0 l2
        have hnN : 0 ≤ (n : Int) - (N : Int) := by omega
        have hnN2 : (n : Int) - (N : Int) ≤ 1000000000000 := by omega
        by_cases c4 : n - N < V
        · rw [if_pos c4] at e0
          rw [e0]
          clear e0
          have c4' : (n : Int) - (N : Int) < (V : Int) := by omega
          go_enter Tryd.func16, Tryd.ntmps16
          go_wp2_with fail
          refine hk.mono ?_
          rintro e w1 ⟨rfl, rfl⟩
          go_wp2_with fail
          refine (refuse_no g 1 w (by first | rfl | assumption | (rw [decide_eq_true_eq]; omega) | (rw [decide_eq_false_iff_not]; omega))).mono ?_
          rintro e w1 ⟨rfl, rfl⟩
          go_wp2_with fail
          refine hnum.mono ?_
          rintro e w1 ⟨rfl, rfl⟩
          go_wp2_with fail
          refine (refuse_no g 6 w (by first | rfl | assumption | (rw [decide_eq_true_eq]; omega) | (rw [decide_eq_false_iff_not]; omega))).mono ?_
          rintro e w1 ⟨rfl, rfl⟩
          go_wp2_with fail
          refine (refuse_no g 3 w (by first | rfl | assumption | (rw [decide_eq_true_eq]; omega) | (rw [decide_eq_false_iff_not]; omega))).mono ?_
          rintro e w1 ⟨rfl, rfl⟩
          go_wp2_with fail
          refine (refuse_yes g p 6 w h (by first | rfl | assumption | (rw [decide_eq_true_eq]; omega) | (rw [decide_eq_false_iff_not]; omega))).mono ?_
          rintro e w1 ⟨rfl, h1, ho⟩
          go_wp2_with fail
          go_ret
          exact ⟨none, 0, 0, rfl, OwnB.nil _ _, h1, ho⟩
        · rw [if_neg c4] at e0
          rw [e0]
          clear e0
          have c4' : ¬ (n : Int) - (N : Int) < (V : Int) := by omega
          have hVw : (V : Int) ≤ 9223372036854775807 := by omega
          go_enter Tryd.func16, Tryd.ntmps16
          go_wp2_with fail
          refine hk.mono ?_
          rintro e w1 ⟨rfl, rfl⟩
          go_wp2_with fail
          refine (refuse_no g 1 w (by first | rfl | assumption | (rw [decide_eq_true_eq]; omega) | (rw [decide_eq_false_iff_not]; omega))).mono ?_
          rintro e w1 ⟨rfl, rfl⟩
          go_wp2_with fail
          refine hnum.mono ?_
          rintro e w1 ⟨rfl, rfl⟩
          go_wp2_with fail
          refine (refuse_no g 6 w (by first | rfl | assumption | (rw [decide_eq_true_eq]; omega) | (rw [decide_eq_false_iff_not]; omega))).mono ?_
          rintro e w1 ⟨rfl, rfl⟩
          go_wp2_with fail
          refine (refuse_no g 3 w (by first | rfl | assumption | (rw [decide_eq_true_eq]; omega) | (rw [decide_eq_false_iff_not]; omega))).mono ?_
          rintro e w1 ⟨rfl, rfl⟩
          go_wp2_with fail
          refine (refuse_no g 6 w (by first | rfl | assumption | (rw [decide_eq_true_eq]; omega) | (rw [decide_eq_false_iff_not]; omega))).mono ?_
          rintro e w1 ⟨rfl, rfl⟩
          go_wp2_with fail
          refine (take_any g N p 0 w h (by omega)).mono ?_
          rintro e w1 ⟨A1, c1, rfl, ho1, hr1, hm1⟩
          go_wp2_with fail
          refine (take_any g V _ 0 w1 hr1 (by rw [List.length_drop]; omega)).mono ?_
          rintro e w2 ⟨A2, c2, rfl, ho2, hr2, hm2⟩
          go_wp2_with fail
          go_ret
          exact ⟨A2, V, c2, rfl, ho2.more hm1.size, hr2, hm1.trans hm2⟩
end Go.Proofs.YtfbdfpnmopgkoaaDoor
