/- slices.Equal at []int. -/
import Derived.Test.YtcnofhlgiffkjaaGreatDoorPa
namespace Go.Proofs.YtcnofhlgiffkjaaGreatDoor
open Go.RowKit
set_option linter.unusedVariables false
set_option linter.unusedSimpArgs false

/-- slices.Equal: whether the numbers are the same. -/
theorem equalI_any (A A2 : Option Addr) (n c n2 c2 : Nat) (l l2 : List Int) (w : World) (h : Sees w w.heap.size A (l.map iv)) (h2 : Sees w w.heap.size A2 (l2.map iv))
    (hn : l.length = n) (hn2 : l2.length = n2) (hb : n ≤ 140737488355328) :
    Calls Tryz.prog 10 #[.slice A n c, .slice A2 n2 c2] w fun e w' => e = .returned (.bool (l == l2)) ∧ ∃ q, w' = w.drewN q := by
  by_cases hl : n = n2
  · subst hl
    have hB : ((n : Int) != (n : Int)) = false := by simp
    go_enter Tryz.func10, Tryz.ntmps10
    go_wp2
    go_loopw [13] (fun i wr => ∃ k : Nat, k ≤ n ∧ i = .int .i64 k ∧ l.take k = l2.take k ∧ ∃ q, wr = w.drewN q) (fun i _ => n - (intOf i).toNat)
    case atStart => exact ⟨0, Nat.zero_le _, rfl, rfl, 0, rfl⟩
    case round =>
      obtain ⟨k, hk, rfl, ht, q, rfl⟩ := hrel
      have Ht := Lib.hid ht; clear ht
      by_cases hlt : k < n
      · obtain ⟨b, o, x, rfl, hb1, Hx, hc1⟩ := Sees.int (k := k) h (by omega)
        obtain ⟨b2, o2, y, rfl, hb2, Hy, hc2⟩ := Sees.int (k := k) h2 (by omega)
        have Hn := Lib.hid hn; have Hn2 := Lib.hid hn2; clear hn hn2
        by_cases he : x = y
        · have hT : (x != y) = false := by rw [he]; simp
          go_wp2_with fail
          go_quiet (fail)
          go_wp2
          go_roundw
          case rel => exact ⟨k + 1, by omega, by go_num, take_next Ht.out Hx.out (he ▸ Hy.out), _, rfl⟩
          case measure => simp [intOf]; omega
        · have hT : (x != y) = true := by
            rw [bne_iff_ne]
            intro e
            exact he e
          go_wp2_with fail
          go_quiet (fail)
          go_wp2
          go_ret
          refine ⟨ret_bool ?_, _, World.drewN_drewN _ _ _⟩
          symm
          rw [beq_eq_false_iff_ne]
          intro e
          have a1 := Hx.out
          rw [e, Hy.out] at a1
          exact he (by injection a1 with a1; exact a1.symm)
      · go_wp2
        go_ret
        obtain rfl : k = n := by omega
        refine ⟨ret_bool ?_, q, rfl⟩
        symm
        rw [beq_iff_eq]
        have := Ht.out
        rwa [List.take_of_length_le (by omega), List.take_of_length_le (by omega)] at this
  · have hB : ((n : Int) != (n2 : Int)) = true := by simp; omega
    go_enter Tryz.func10, Tryz.ntmps10
    go_wp2
    go_ret
    refine ⟨ret_bool ?_, 0, rfl⟩
    symm
    rw [beq_eq_false_iff_ne]
    intro e
    exact hl (by rw [← hn, ← hn2, e])
end Go.Proofs.YtcnofhlgiffkjaaGreatDoor
