/- The walk of bits.Set's Equal. -/
import Derived.Test.YtfnhaoindehjdaaDoorPa
namespace Go.Proofs.YtfnhaoindehjdaaDoor
open Go.RowKit
set_option linter.unusedVariables false
set_option linter.unusedSimpArgs false

/-- Set.Equal. -/
theorem setEqual_any (v1 v2 : Value) (M1 M2 : Nat) (w : World) (h1 : SetAt w w.heap.size v1 M1) (h2 : SetAt w w.heap.size v2 M2) :
    Calls Tryd.prog 70 #[v1, v2] w fun e w' => e = .returned (.bool (decide (M1 = M2))) ∧ Below w.heap.size w w' := by
  obtain ⟨A, n, c, rfl, a1, a2, a3, s1, _⟩ := h1
  obtain ⟨A2, n2, c2, rfl, d1, d2, d3, s2, _⟩ := h2
  have bA : Below w.heap.size w ((w.alloc (.cells #[.slice A n c] 63)).alloc (.cells #[.slice A2 n2 c2] 63)) := ((Below.refl _ _).alloc (Nat.le_refl _) _).alloc (by simp) _
  have s1 := s1.on bA
  have s2 := s2.on bA
  by_cases hl : n = n2
  · subst hl
    have hB : ((n : Int) != (n : Int)) = false := by simp
    have A3 := Lib.hid a3
    have D3 := Lib.hid d3
    clear a3 d3
    have W' : ∃ W, W = ((w.alloc (.cells #[.slice A n c] 63)).alloc (.cells #[.slice A2 n c2] 63)) := ⟨_, rfl⟩
    go_enter Tryd.func70, Tryd.ntmps70
    go_wp2
    go_loop [17] (fun i => ∃ k : Nat, k ≤ n ∧ i = .int .i64 k ∧ Hid ((dg 64 M1).take k = (dg 64 M2).take k)) (fun i => n - (intOf i).toNat)
    case atStart => exact ⟨0, Nat.zero_le _, rfl, Lib.hid rfl⟩
    case round =>
      obtain ⟨k, hk, rfl, Ht⟩ := hrel
      by_cases hlt : k < n
      · obtain ⟨x, hx, hx1⟩ := dg_some A3.out hlt
        obtain ⟨y, hy, hy1⟩ := dg_some D3.out hlt
        obtain ⟨b, o, rfl, hb1, hc1⟩ := s1.word hx
        obtain ⟨b2, o2, rfl, hb2, hc2⟩ := s2.word hy
        have Hx := Lib.hid hx
        have Hy := Lib.hid hy
        clear hx hy
        by_cases he : x = y
        · have hT : ((x : Int) != (y : Int)) = false := by rw [he]; simp
          go_wp2_with fail
          go_round
          case rel => exact ⟨k + 1, by omega, by go_num, Lib.hid (take_next Ht.out Hx.out (he ▸ Hy.out))⟩
          case measure => simp [intOf]; omega
        · have hT : ((x : Int) != (y : Int)) = true := by
            rw [bne_iff_ne]; omega
          go_wp2_with fail
          go_ret
          refine ⟨ret_bool ?_, bA⟩
          symm
          rw [decide_eq_false_iff_not]
          intro e
          subst e
          have a1 := Hx.out
          rw [Hy.out] at a1
          injection a1 with a1
          exact he a1.symm
      · go_wp2
        go_ret
        obtain rfl : k = n := by omega
        refine ⟨ret_bool ?_, bA⟩
        symm
        rw [decide_eq_true_iff]
        have := Ht.out
        rw [List.take_of_length_le (by rw [dg_length, A3.out]; omega), List.take_of_length_le (by rw [dg_length, D3.out]; omega)] at this
        exact dg_inj this
  · have hB : ((n : Int) != (n2 : Int)) = true := by simp; omega
    have A3 := Lib.hid a3
    have D3 := Lib.hid d3
    clear a3 d3
    go_enter Tryd.func70, Tryd.ntmps70
    go_wp2
    go_ret
    refine ⟨ret_bool ?_, bA⟩
    symm
    rw [decide_eq_false_iff_not]
    intro e
    subst e
    exact hl (by rw [← A3.out, ← D3.out])
end Go.Proofs.YtfnhaoindehjdaaDoor
