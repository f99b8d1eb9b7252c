/- slices.ContainsFunc with RefuteBytes's closure: a number below 0. (gencfb.py) -/
import Derived.Test.YtcdgmdhfaniciaaDoorRBP
import Derived.Test.YtcdgmdhfaniciaaDoorPk
namespace Go.Proofs.YtcdgmdhfaniciaaDoor
open Go.RowKit
set_option linter.unusedVariables false
set_option linter.unusedSimpArgs false

def negB (z : Int) : Bool := decide (z < 0)
theorem rb1_any (z : Int) (w : World) :
    Calls Tryd.prog 37 #[.int .i64 z] w fun e w' => e = .returned (.bool (negB z)) ∧ w = w' := by
  by_cases h : z < 0
  · have e : negB z = true := decide_eq_true h
    rw [e]
    go_enter Tryd.func37, Tryd.ntmps37
    go_wp2_with fail
    go_ret
    exact ⟨rfl, rfl⟩
  · have e : negB z = false := decide_eq_false h
    rw [e]
    go_enter Tryd.func37, Tryd.ntmps37
    go_wp2_with fail
    go_ret
    exact ⟨rfl, rfl⟩

/-- slices.IndexFunc with the closure arbac/arbaclaw41.RefuteBytes$1. -/
theorem idx_rb  (A : Option Addr) (n c : Nat) (l : List Int) (w : World) (h : Sees w w.heap.size A (l.map iv)) (hn : l.length = n) (hb : n ≤ 1000000) :
    Calls Tryd.prog 78 #[.slice A n c, .func (.func 37) #[] #[]] w fun e w' => (∃ z : Int, e = .returned (.int .i64 z) ∧ Hid (decide (0 ≤ z) = l.any (negB))) ∧ w = w' := by
  have Hn := Lib.hid hn
  have hb1 : (n : Int) ≤ 1000000 := by omega
  clear hn
  go_enter Tryd.func78, Tryd.ntmps78
  go_wp2_with fail
  go_loopw [8] (fun i wr => ∃ k : Nat, k ≤ n ∧ i = .int .i64 k ∧ Hid ((l.take k).any (negB) = false) ∧ w = wr) (fun i _ => n - (intOf i).toNat)
  case atStart => exact ⟨0, Nat.zero_le _, rfl, Lib.hid rfl, rfl⟩
  case round =>
    obtain ⟨k, hk, rfl, HP, rfl⟩ := hrel
    by_cases hlt : k < n
    · have hlt' : (k : Int) < (n : Int) := by omega
      obtain ⟨b, o, z, rfl, hb2, Hz, hc⟩ := Sees.int (k := k) h (by rw [Hn.out]; exact hlt)
      have hcall := rb1_any z w
      have hnext : (l.take (k + 1)).any (negB) = ((l.take k).any (negB) || (negB) z) := by
        rw [List.take_add_one, Hz.out]; simp
      rw [HP.out, Bool.false_or] at hnext
      have Hnext := Lib.hid hnext
      clear hnext
      by_cases hz : (negB) z = true
      · rw [hz] at hcall Hnext
        clear hz
        go_wp2_with fail
        refine hcall.mono ?_
        rintro e w1 ⟨rfl, rfl⟩
        go_wp2_with fail
        go_ret
        refine ⟨⟨k, rfl, Lib.hid ?_⟩, rfl⟩
        rw [decide_eq_true (by omega)]
        symm
        have h1 := Hnext.out
        obtain ⟨x, hx, hp⟩ := List.any_eq_true.1 h1
        exact List.any_eq_true.2 ⟨x, List.mem_of_mem_take hx, hp⟩
      · have hz : (negB) z = false := by simpa using hz
        rw [hz] at hcall Hnext
        clear hz
        go_wp2_with fail
        refine hcall.mono ?_
        rintro e w1 ⟨rfl, rfl⟩
        go_wp2_with fail
        go_roundw
        case rel => exact ⟨k + 1, by omega, by go_num, Hnext, by simp⟩
        case measure => simp [intOf]; omega
    · obtain rfl : k = n := by omega
      go_wp2_with fail
      go_ret
      refine ⟨⟨-1, rfl, Lib.hid ?_⟩, rfl⟩
      have h1 := HP.out
      rw [List.take_of_length_le (by rw [Hn.out]; exact Nat.le_refl _)] at h1
      rw [h1]
      rfl
/-- slices.ContainsFunc with the closure arbac/arbaclaw41.RefuteBytes$1. -/
theorem cf_rb  (A : Option Addr) (n c : Nat) (l : List Int) (w : World) (h : Sees w w.heap.size A (l.map iv)) (hn : l.length = n) (hb : n ≤ 1000000) :
    Calls Tryd.prog 35 #[.slice A n c, .func (.func 37) #[] #[]] w fun e w' => e = .returned (.bool (l.any (negB))) ∧ w = w' := by
  have hi := idx_rb  A n c l w h hn hb
  go_enter Tryd.func35, Tryd.ntmps35
  go_wp2_with fail
  refine hi.mono ?_
  rintro e w1 ⟨⟨z, rfl, hz⟩, rfl⟩
  go_wp2_with fail
  go_ret
  exact ⟨ret_bool hz.out, rfl⟩
end Go.Proofs.YtcdgmdhfaniciaaDoor
