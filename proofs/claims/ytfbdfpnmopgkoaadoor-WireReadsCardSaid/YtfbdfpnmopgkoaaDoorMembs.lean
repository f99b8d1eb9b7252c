/- Members: the members of a set with some bytes; plain: the members of a number. -/
import Derived.Test.YtfbdfpnmopgkoaaDoorLst
import Derived.Test.YtfbdfpnmopgkoaaDoorBitsD
namespace Go.Proofs.YtfbdfpnmopgkoaaDoor
open Go.RowKit
set_option linter.unusedVariables false
set_option linter.unusedSimpArgs false

/-- The members below n, ascending. -/
def memT (n M : Nat) : List Nat := (List.range n).filter M.testBit
theorem memT_succ (n M : Nat) : memT (n + 1) M = memT n M ++ if M.testBit n then [n] else [] := by
  unfold memT
  rw [List.range_succ, List.filter_append]
  congr 1
  cases h : M.testBit n <;> simp [List.filter, h]
theorem memT_add (n d M : Nat) : memT (n + d) M = memT n M ++ ((List.range d).filter fun i => M.testBit (n + i)).map (n + ·) := by
  unfold memT
  rw [List.range_add, List.filter_append, List.filter_map]
  rfl
theorem memT_big {n d M : Nat} (h : M < 2 ^ n) : memT (n + d) M = memT n M := by
  rw [memT_add]
  have : ((List.range d).filter fun i => M.testBit (n + i)) = [] := by
    rw [List.filter_eq_nil_iff]
    intro i _
    rw [Nat.testBit_lt_two_pow (Nat.lt_of_lt_of_le h (Nat.pow_le_pow_right (by omega) (by omega)))]
    simp
  rw [this]
  simp
theorem memT_eq {n m M : Nat} (hn : M < 2 ^ n) (hm : M < 2 ^ m) : memT n M = memT m M := by
  rcases Nat.le_total n m with h | h
  · obtain ⟨d, rfl⟩ : ∃ d, m = n + d := ⟨m - n, by omega⟩
    rw [memT_big hn]
  · obtain ⟨d, rfl⟩ : ∃ d, n = m + d := ⟨n - m, by omega⟩
    rw [memT_big hm]
theorem memU_memT (M k : Nat) : memU M k = memT (64 * k) M := by
  induction k with
  | zero => rfl
  | succ k ih =>
    rw [memU_succ, ih, show 64 * (k + 1) = 64 * k + 64 by omega, memT_add]
    congr 2
    unfold memW
    apply List.filter_congr
    intro i hi
    have hi := List.mem_range.1 hi
    rw [word_bit, decide_eq_true hi, Bool.true_and]
theorem memM_memT {n M : Nat} (h : M < 2 ^ n) : memM M = memT n M := by
  unfold memM
  rw [memU_memT]
  exact memT_eq ((len2_le (t := 64) (by omega)).1 (Nat.le_refl _)) h
theorem memT_len (n M : Nat) : (memT n M).length ≤ n := Nat.le_trans (List.length_filter_le _ _) (by simp)
/-- The last member is the greatest. -/
theorem memM_last {M : Nat} (h : M ≠ 0) : (memM M).getLast? = some M.log2 := by
  rw [memM_memT (n := M.log2 + 1) (Nat.lt_log2_self), memT_succ, if_pos (by rw [Nat.testBit_log2 h])]
  simp
theorem memM_ne {M : Nat} (h : M ≠ 0) : 0 < (memM M).length := by
  have := memM_last h
  cases hm : memM M with
  | nil => rw [hm] at this; cases this
  | cons a l => simp
theorem memM_zero : memM 0 = [] := rfl

/-- A bit of bytes. -/
theorem bval_bit {l : List UInt8} {k : Nat} {x : UInt8} (h : l[k / 8]? = some x) : (bval l).testBit k = decide (x.toNat / 2 ^ (k % 8) % 2 = 1) := by
  have h1 : fx 8 l.length (bval l) = l.map UInt8.toNat := by
    have := fx_vl 8 (l.map UInt8.toNat) (bytes_lt l)
    rw [List.length_map] at this
    exact this
  have hk : k / 8 < l.length := (List.getElem?_eq_some_iff.1 h).1
  have h2 := fx_get (t := 8) (n := l.length) (M := bval l) hk
  rw [h1, List.getElem?_map, h] at h2
  injection h2 with h2
  have h3 := word_bit 8 (bval l) (k / 8) (k % 8)
  rw [← h2, Nat.div_add_mod, decide_eq_true (Nat.mod_lt k (by omega)), Bool.true_and, Nat.testBit_eq_decide_div_mod_eq] at h3
  exact h3.symm

theorem bit8 (x r : Nat) : ((((x : Nat) : Int) / 2 ^ r).tmod 2 == 1) = decide (x / 2 ^ r % 2 = 1) := by
  have e : ((x : Nat) : Int) / 2 ^ r = ((x / 2 ^ r : Nat) : Int) := by simp
  generalize x / 2 ^ r = y at e ⊢
  rw [e, Int.tmod_eq_emod_of_nonneg (by omega)]
  by_cases h : y % 2 = 1
  · rw [decide_eq_true h, beq_iff_eq]; omega
  · rw [decide_eq_false h]; exact beq_false_of_ne (by omega)
set_option maxHeartbeats 4000000 in
set_option maxRecDepth 100000 in
/-- Members. -/
theorem rMembers_any (A : Option Addr) (n c : Nat) (l : List UInt8) (w : World) (h : Sees w w.heap.size A (l.map bv)) (hn : l.length = n) (hb : n ≤ 1000000) :
    Calls Tryd.prog 65 #[.slice A n c] w fun e w' => ∃ A' n' c', e = .returned (.slice A' n' c') ∧ OwnI w' w.heap.size (.slice A' n' c') n' ((memT (8 * n) (bval l)).map fun x : Nat => (x : Int)) ∧ Below w.heap.size w w' := by
  have Hn := Lib.hid hn
  have hb1 : (n : Int) ≤ 1000000 := by omega
  clear hn
  go_enter Tryd.func65, Tryd.ntmps65
  go_wp2_with fail
  go_loopw [3, 4] (fun v3 v4 wr => ∃ (k m c' : Nat) (A' : Option Addr), v4 = .int .i64 k ∧ k ≤ 8 * n ∧ v3 = .slice A' m c' ∧ m ≤ k ∧ OwnI wr w.heap.size (.slice A' m c') m ((memT k (bval l)).map fun x : Nat => (x : Int)) ∧ Below w.heap.size w wr) (fun _ v4 _ => 8 * n - (intOf v4).toNat)
  case atStart => exact ⟨0, 0, 0, none, rfl, Nat.zero_le _, rfl, Nat.le_refl _, OwnI.nil _ _, Below.refl _ _⟩
  case round =>
    obtain ⟨k, m, c', A', rfl, hk, rfl, hm, ho, hB⟩ := hrel
    by_cases hlt : k < 8 * n
    · have hlt1 : (k : Int) < 8 * (n : Int) := by omega
      obtain ⟨q, hq, hqi, hqn⟩ : ∃ q : Nat, Hid (q = k / 8) ∧ (k : Int) / 8 = (q : Int) ∧ q < n := ⟨k / 8, Lib.hid rfl, by omega, by omega⟩
      obtain ⟨r, hr, hri, hr8⟩ : ∃ r : Nat, Hid (r = k % 8) ∧ (k : Int) % 8 = (r : Int) ∧ r < 8 := ⟨k % 8, Lib.hid rfl, by omega, by omega⟩
      obtain ⟨b, o, x, rfl, hb2, hx, hxb, hc1⟩ := Sees.byte (k := q) h (by rw [Hn.out]; exact hqn)
      have hc2 : wr.cell? ⟨b, o + q, none⟩ = some (.int .u8 (x.toNat : Int)) := (hB.cell (p := ⟨b, o + q, none⟩) hb2).trans hc1
      have hbit : (bval l).testBit k = decide (x.toNat / 2 ^ r % 2 = 1) := by
        rw [hr.out]
        exact bval_bit (by rw [← hq.out]; exact hx.out)
      have hb8 := bit8 x.toNat r
      rw [← hbit] at hb8
      have hz := hB.size
      have hsucc := memT_succ k (bval l)
      by_cases hbt : (bval l).testBit k = true
      · rw [if_pos hbt] at hsucc
        rw [hbt] at hb8
        have Hs := Lib.hid hsucc
        clear hbit hsucc hbt
        go_wp2_with (at_builtin; refine wpL_appI1 _ rfl (.tmp 23) (.tmp 25) rfl wr w.heap.size _ m _ rfl ho _ rfl _ rfl rfl (by omega) hz (m + 1) rfl ?_; intro A6 c6 w5 o6 g6 b5)
        go_roundw
        case rel => exact ⟨k + 1, m + 1, c6, A6, by go_num, by omega, rfl, by omega, by rw [Hs.out, List.map_append]; exact o6, hB.trans b5⟩
        case measure => simp [intOf]; omega
      · have hbf : (bval l).testBit k = false := by simpa using hbt
        rw [if_neg hbt, List.append_nil] at hsucc
        rw [hbf] at hb8
        have Hs := Lib.hid hsucc
        clear hbit hsucc hbt hbf
        go_wp2_with fail
        go_roundw
        case rel => exact ⟨k + 1, m, c', A', by go_num, by omega, rfl, by omega, by rw [Hs.out]; exact ho, hB⟩
        case measure => simp [intOf]; omega
    · have hlt1 : ¬ (k : Int) < 8 * (n : Int) := by omega
      go_wp2_with fail
      go_ret
      obtain rfl : k = 8 * n := by omega
      exact ⟨A', m, c', rfl, ho, hB⟩
end Go.Proofs.YtfbdfpnmopgkoaaDoor
