/- A pack of texts: Tz, Lst, MembP, Pop, BitsAW, Off, Below, Within, Or. -/
import Derived.Test.YtcnofhlgiffkjaaGreatDoorPa
import Derived.Laws.Bits64b
import Derived.Lib.TrailingZeros
import Derived.RangeFuncBox
import Derived.RangeFuncNested
import Derived.RangeFuncBound
import Derived.RangeFuncCalls
import Derived.RangeFuncLeaves
import Derived.Shelf.Abstract
import Derived.Shelf.RegionOpen
import Derived.OwnWalkIn
import Derived.TacticsInMore
import Derived.LoopNIn
import Derived.LoopIn
import Derived.Maps.AppendAt
import Derived.Deep.RegionWith
/- math/bits.TrailingZeros64 over the laid table, and a bound on math/bits.OnesCount64: walks; the bits of a word, ascending: plain. -/
namespace Go.Proofs.YtcnofhlgiffkjaaGreatDoor
open Go.RowKit
set_option linter.unusedVariables false
set_option linter.unusedSimpArgs false

/-- The members that a word stands for, ascending. -/
def memW (x : Nat) : List Nat := (List.range 64).filter x.testBit
theorem memW_zero : memW 0 = [] := by simp [memW]
theorem low_form {x : Nat} (h0 : x ≠ 0) (hx : x < 2 ^ 64) : ∃ m, x = 2 ^ Lib.ctz 64 x * (2 * m + 1) ∧ Lib.ctz 64 x < 64 := by
  have := Lib.ctzFrom_spec 64 x (by omega) hx
  unfold Lib.ctz
  rw [if_neg h0]
  exact this
theorem low_bits {x : Nat} (h0 : x ≠ 0) (hx : x < 2 ^ 64) (j : Nat) : x.testBit j = (decide (Lib.ctz 64 x ≤ j) && (x / 2 ^ Lib.ctz 64 x).testBit (j - Lib.ctz 64 x)) := by
  obtain ⟨m, hm, _⟩ := low_form h0 hx
  generalize Lib.ctz 64 x = k at hm ⊢
  subst hm
  rw [Nat.mul_comm, Nat.testBit_mul_two_pow, Nat.mul_div_cancel _ (Nat.two_pow_pos k)]
theorem clear_low {x : Nat} (h0 : x ≠ 0) (hx : x < 2 ^ 64) (j : Nat) : (x &&& (x - 1)).testBit j = (decide (Lib.ctz 64 x < j) && x.testBit j) := by
  obtain ⟨m, hm, _⟩ := low_form h0 hx
  generalize Lib.ctz 64 x = k at hm ⊢
  have e1 : x = 2 ^ k * (2 * m + 1) + 0 := by omega
  have e2 : x - 1 = 2 ^ k * (2 * m) + (2 ^ k - 1) := by
    have := Nat.two_pow_pos k
    have e3 : 2 ^ k * (2 * m + 1) = 2 ^ k * (2 * m) + 2 ^ k := by rw [Nat.mul_add, Nat.mul_one]
    omega
  rw [Nat.testBit_and, e2, e1, Nat.testBit_two_pow_mul_add _ (Nat.two_pow_pos k), Nat.testBit_two_pow_mul_add _ (by have := Nat.two_pow_pos k; omega)]
  by_cases hj : j < k
  · simp [hj, show ¬ k < j by omega]
  · rw [if_neg hj, if_neg hj]
    by_cases he : j = k
    · subst he
      simp [Nat.testBit_zero]
    · obtain ⟨i, rfl⟩ : ∃ i, j = k + (i + 1) := ⟨j - k - 1, by omega⟩
      rw [show k + (i + 1) - k = i + 1 by omega, Nat.testBit_succ, Nat.testBit_succ, show (2 * m + 1) / 2 = m by omega, show 2 * m / 2 = m by omega]
      simp
theorem low_top {x : Nat} (h0 : x ≠ 0) (hx : x < 2 ^ 64) : x.testBit (Lib.ctz 64 x) = true := by
  obtain ⟨m, hm, _⟩ := low_form h0 hx
  generalize Lib.ctz 64 x = k at hm ⊢
  subst hm
  rw [Nat.mul_comm, Nat.testBit_mul_two_pow]
  simp [Nat.testBit_zero]
theorem memW_cons {x : Nat} (h0 : x ≠ 0) (hx : x < 2 ^ 64) : memW x = Lib.ctz 64 x :: memW (x &&& (x - 1)) := by
  obtain ⟨_, _, hk⟩ := low_form h0 hx
  have ht := low_top h0 hx
  have hl := fun j => low_bits h0 hx j
  have hc := fun j => clear_low h0 hx j
  generalize hkk : Lib.ctz 64 x = k at *
  have e : List.range 64 = List.range k ++ k :: (List.range (63 - k)).map (fun i => k + 1 + i) := by
    have := List.range_add (n := k) (m := 64 - k)
    rw [show k + (64 - k) = 64 by omega] at this
    rw [this, show 64 - k = (63 - k) + 1 by omega, List.range_succ_eq_map]
    simp [List.map_map, Function.comp_def, Nat.add_assoc, Nat.add_comm 1]
  unfold memW
  rw [e, List.filter_append, List.filter_append]
  have z1 : (List.range k).filter x.testBit = [] := by
    rw [List.filter_eq_nil_iff]
    intro j hj
    have hj := List.mem_range.1 hj
    rw [hl, show decide (k ≤ j) = false by simpa using hj]
    simp
  have z2 : (List.range k).filter (x &&& (x - 1)).testBit = [] := by
    rw [List.filter_eq_nil_iff]
    intro j hj
    have hj := List.mem_range.1 hj
    rw [hc, show decide (k < j) = false by simp; omega]
    simp
  rw [z1, z2, List.nil_append, List.nil_append, List.filter_cons_of_pos (by simpa using ht), List.filter_cons_of_neg (by rw [hc]; simp)]
  congr 1
  apply List.filter_congr
  intro j hj
  obtain ⟨i, _, rfl⟩ := List.mem_map.1 hj
  rw [hc, show decide (k < k + 1 + i) = true by simp; omega]
  simp
theorem clear_lt {x : Nat} (h0 : x ≠ 0) : x &&& (x - 1) < x := Nat.lt_of_le_of_lt Nat.and_le_right (by omega)

/-- The table lies as its initialiser lays it. -/
def Tab (w : World) : Prop := ∀ j, j < 64 → w.cell? ⟨0, j, none⟩ = some (.int .u8 (Lib.deBruijn64tab.getD j 0))
theorem Tab.below {w w' : World} {B : Nat} (h : Tab w) (hb : Below B w w') (hB : 0 < B) : Tab w' := fun j hj => (hb.cell (p := ⟨0, j, none⟩) hB).trans (h j hj)

theorem tz_key (x a : Nat) (hx : x < 18446744073709551616) (hx0 : x ≠ 0) (hlow : x &&& (18446744073709551616 - x) = a) :
    IntKind.u64.wrap (bits BinOp.and IntKind.u64 (x : Int) (IntKind.u64.wrap (-(x : Int))) * 285870213051353865) / 288230376151711744 = ((a * 285870213051353865 % 18446744073709551616 / 288230376151711744 : Nat) : Int) := by
  have e1 : IntKind.u64.wrap (-(x : Int)) = ((18446744073709551616 - x : Nat) : Int) := by rw [IntKind.wrap_u64]; omega
  rw [e1, bits_and_u64_nat x _ hx (by omega), hlow, IntKind.wrap_u64]
  omega
set_option maxHeartbeats 1000000 in
theorem tz_core (x k idx : Nat) (w : World) (hx0 : ((x : Int) == 0) = false)
    (key : IntKind.u64.wrap (bits BinOp.and IntKind.u64 (x : Int) (IntKind.u64.wrap (-(x : Int))) * 285870213051353865) / 288230376151711744 = (idx : Int))
    (hi : idx < 64) (hk : k < 64) (hcell : w.cell? ⟨0, idx, none⟩ = some (.int .u8 k)) :
    Calls Tryz.prog 97 #[.int .u64 x] w fun e w' => e = .returned (.int .i64 k) ∧ w = w' := by
  go_enter Tryz.func97, Tryz.ntmps97
  go_wp2_with (simp only [key])
  go_ret
  exact ⟨rfl, rfl⟩
/-- math/bits.TrailingZeros64, of a number that is not 0. -/
theorem tz_any (x : Nat) (hx : x < 18446744073709551616) (h0 : x ≠ 0) (w : World) (hT : Tab w) :
    Calls Tryz.prog 97 #[.int .u64 x] w fun e w' => e = .returned (.int .i64 (Lib.ctz 64 x)) ∧ w = w' := by
  obtain ⟨hlow, hk⟩ := Lib.lowest_bit 64 x h0 hx
  obtain ⟨hi, htab⟩ := Lib.deBruijn64_at _ hk
  have hcell := hT _ hi
  rw [htab] at hcell
  exact tz_core x _ _ w (by simp; omega) (tz_key x _ hx h0 hlow) hi hk hcell

theorem and127_i64 (z : Int) : ∃ c : Nat, bits .and .i64 z 127 = (c : Int) ∧ c ≤ 127 := by
  have h : (BitVec.ofInt 64 z &&& BitVec.ofInt 64 127).toNat ≤ 127 := by
    rw [BitVec.toNat_and]
    exact Nat.le_trans Nat.and_le_right (by decide)
  refine ⟨(BitVec.ofInt 64 z &&& BitVec.ofInt 64 127).toNat, ?_, h⟩
  show IntKind.i64.wrap ((BitVec.ofInt 64 z &&& BitVec.ofInt 64 127).toNat : Int) = _
  rw [IntKind.wrap_i64]
  omega
set_option maxHeartbeats 4000000 in
theorem ones_ex (x : Nat) : ∃ y : Int, ∀ w, Calls Tryz.prog 94 #[.int .u64 x] w fun e w' => e = .returned (.int .i64 (bits .and .i64 y 127)) ∧ w = w' := by
  apply Exists.intro
  intro w
  go_enter Tryz.func94, Tryz.ntmps94
  go_wp2_with fail
  go_ret
  exact ⟨rfl, rfl⟩
/-- math/bits.OnesCount64 answers a number up to 127. -/
theorem ones_any (x : Nat) : ∃ c : Nat, c ≤ 127 ∧ ∀ w, Calls Tryz.prog 94 #[.int .u64 x] w fun e w' => e = .returned (.int .i64 c) ∧ w = w' := by
  obtain ⟨y, h⟩ := ones_ex x
  obtain ⟨c, hc, hb⟩ := and127_i64 y
  rw [hc] at h
  exact ⟨c, hb, h⟩
end Go.Proofs.YtcnofhlgiffkjaaGreatDoor
/- (bits.Set).Len, All and List: the members of a set, ascending. -/
namespace Go.Proofs.YtcnofhlgiffkjaaGreatDoor
open Go.RowKit
set_option linter.unusedVariables false
set_option linter.unusedSimpArgs false
attribute [local go_sem] Oper.semAt_some

/-- The members in the first k words. -/
def memU (M k : Nat) : List Nat := (List.range k).flatMap fun j => (memW (M / 2 ^ (64 * j) % 2 ^ 64)).map (64 * j + ·)
theorem memU_zero (M : Nat) : memU M 0 = [] := rfl
theorem memU_succ (M k : Nat) : memU M (k + 1) = memU M k ++ (memW (M / 2 ^ (64 * k) % 2 ^ 64)).map (64 * k + ·) := by
  unfold memU
  rw [List.range_succ, List.flatMap_append, List.flatMap_singleton]
/-- The members of a set, ascending. -/
def memM (M : Nat) : List Nat := memU M (len2 64 M)
theorem memW_len (x : Nat) : (memW x).length ≤ 64 := Nat.le_trans (List.length_filter_le _ _) (by simp)
theorem memU_len (M k : Nat) : (memU M k).length ≤ 64 * k := by
  induction k with
  | zero => simp [memU_zero]
  | succ k ih =>
    rw [memU_succ, List.length_append, List.length_map]
    have := memW_len (M / 2 ^ (64 * k) % 2 ^ 64)
    omega

/-- Len answers a number that is not great. -/
theorem len_any (v : Value) (M : Nat) (w : World) (h : SetAt w w.heap.size v M) :
    Calls Tryz.prog 67 #[v] w fun e w' => (∃ c : Nat, e = .returned (.int .i64 c) ∧ c ≤ 8128) ∧ Below w.heap.size w w' := by
  obtain ⟨A, n, c, rfl, hnc, hn, hl, hs, _⟩ := h
  have hlen : (dg 64 M).length = n := by rw [dg_length]; exact hl
  have hl := Lib.hid hl
  have hlen := Lib.hid hlen
  have bA : Below w.heap.size w (w.alloc (.cells #[.slice A n c] 63)) := (Below.refl _ _).alloc (Nat.le_refl _) _
  have hs1 := hs.on bA
  go_enter Tryz.func67, Tryz.ntmps67
  go_wp2_with fail
  go_loopw [3, 9] (fun s i wr => ∃ (k z : Nat), k ≤ n ∧ i = .int .i64 k ∧ s = .int .i64 z ∧ z ≤ 127 * k ∧ wr = w.alloc (.cells #[.slice A n c] 63)) (fun _ i _ => n - (intOf i).toNat)
  case atStart => exact ⟨0, 0, Nat.zero_le _, rfl, rfl, Nat.le_refl _, rfl⟩
  case round =>
    obtain ⟨k, z, hk, rfl, rfl, hz, rfl⟩ := hrel
    by_cases hlt : k < n
    · obtain ⟨x, hx, hx1⟩ := dg_some hl.out hlt
      obtain ⟨b, o, rfl, hb1, hc1⟩ := hs1.word hx
      have Hx := Lib.hid hx
      clear hx
      obtain ⟨d, hd, hcall⟩ := ones_any x
      go_wp2_with fail
      refine (hcall _).mono ?_
      rintro e w1 ⟨rfl, rfl⟩
      go_wp2_with fail
      go_roundw
      case rel => exact ⟨k + 1, z + d, by omega, by go_num, by go_num, by omega, by simp⟩
      case measure => simp [intOf]; omega
    · go_wp2
      go_ret
      exact ⟨⟨z, rfl, by omega⟩, bA⟩

/-- All: the set is boxed; the function value captures the box. -/
theorem allF_any (v : Value) (w : World) (F : Fence) (n : Nat) (hF : F.fn 72) (hro : F.round = none) :
    CallsIn F n Tryz.prog 72 #[.agg #[v]] w fun e w' => e = .returned (.func (.func 96) #[] #[.pointer (some ⟨w.heap.size, 0, none⟩)]) ∧ w' = w.alloc (.cells #[v] 63) := by
  refine callsIn_of_wp Tryz.func72 rfl hF ?_ hro
  simp only [Tryz.ntmps72, List.size_toArray, List.length_cons, List.length_nil, Nat.reduceAdd, Nat.reduceSub, Array.replicate_succ, Array.replicate_zero, List.push_toArray, List.append_toArray, List.nil_append, List.cons_append]
  gi_wp2
  go_ret
  exact ⟨rfl, rfl⟩

theorem memM_word {M k n x : Nat} (hn : len2 64 M = n) (hk : k < n) (hx : (dg 64 M)[k]? = some x) : memU M (k + 1) = memU M k ++ (memW x).map (64 * k + ·) := by
  rw [dg_get (by omega)] at hx
  injection hx with hx
  rw [memU_succ, hx]
theorem memU_prefix (M : Nat) {k n : Nat} (h : k ≤ n) : memU M k <+: memU M n := by
  obtain ⟨d, rfl⟩ : ∃ d, n = k + d := ⟨n - k, by omega⟩
  clear h
  induction d with
  | zero => exact List.prefix_refl _
  | succ d ih => exact ih.trans (by rw [show k + (d + 1) = k + d + 1 by omega, memU_succ]; exact List.prefix_append _ _)

set_option maxRecDepth 100000 in
set_option maxHeartbeats 2000000 in
/-- All's closure, over whatever loop body keeps what lay below n₀. -/
theorem all1_in (l Bs n₀ n c M : Nat) (A : Option Addr) (d : Nat) (J Jx : List Nat → World → Prop)
    (hd : 1 ≤ d) (hnc : n ≤ c) (hn : n ≤ 64) (hl : len2 64 M = n) (hn₀ : 0 < n₀)
    (hY : ∀ pre x W, J pre W → pre.length < 4096 → YieldAt Fence.wide (d - 1) Tryz.prog l #[.int .i64 ((x : Nat) : Int)] W fun e W' =>
      (e = .returned (.bool true) ∧ J (pre ++ [x]) W' ∧ Below n₀ W W') ∨ (e = .returned (.bool false) ∧ Jx (pre ++ [x]) W'))
    (W : World) (hBs : W.cell? ⟨Bs, 0, none⟩ = some (.slice A n c)) (hs : Sees W n₀ A ((dg 64 M).map wv)) (hT : Tab W) (h0 : J [] W) :
    CallsIn Fence.wide d Tryz.prog 96 #[.func (.yield l) #[] #[], .pointer (some ⟨Bs, 0, none⟩)] W fun e W' => (∃ v, e = .returned v) ∧
      ((∃ ys, ys = memM M ∧ J ys W') ∨ (∃ pre, pre <+: memM M ∧ Jx pre W')) := by
  have hlen : (dg 64 M).length = n := by rw [dg_length]; exact hl
  have hl := Lib.hid hl
  have hlen := Lib.hid hlen
  have hro : (Fence.wide).round = none := rfl
  refine callsIn_of_wp Tryz.func96 rfl trivial ?_ rfl
  simp only [Tryz.ntmps96, List.size_toArray, List.length_cons, List.length_nil, Nat.reduceAdd, Nat.reduceSub, Array.replicate_succ, Array.replicate_zero, List.push_toArray, List.append_toArray, List.nil_append, List.cons_append]
  gi_wp2
  gi_loopw [8] (fun i wr => ∃ k : Nat, k ≤ n ∧ i = .int .i64 k ∧ J (memU M k) wr ∧ Below n₀ W wr) (fun i _ => n - (intOf i).toNat)
  case atStart => exact ⟨0, Nat.zero_le _, rfl, h0, Below.refl _ _⟩
  case round =>
    obtain ⟨k, hk, rfl, hJs, hB⟩ := hrel
    by_cases hlt : k < n
    · obtain ⟨x, hx, hx1⟩ := dg_some hl.out hlt
      have hnext := Lib.hid (memM_word hl.out hlt hx)
      obtain ⟨b, o, rfl, hb1, hc1⟩ := (hs.below hB).word hx
      have Hx := Lib.hid hx
      clear hx
      gi_wp2
      gi_loopw [4] (fun v wr2 => ∃ (y : Nat) (pre : List Nat), v = .int .u64 y ∧ y < 18446744073709551616 ∧ pre ++ (memW y).map (64 * k + ·) = memU M (k + 1) ∧ J pre wr2 ∧ Below n₀ wr wr2) (fun v _ => (intOf v).toNat)
      case atStart => exact ⟨x, memU M k, rfl, hx1, hnext.out.symm, hJs, Below.refl _ _⟩
      case round =>
        obtain ⟨y, pre, rfl, hy1, hpre, hJp, hB2⟩ := hrel
        by_cases h0 : y = 0
        · subst h0
          have Hpre := Lib.hid hpre
          clear hpre
          gi_wp2
          go_roundw
          case rel => exact ⟨k + 1, by omega, by go_num, by
            have := Hpre.out
            rw [memW_zero, List.map_nil, List.append_nil] at this
            rw [← this]
            exact hJp, hB.trans hB2⟩
          case measure => simp [intOf]; omega
        · have hm := memW_cons h0 hy1
          have hlp : pre.length < 4096 := by
            have h1 := congrArg List.length hpre
            rw [hm] at h1
            have h2 := memU_len M (k + 1)
            simp at h1
            omega
          have hcz : Lib.ctz 64 y < 64 := by
            obtain ⟨_, _, h⟩ := low_form h0 hy1
            exact h
          have Hm := Lib.hid hm
          have Hpre := Lib.hid hpre
          clear hm hpre
          obtain ⟨fn, tmps, assign, body, hy, hR⟩ := hY pre (64 * k + Lib.ctz 64 y) wr hJp hlp
          simp only [Int.natCast_add, Int.natCast_mul, Int.cast_ofNat_Int] at hy
          have hb : ((y : Int) == 0) = false := by simp; omega
          have hTr : Tab wr := (hT.below hB hn₀).below hB2 hn₀
          gi_wp2
          refine ⟨trivial, (callsIn_wide.2 (tz_any y hy1 h0 _ hTr)).mono ?_⟩
          rintro e w1 ⟨rfl, rfl⟩
          gi_wp2
          refine hR.mono ?_
          have hand : bits .and .u64 (y : Int) ((y : Int) - 1) = ((y &&& (y - 1) : Nat) : Int) := by
            rw [show (y : Int) - 1 = ((y - 1 : Nat) : Int) by omega, bits_and_u64_nat y (y - 1) hy1 (by omega)]
          have hlow : (1 : Int) ≤ y := by omega
          have hltc := clear_lt h0
          rintro e W3 (⟨rfl, hJ3, hk3⟩ | ⟨rfl, hJx3⟩)
          · gi_wp2
            go_roundw
            case rel =>
              refine ⟨y &&& (y - 1), pre ++ [64 * k + Lib.ctz 64 y], rfl, by omega, ?_, hJ3, hB2.trans hk3⟩
              have := Hpre.out
              rw [Hm.out] at this
              rw [← this]
              simp
            case measure =>
              simp [intOf]
              omega
          · gi_wp2
            refine bodyPost_ret (results_none rfl _ _ _) rfl ?_
            refine ⟨⟨_, rfl⟩, .inr ⟨_, ?_, hJx3⟩⟩
            have := Hpre.out
            rw [Hm.out] at this
            refine List.IsPrefix.trans ?_ (by unfold memM; rw [hl.out]; exact memU_prefix M (show k + 1 ≤ n by omega))
            rw [← this]
            exact ⟨(memW (y &&& (y - 1))).map (64 * k + ·), by simp⟩
    · obtain rfl : k = n := by omega
      gi_wp2
      go_end0
      exact ⟨⟨_, rfl⟩, .inl ⟨_, by unfold memM; rw [hl.out], hJs⟩⟩

theorem memM_len {M n : Nat} (hl : len2 64 M = n) (hn : n ≤ 64) : (memM M).length ≤ 4096 := by
  have := memU_len M n
  unfold memM
  rw [hl]
  omega
/-- .. as the law of the loop wants it. -/
theorem all_stops (Bs n₀ n c M : Nat) (A : Option Addr) (d : Nat) (hd : 1 ≤ d) (hnc : n ≤ c) (hn : n ≤ 64) (hl : len2 64 M = n) (hn₀ : 0 < n₀) (w : World) (hBs : Bs < w.heap.size) (hn₁ : n₀ ≤ w.heap.size)
    (hc : w.cell? ⟨Bs, 0, none⟩ = some (.slice A n c)) (hs : Sees w n₀ A ((dg 64 M).map wv)) (hT : Tab w) :
    SeqStopsK Fence.wide d Tryz.prog 96 #[.pointer (some ⟨Bs, 0, none⟩)] (fun x : Nat => #[Value.int .i64 (x : Int)]) (Below n₀) (fun ys => ys = memM M) (fun pre => pre <+: memM M) 4096 w := fun l J Jx W hW _ _ hY h0 =>
  all1_in l Bs n₀ n c M A d J Jx hd hnc hn hl hn₀ hY W ((hW.cell (p := ⟨Bs, 0, none⟩) hBs).trans hc) (hs.below (hW.mono hn₁)) (hT.below (hW.mono hn₁) hn₀) h0

/-- The members as ints. -/
def memZ (M : Nat) : List Int := (memM M).map fun x : Nat => (x : Int)
set_option maxRecDepth 100000 in
set_option maxHeartbeats 2000000 in
/-- List: the members, ascending. -/
theorem list_any (v : Value) (M : Nat) (w : World) (h : SetAt w w.heap.size v M) (hT : Tab w) :
    Calls Tryz.prog 68 #[v] w fun e w' => ∃ A n c, e = .returned (.slice A n c) ∧ OwnI w' w.heap.size (.slice A n c) n (memZ M) ∧ Below w.heap.size w w' := by
  have h63 := h
  obtain ⟨A, n, c, rfl, hnc, hn, hl, hs, _⟩ := h
  have hg0 : 0 < w.heap.size := World.block_lt_of_cell? w _ (hT 0 (by omega))
  obtain ⟨i0, hi, hz0, hz1, hz2⟩ := info_parts int_info
  have hro : (Fence.wide).round = none := rfl
  have h1 : 1 ≤ 5 := by omega
  refine (callsIn_wide (n := 5)).1 ?_
  refine callsIn_of_wp_marks Tryz.func68 rfl trivial ?_ rfl
  simp only [Tryz.ntmps68, List.size_toArray, List.length_cons, List.length_nil, Nat.reduceAdd, Nat.reduceSub, Array.replicate_succ, Array.replicate_zero, List.push_toArray, List.append_toArray, List.nil_append, List.cons_append]
  have bA : Below w.heap.size w (w.alloc (.cells #[.slice A n c] 63)) := (Below.refl _ _).alloc (Nat.le_refl _) _
  gi_wp2
  refine ⟨trivial, (callsIn_wide.2 (len_any _ M _ (h63.on bA))).mono ?_⟩
  rintro e w1 ⟨⟨L, rfl, hL⟩, hB1⟩
  have bB := bA.trans (hB1.mono bA.size)
  have hcs : w1.cell? ⟨w.heap.size, 0, none⟩ = some (.slice A n c) := (hB1.cell (p := ⟨w.heap.size, 0, none⟩) (by simp)).trans ((Blk.new w 63 #[.slice A n c]).cell 0)
  gi_wp2_with (gi_at_make; refine wpListIn_make_own _ rfl _ _ 30 rfl w.heap.size 3 i0 (.int .i64 0) 1 Tryz.underlying30 hi hz0 hz1 .i64 .i64 _ L rfl rfl rfl (by rw [hz2]; omega) (by unfold maxLen; omega) bB.size ?_; intro w2 hown hgrow; have hlt2 : w.heap.size < w2.heap.size := Nat.lt_of_lt_of_le (World.block_lt_of_cell? w1 _ hcs) hgrow.size; have hc2 := hgrow.cell hcs (by simp); have hc3 : ∀ o, (w2.alloc o).cell? ⟨w.heap.size, 0, none⟩ = some (.slice A n c) := fun o => (World.cell?_alloc_lt w2 o _ hlt2).trans hc2)
  refine ⟨trivial, (allF_any _ _ _ _ trivial rfl).mono ?_⟩
  rintro e w3 ⟨rfl, rfl⟩
  gi_wp2
  have bO := Boxed.new w2 30 (.slice (some ⟨w1.heap.size, 0, none⟩) 0 L)
  have bN := Boxed.new (w2.alloc (.cells #[.slice (some ⟨w1.heap.size, 0, none⟩) 0 L] 30)) 63 (.slice A n c)
  rw [World.size_alloc] at bN
  have hz1 := hgrow.size
  have hz2 := bB.size
  have hB0 : Below w.heap.size w ((w2.alloc (.cells #[.slice (some ⟨w1.heap.size, 0, none⟩) 0 L] 30)).alloc (.cells #[.slice A n c] 63)) :=
    ((bB.grown hgrow bB.size (fun k e => by cases e)).alloc (by omega) _).alloc (by simp; omega) _
  refine wpIn_rangeFunc_ownG hro h1 (gf := 96) (lb := #[.pointer (some ⟨w2.heap.size + 1, 0, none⟩)]) rfl trivial (enters_of Tryz.func96 (by kernel_rfl) rfl)
    (all_stops (w2.heap.size + 1) w.heap.size n c M A 4 (by omega) hnc hn hl hg0 _ (by simp) (by simp; omega) bN.cell (hs.below hB0) (hT.below hB0 hg0)) belowK_t (belowK_b (by simp; omega)) (Below.refl _ _) (fun _ => rfl)
    (fun (pre : List Nat) W => (∃ v, Boxed W w2.heap.size 30 v ∧ W.ownsRow w.heap.size 3 1 v pre.length (pre.map fun x : Nat => iv (x : Int)) ∧ True) ∧ Below w.heap.size w W)
    (fun _ _ _ => False)
    (OwnFrom.and (Own.from (holdsRow_own w.heap.size w2.heap.size 30 3 1 (fun pre : List Nat => pre.length) (fun pre : List Nat => pre.map fun x : Nat => iv (x : Int)) (fun pre v => True)) _) (ownFrom_below (Nat.le_refl _) (by simp; omega)))
    (fun _ _ _ _ _ hs _ _ => hs)
    ⟨⟨_, bO.alloc _, (hown.alloc _).alloc _, trivial⟩, hB0⟩
    (fun x : Nat => { tmps := #[.agg #[.slice A n c], .pointer (some ⟨w.heap.size, 0, none⟩), .slice none 0 0, .pointer (some ⟨w2.heap.size, 0, none⟩), .int .i64 (x : Int), .agg #[.slice A n c], .int .i64 L, .slice (some ⟨w1.heap.size, 0, none⟩) 0 L, .agg #[.slice A n c], .func (.func 96) #[] #[.pointer (some ⟨w2.heap.size + 1, 0, none⟩)], .int .i64 (x : Int), undef, undef, undef, undef, undef], defers := [] }) ?assign ?body ?done ?stop
  case assign =>
    intro l x W K hK
    gi_wp2
    exact hK
  case body =>
    rintro l pre x W ⟨⟨v, hv, hrow, _⟩, hB⟩ hlt
    have hc := hv.cell
    gi_wp2_with (gi_at_builtin; refine wpListIn_append_own _ rfl _ _ 30 rfl w.heap.size 3 i0 (.int .i64 0) 1 8 Tryz.underlying30 hi hz0 (by assumption) (by assumption) rfl (by decide) _ _ _ rfl (hrow.alloc _) ⟨W.heap.size, 0, none⟩ 1 1 [.int .i64 (x : Int)] rfl rfl (cell_one_new _ _ _) (by simp [Value.oneCell']) (by unfold maxLen; omega) (by omega) (by have := hB.size; simp; omega) ?_; intro v' w1 hown' hgrow _; obtain ⟨g', cap', rfl⟩ := ownsRow_succ hown'; obtain ⟨hv1, hv2, hr2, hk2, hb2⟩ := hv.appended (by decide) hrow hB.size (by omega) hown' hgrow; have hc1 := hv1.cell; have hf1 := hv1.frozen)
    exact ⟨hk2.from _, hb2, ⟨_, hv2, by simpa [iv] using hr2, trivial⟩, hB.trans hb2⟩
  case done =>
    rintro D ys W hD rfl ⟨⟨v, hv, hrow, _⟩, hB⟩ hK
    have hc := hv.cell
    gi_wp2
    refine ⟨by simp, .inl ⟨_, _, rfl, run_takeDeferred hK, ?_⟩⟩
    have hrow' := ownsRow_putObj hrow (.deferred none) hK rfl
    obtain ⟨A', c', rfl, _⟩ := own_form hrow'
    exact ⟨_, results_tmp rfl _ _ _, A', _, c', rfl, by unfold OwnI memZ; simpa [Function.comp_def] using hrow', hB.trans (belowK_b (w := w) (Nat.le_refl _) W D _ _ (by simp at hD; omega) hK rfl rfl)⟩
  case stop =>
    rintro D c pre W _ _ h _
    exact h.elim
end Go.Proofs.YtcnofhlgiffkjaaGreatDoor
/- Plain: the members of a number, ascending. -/
namespace Go.Proofs.YtcnofhlgiffkjaaGreatDoor
open Go.RowKit
set_option linter.unusedVariables false
set_option linter.unusedSimpArgs false

/-- The members below n, ascending. -/
def memT (n M : Nat) : List Nat := (List.range n).filter M.testBit
theorem memT_succ (n M : Nat) : memT (n + 1) M = memT n M ++ if M.testBit n then [n] else [] := by
  unfold memT
  rw [List.range_succ, List.filter_append]
  congr 1
  cases h : M.testBit n <;> simp [List.filter, h]
theorem memT_add (n d M : Nat) : memT (n + d) M = memT n M ++ ((List.range d).filter fun i => M.testBit (n + i)).map (n + ·) := by
  unfold memT
  rw [List.range_add, List.filter_append, List.filter_map]
  rfl
theorem memT_big {n d M : Nat} (h : M < 2 ^ n) : memT (n + d) M = memT n M := by
  rw [memT_add]
  have : ((List.range d).filter fun i => M.testBit (n + i)) = [] := by
    rw [List.filter_eq_nil_iff]
    intro i _
    rw [Nat.testBit_lt_two_pow (Nat.lt_of_lt_of_le h (Nat.pow_le_pow_right (by omega) (by omega)))]
    simp
  rw [this]
  simp
theorem memT_eq {n m M : Nat} (hn : M < 2 ^ n) (hm : M < 2 ^ m) : memT n M = memT m M := by
  rcases Nat.le_total n m with h | h
  · obtain ⟨d, rfl⟩ : ∃ d, m = n + d := ⟨m - n, by omega⟩
    rw [memT_big hn]
  · obtain ⟨d, rfl⟩ : ∃ d, n = m + d := ⟨n - m, by omega⟩
    rw [memT_big hm]
theorem memU_memT (M k : Nat) : memU M k = memT (64 * k) M := by
  induction k with
  | zero => rfl
  | succ k ih =>
    rw [memU_succ, ih, show 64 * (k + 1) = 64 * k + 64 by omega, memT_add]
    congr 2
    unfold memW
    apply List.filter_congr
    intro i hi
    have hi := List.mem_range.1 hi
    rw [word_bit, decide_eq_true hi, Bool.true_and]
theorem memM_memT {n M : Nat} (h : M < 2 ^ n) : memM M = memT n M := by
  unfold memM
  rw [memU_memT]
  exact memT_eq ((len2_le (t := 64) (by omega)).1 (Nat.le_refl _)) h
theorem memT_len (n M : Nat) : (memT n M).length ≤ n := Nat.le_trans (List.length_filter_le _ _) (by simp)
/-- The last member is the greatest. -/
theorem memM_last {M : Nat} (h : M ≠ 0) : (memM M).getLast? = some M.log2 := by
  rw [memM_memT (n := M.log2 + 1) (Nat.lt_log2_self), memT_succ, if_pos (by rw [Nat.testBit_log2 h])]
  simp
theorem memM_ne {M : Nat} (h : M ≠ 0) : 0 < (memM M).length := by
  have := memM_last h
  cases hm : memM M with
  | nil => rw [hm] at this; cases this
  | cons a l => simp
theorem memM_zero : memM 0 = [] := rfl

theorem bit8 (x r : Nat) : ((((x : Nat) : Int) / 2 ^ r).tmod 2 == 1) = decide (x / 2 ^ r % 2 = 1) := by
  have e : ((x : Nat) : Int) / 2 ^ r = ((x / 2 ^ r : Nat) : Int) := by simp
  generalize x / 2 ^ r = y at e ⊢
  rw [e, Int.tmod_eq_emod_of_nonneg (by omega)]
  by_cases h : y % 2 = 1
  · rw [decide_eq_true h, beq_iff_eq]; omega
  · rw [decide_eq_false h]; exact beq_false_of_ne (by omega)
end Go.Proofs.YtcnofhlgiffkjaaGreatDoor
/- math/bits.OnesCount64, exactly; Set.Len. -/
namespace Go.Proofs.YtcnofhlgiffkjaaGreatDoor
open Go.RowKit
set_option linter.unusedVariables false
set_option linter.unusedSimpArgs false

/-- Digit i to the base 2^t. -/
def dgt (t x i : Nat) : Nat := x / 2 ^ (t * i) % 2 ^ t
theorem dgt_bit (t x i r : Nat) : (dgt t x i).testBit r = (decide (r < t) && x.testBit (t * i + r)) := word_bit t x i r
theorem dgt_lt (t x i : Nat) : dgt t x i < 2 ^ t := Nat.mod_lt _ (Nat.two_pow_pos t)
theorem dgt_succ (t x i : Nat) : dgt t x (i + 1) = dgt t (x / 2 ^ t) i := by
  unfold dgt
  rw [Nat.div_div_eq_div_mul, ← Nat.pow_add, show t * (i + 1) = t + t * i by rw [Nat.mul_add]; omega]
theorem dgt_zero (t x : Nat) : dgt t x 0 = x % 2 ^ t := by unfold dgt; simp
theorem dgt_add (t : Nat) : ∀ (i a b : Nat), (∀ j, dgt t a j + dgt t b j < 2 ^ t) → dgt t (a + b) i = dgt t a i + dgt t b i
  | 0, a, b, h => by
    have h0 := h 0
    rw [dgt_zero, dgt_zero] at h0
    rw [dgt_zero, dgt_zero, dgt_zero, Nat.add_mod, Nat.mod_eq_of_lt h0]
  | i + 1, a, b, h => by
    have h0 := h 0
    rw [dgt_zero, dgt_zero] at h0
    have e : (a + b) / 2 ^ t = a / 2 ^ t + b / 2 ^ t := by
      rw [Nat.add_div (Nat.two_pow_pos t), if_neg (by omega), Nat.add_zero]
    rw [dgt_succ, dgt_succ, dgt_succ, e]
    exact dgt_add t i _ _ (fun j => by have := h (j + 1); rw [dgt_succ, dgt_succ] at this; exact this)
theorem dgt_and (t a b i : Nat) : dgt t (a &&& b) i = dgt t a i &&& dgt t b i := by
  apply Nat.eq_of_testBit_eq
  intro r
  rw [Nat.testBit_and, dgt_bit, dgt_bit, dgt_bit, Nat.testBit_and]
  cases decide (r < t) <;> simp
theorem dgt_div (t s x i : Nat) : dgt t (x / 2 ^ (t * s)) i = dgt t x (i + s) := by
  unfold dgt
  rw [Nat.div_div_eq_div_mul, ← Nat.pow_add, show t * s + t * i = t * (i + s) by rw [Nat.mul_add]; omega]
/-- A shift below a mask that leaves the top bits. -/
theorem dgt_mask (s x i m : Nat) (hs : s ≤ 8) (hm : m < 2 ^ (8 - s)) : dgt 8 (x / 2 ^ s) i &&& m = dgt 8 x i / 2 ^ s &&& m := by
  apply Nat.eq_of_testBit_eq
  intro r
  rw [Nat.testBit_and, Nat.testBit_and, dgt_bit, Nat.testBit_div_two_pow, Nat.testBit_div_two_pow, dgt_bit]
  by_cases hr : r < 8 - s
  · rw [decide_eq_true (show r < 8 by omega), decide_eq_true (show r + s < 8 by omega), Nat.add_assoc]
  · rw [Nat.testBit_lt_two_pow (Nat.lt_of_lt_of_le hm (Nat.pow_le_pow_right (by omega) (by omega)))]
    simp
theorem dgt_big {x i : Nat} (hx : x < 18446744073709551616) (hi : 8 ≤ i) : dgt 8 x i = 0 := by
  unfold dgt
  rw [Nat.div_eq_of_lt (Nat.lt_of_lt_of_le hx (by rw [show 18446744073709551616 = 2 ^ 64 from rfl]; exact Nat.pow_le_pow_right (by omega) (by omega)))]

def f1 (b : Nat) : Nat := (b / 2 &&& 85) + (b &&& 85)
def f2 (b : Nat) : Nat := (b / 4 &&& 51) + (b &&& 51)
def p8 (b : Nat) : Nat := ((List.range 8).filter b.testBit).length
theorem f1_lt : ∀ b, b < 256 → f1 b < 256 := by decide +kernel
theorem f2_lt : ∀ b, b < 256 → f2 (f1 b) < 256 ∧ f2 (f1 b) / 16 ≤ 4 ∧ f2 (f1 b) % 16 ≤ 4 ∧ f2 (f1 b) / 16 + f2 (f1 b) % 16 = p8 b ∧ p8 b ≤ 8 := by decide +kernel
theorem m0_d : ∀ i, i < 8 → dgt 8 6148914691236517205 i = 85 := by decide +kernel
theorem m1_d : ∀ i, i < 8 → dgt 8 3689348814741910323 i = 51 := by decide +kernel
theorem m2_d : ∀ i, i < 8 → dgt 8 1085102592571150095 i = 15 := by decide +kernel
theorem mem_len (x k : Nat) : (memT (8 * (k + 1)) x).length = (memT (8 * k) x).length + p8 (dgt 8 x k) := by
  rw [show 8 * (k + 1) = 8 * k + 8 by omega, memT_add, List.length_append, List.length_map]
  congr 1
  unfold p8
  congr 1
  apply List.filter_congr
  intro i hi
  have hi := List.mem_range.1 hi
  rw [dgt_bit, decide_eq_true hi, Bool.true_and]

/-- The steps of the count. -/
theorem pop_steps {x y1 y2 y3 : Nat} (hx : x < 18446744073709551616) (h1 : y1 = (x / 2 &&& 6148914691236517205) + (x &&& 6148914691236517205)) (h2 : y2 = (y1 / 4 &&& 3689348814741910323) + (y1 &&& 3689348814741910323))
    (h3 : y3 = (y2 / 16 + y2) &&& 1085102592571150095) (i : Nat) (hi : i < 8) : dgt 8 y3 i = p8 (dgt 8 x i) := by
  have d1 : ∀ j, dgt 8 y1 j = if j < 8 then f1 (dgt 8 x j) else 0 := by
    have e : ∀ j, dgt 8 (x / 2 &&& 6148914691236517205) j + dgt 8 (x &&& 6148914691236517205) j = if j < 8 then f1 (dgt 8 x j) else 0 := by
      intro j
      rw [dgt_and, dgt_and]
      by_cases hj : j < 8
      · rw [if_pos hj, m0_d j hj]
        have := dgt_mask 1 x j 85 (by omega) (by decide)
        rw [show (2 : Nat) ^ 1 = 2 from rfl] at this
        rw [this]
        rfl
      · rw [if_neg hj, dgt_big (x := 6148914691236517205) (by omega) (by omega)]; simp
    intro j
    rw [h1, dgt_add 8 j _ _ (fun j => by
      rw [e]
      split
      · exact f1_lt _ (dgt_lt 8 x j)
      · decide), e]
  have d2 : ∀ j, dgt 8 y2 j = if j < 8 then f2 (f1 (dgt 8 x j)) else 0 := by
    have e : ∀ j, dgt 8 (y1 / 4 &&& 3689348814741910323) j + dgt 8 (y1 &&& 3689348814741910323) j = if j < 8 then f2 (f1 (dgt 8 x j)) else 0 := by
      intro j
      rw [dgt_and, dgt_and]
      by_cases hj : j < 8
      · rw [if_pos hj, m1_d j hj]
        have := dgt_mask 2 y1 j 51 (by omega) (by decide)
        rw [show (2 : Nat) ^ 2 = 4 from rfl] at this
        rw [this, d1, if_pos hj]
        rfl
      · rw [if_neg hj, dgt_big (x := 3689348814741910323) (by omega) (by omega)]; simp
    intro j
    rw [h2, dgt_add 8 j _ _ (fun j => by
      rw [e]
      split
      · exact (f2_lt _ (dgt_lt 8 x j)).1
      · decide), e]
  have n4 : ∀ z j, dgt 4 z (2 * j) = dgt 8 z j % 16 ∧ dgt 4 z (2 * j + 1) = dgt 8 z j / 16 := by
    intro z j
    unfold dgt
    rw [show 4 * (2 * j) = 8 * j by omega, show 4 * (2 * j + 1) = 8 * j + 4 by omega, Nat.pow_add, ← Nat.div_div_eq_div_mul]
    generalize z / 2 ^ (8 * j) = q
    omega
  have n2 : ∀ j, dgt 4 y2 j ≤ 4 := by
    intro j
    have hq : j = 2 * (j / 2) ∨ j = 2 * (j / 2) + 1 := by omega
    have hd := d2 (j / 2)
    rcases hq with e | e
    · rw [e, (n4 y2 (j / 2)).1, hd]
      split
      · exact (f2_lt _ (dgt_lt 8 x _)).2.2.1
      · omega
    · rw [e, (n4 y2 (j / 2)).2, hd]
      split
      · exact (f2_lt _ (dgt_lt 8 x _)).2.1
      · omega
  have sh : ∀ j, dgt 4 (y2 / 16) j = dgt 4 y2 (j + 1) := fun j => dgt_div 4 1 y2 j
  have s4 : dgt 4 (y2 / 16 + y2) (2 * i) = dgt 4 y2 (2 * i + 1) + dgt 4 y2 (2 * i) := by
    rw [dgt_add 4 (2 * i) _ _ (fun j => by rw [sh]; have := n2 (j + 1); have := n2 j; omega), sh]
  have hd := d2 i
  rw [if_pos hi] at hd
  have hp := (f2_lt _ (dgt_lt 8 x i)).2.2.2.1
  have hm : ∀ z, z &&& 15 = z % 16 := fun z => Nat.and_two_pow_sub_one_eq_mod z 4
  rw [h3, dgt_and, m2_d i hi, hm, ← (n4 (y2 / 16 + y2) i).1, s4, (n4 y2 i).2, (n4 y2 i).1, hd, hp]
/-- The last sums. -/
theorem pop_sum {y3 y4 y5 y6 : Nat} {p : Nat → Nat} (hp : ∀ i, dgt 8 y3 i = p i) (hb : ∀ i, p i ≤ 8) (h4 : y4 = y3 + y3 / 256) (h5 : y5 = y4 + y4 / 65536) (h6 : y6 = y5 + y5 / 4294967296) :
    y6 % 128 = p 0 + p 1 + p 2 + p 3 + p 4 + p 5 + p 6 + p 7 := by
  have d4 : ∀ j, dgt 8 y4 j = p j + p (j + 1) := by
    have e : ∀ j, dgt 8 (y3 / 256) j = p (j + 1) := fun j => (dgt_div 8 1 y3 j).trans (hp _)
    intro j
    rw [h4, dgt_add 8 j _ _ (fun j => by rw [e, hp]; have := hb j; have := hb (j + 1); omega), e, hp]
  have d5 : ∀ j, dgt 8 y5 j = p j + p (j + 1) + (p (j + 2) + p (j + 3)) := by
    have e : ∀ j, dgt 8 (y4 / 65536) j = p (j + 2) + p (j + 3) := fun j => (dgt_div 8 2 y4 j).trans (d4 _)
    intro j
    rw [h5, dgt_add 8 j _ _ (fun j => by rw [e, d4]; have := hb j; have := hb (j + 1); have := hb (j + 2); have := hb (j + 3); omega), e, d4]
  have d6 : dgt 8 y6 0 = p 0 + p 1 + (p 2 + p 3) + (p 4 + p 5 + (p 6 + p 7)) := by
    have e : ∀ j, dgt 8 (y5 / 4294967296) j = p (j + 4) + p (j + 5) + (p (j + 6) + p (j + 7)) := fun j => (dgt_div 8 4 y5 j).trans (d5 _)
    rw [h6, dgt_add 8 0 _ _ (fun j => by
      rw [e, d5]
      have := hb j; have := hb (j + 1); have := hb (j + 2); have := hb (j + 3); have := hb (j + 4); have := hb (j + 5); have := hb (j + 6); have := hb (j + 7)
      omega), e, d5]
  rw [dgt_zero] at d6
  have := hb 0; have := hb 1; have := hb 2; have := hb 3; have := hb 4; have := hb 5; have := hb 6; have := hb 7
  omega

theorem and_nat {a b : Nat} (k : Nat) (hk : a / k < 18446744073709551616) (hb : b < 18446744073709551616) : bits .and .u64 ((a : Int) / (k : Int)) (b : Int) = ((a / k &&& b : Nat) : Int) := by
  rw [← Int.natCast_ediv]
  exact bits_and_u64_nat _ _ hk hb
set_option maxHeartbeats 4000000 in
set_option maxRecDepth 100000 in
/-- math/bits.OnesCount64. -/
theorem onesE_any (x : Nat) (w : World) (hx : x < 18446744073709551616) :
    Calls Tryz.prog 94 #[.int .u64 (x : Int)] w fun e w' => e = .returned (.int .i64 ((memW x).length : Nat)) ∧ w = w' := by
  obtain ⟨y1, h1⟩ : ∃ y, y = (x / 2 &&& 6148914691236517205) + (x &&& 6148914691236517205) := ⟨_, rfl⟩
  obtain ⟨y2, h2⟩ : ∃ y, y = (y1 / 4 &&& 3689348814741910323) + (y1 &&& 3689348814741910323) := ⟨_, rfl⟩
  obtain ⟨y3, h3⟩ : ∃ y, y = (y2 / 16 + y2) &&& 1085102592571150095 := ⟨_, rfl⟩
  obtain ⟨y4, h4⟩ : ∃ y, y = y3 + y3 / 256 := ⟨_, rfl⟩
  obtain ⟨y5, h5⟩ : ∃ y, y = y4 + y4 / 65536 := ⟨_, rfl⟩
  obtain ⟨y6, h6⟩ : ∃ y, y = y5 + y5 / 4294967296 := ⟨_, rfl⟩
  have b1a : x / 2 &&& 6148914691236517205 ≤ 6148914691236517205 := Nat.and_le_right
  have b1b : x &&& 6148914691236517205 ≤ 6148914691236517205 := Nat.and_le_right
  have b2a : y1 / 4 &&& 3689348814741910323 ≤ 3689348814741910323 := Nat.and_le_right
  have b2b : y1 &&& 3689348814741910323 ≤ 3689348814741910323 := Nat.and_le_right
  have b3 : y3 ≤ 1085102592571150095 := by rw [h3]; exact Nat.and_le_right
  have hp : ∀ i, dgt 8 y3 i = if i < 8 then p8 (dgt 8 x i) else 0 := by
    intro i
    by_cases hi : i < 8
    · rw [if_pos hi]; exact pop_steps hx h1 h2 h3 i hi
    · rw [if_neg hi]; exact dgt_big (by omega) (by omega)
  have hsum := pop_sum hp (fun i => by
    show (if i < 8 then p8 (dgt 8 x i) else 0) ≤ 8
    split
    · exact (f2_lt _ (dgt_lt 8 x i)).2.2.2.2
    · omega) h4 h5 h6
  have hlen : (memW x).length = y6 % 128 := by
    have e0 : (memT 8 x).length = (memT 0 x).length + p8 (dgt 8 x 0) := mem_len x 0
    have e1 : (memT 16 x).length = (memT 8 x).length + p8 (dgt 8 x 1) := mem_len x 1
    have e2 : (memT 24 x).length = (memT 16 x).length + p8 (dgt 8 x 2) := mem_len x 2
    have e3 : (memT 32 x).length = (memT 24 x).length + p8 (dgt 8 x 3) := mem_len x 3
    have e4 : (memT 40 x).length = (memT 32 x).length + p8 (dgt 8 x 4) := mem_len x 4
    have e5 : (memT 48 x).length = (memT 40 x).length + p8 (dgt 8 x 5) := mem_len x 5
    have e6 : (memT 56 x).length = (memT 48 x).length + p8 (dgt 8 x 6) := mem_len x 6
    have e7 : (memT 64 x).length = (memT 56 x).length + p8 (dgt 8 x 7) := mem_len x 7
    have hz : (memT 0 x).length = 0 := rfl
    have hm : memW x = memT 64 x := rfl
    have hs : y6 % 128 = p8 (dgt 8 x 0) + p8 (dgt 8 x 1) + p8 (dgt 8 x 2) + p8 (dgt 8 x 3) + p8 (dgt 8 x 4) + p8 (dgt 8 x 5) + p8 (dgt 8 x 6) + p8 (dgt 8 x 7) := hsum
    rw [hm]
    omega
  rw [hlen]
  have a1 := and_nat 2 (show x / 2 < _ by omega) (show 6148914691236517205 < 18446744073709551616 by omega)
  have a2 := bits_and_u64_nat x 6148914691236517205 hx (by omega)
  generalize x / 2 &&& 6148914691236517205 = A1 at a1 b1a h1
  generalize x &&& 6148914691236517205 = A2 at a2 b1b h1
  have s1 : (A1 : Int) + (A2 : Int) = (y1 : Int) := by omega
  have q1 : (y1 : Int) ≤ 12297829382473034410 := by omega
  have a3 := and_nat 4 (show y1 / 4 < _ by omega) (show 3689348814741910323 < 18446744073709551616 by omega)
  have a4 := bits_and_u64_nat y1 3689348814741910323 (by omega) (by omega)
  generalize y1 / 4 &&& 3689348814741910323 = A3 at a3 b2a h2
  generalize y1 &&& 3689348814741910323 = A4 at a4 b2b h2
  have s2 : (A3 : Int) + (A4 : Int) = (y2 : Int) := by omega
  have q2 : (y2 : Int) ≤ 7378697629483820646 := by omega
  obtain ⟨z, hz⟩ : ∃ z, z = y2 / 16 + y2 := ⟨_, rfl⟩
  have s3 : (y2 : Int) / 16 + (y2 : Int) = (z : Int) := by omega
  have q3 : (z : Int) ≤ 8000000000000000000 := by omega
  rw [← hz] at h3
  have a5 := bits_and_u64_nat z 1085102592571150095 (by omega) (by omega)
  rw [← h3] at a5
  have s4 : (y3 : Int) + (y3 : Int) / 256 = (y4 : Int) := by omega
  have s5 : (y4 : Int) + (y4 : Int) / 65536 = (y5 : Int) := by omega
  have s6 : (y5 : Int) + (y5 : Int) / 4294967296 = (y6 : Int) := by omega
  have q4 : (y4 : Int) ≤ 2000000000000000000 := by omega
  have q5 : (y5 : Int) ≤ 3000000000000000000 := by omega
  have q6 : (y6 : Int) ≤ 4000000000000000000 := by omega
  have q3' : (y3 : Int) ≤ 1085102592571150095 := by omega
  have a6 := i64_and_n y6 127 (by omega) (by omega)
  rw [show y6 &&& 127 = y6 % 128 from Nat.and_two_pow_sub_one_eq_mod y6 7] at a6
  have hx0 : (x : Int) < 18446744073709551616 := by omega
  clear hlen hsum hp h1 h2 h3 h4 h5 h6 hz b1a b1b b2a b2b b3
  simp only [Int.cast_ofNat_Int] at a1 a2 a3 a4 a5 a6
  generalize y6 % 128 = R at a6 ⊢
  go_enter Tryz.func94, Tryz.ntmps94
  go_wp2_with fail
  go_ret
  exact ⟨rfl, rfl⟩

theorem memU_length (M k : Nat) : (memU M (k + 1)).length = (memU M k).length + (memW (M / 2 ^ (64 * k) % 2 ^ 64)).length := by
  rw [memU_succ, List.length_append, List.length_map]
/-- Len, exactly. -/
theorem lenE_any (v : Value) (M : Nat) (w : World) (h : SetAt w w.heap.size v M) :
    Calls Tryz.prog 67 #[v] w fun e w' => e = .returned (.int .i64 ((memM M).length : Nat)) ∧ Below w.heap.size w w' := by
  obtain ⟨A, n, c, rfl, hnc, hn, hl, hs, _⟩ := h
  have hlen : (dg 64 M).length = n := by rw [dg_length]; exact hl
  have hl := Lib.hid hl
  have hlen := Lib.hid hlen
  have bA : Below w.heap.size w (w.alloc (.cells #[.slice A n c] 63)) := (Below.refl _ _).alloc (Nat.le_refl _) _
  have hs1 := hs.on bA
  go_enter Tryz.func67, Tryz.ntmps67
  go_wp2_with fail
  go_loopw [3, 9] (fun s i wr => ∃ (k z : Nat), k ≤ n ∧ i = .int .i64 k ∧ s = .int .i64 z ∧ Hid (z = (memU M k).length) ∧ wr = w.alloc (.cells #[.slice A n c] 63)) (fun _ i _ => n - (intOf i).toNat)
  case atStart => exact ⟨0, 0, Nat.zero_le _, rfl, rfl, Lib.hid rfl, rfl⟩
  case round =>
    obtain ⟨k, z, hk, rfl, rfl, hz, rfl⟩ := hrel
    have hzb : (z : Int) ≤ 4096 := by have := hz.out; have := memU_len M k; omega
    by_cases hlt : k < n
    · have hx := dg_get (t := 64) (M := M) (k := k) (by rw [hl.out]; exact hlt)
      obtain ⟨b, o, rfl, hb1, hc1⟩ := hs1.word hx
      have hcall := fun W => onesE_any (M / 2 ^ (64 * k) % 2 ^ 64) W (Nat.mod_lt _ (by omega))
      have Hsucc := Lib.hid (memU_length M k)
      generalize M / 2 ^ (64 * k) % 2 ^ 64 = x at hc1 hcall Hsucc
      have hw64 := memW_len x
      obtain ⟨d, hd⟩ : ∃ d, d = (memW x).length := ⟨_, rfl⟩
      rw [← hd] at hcall hw64 Hsucc
      clear hd hx
      go_wp2_with fail
      refine (hcall _).mono ?_
      rintro e w1 ⟨rfl, rfl⟩
      go_wp2_with fail
      go_roundw
      case rel => exact ⟨k + 1, z + d, by omega, by go_num, by go_num, Lib.hid (by rw [Hsucc.out, ← hz.out]), by simp⟩
      case measure => simp [intOf]; omega
    · obtain rfl : k = n := by omega
      go_wp2
      go_ret
      have e : z = (memM M).length := by unfold memM; rw [hl.out]; exact hz.out
      rw [e]
      exact ⟨rfl, bA⟩
end Go.Proofs.YtcnofhlgiffkjaaGreatDoor
/- The walks of bits.Set's word and Has. -/
namespace Go.Proofs.YtcnofhlgiffkjaaGreatDoor
open Go.RowKit
set_option linter.unusedVariables false
set_option linter.unusedSimpArgs false

/-- Set.word. -/
theorem word_any (v : Value) (M k : Nat) (w : World) (h : SetAt w w.heap.size v M) (hk : k < 64) :
    Calls Tryz.prog 85 #[v, .int .i64 (k : Int)] w fun e w' => e = .returned (.int .u64 ((M / 2 ^ (64 * k) % 2 ^ 64 : Nat))) ∧ Below w.heap.size w w' := by
  obtain ⟨A, n, c, rfl, h1, h2, h4, s, _⟩ := h
  have hk0 : (0 : Int) ≤ (k : Int) := by omega
  by_cases hkn : k < n
  · have hkn' : (k : Int) < (n : Int) := by omega
    obtain ⟨b, o, hA, hb, hc⟩ := s.word (dg_get (k := k) (by rw [h4]; exact hkn))
    subst hA
    generalize M / 2 ^ (64 * k) % 2 ^ 64 = x at hc ⊢
    have hb' : b < (w.alloc (.cells #[.slice (some ⟨b, o, none⟩) n c] 63)).heap.size := by simp; omega
    have H4 := Lib.hid h4
    clear h4
    go_enter Tryz.func85, Tryz.ntmps85
    go_wp2_with fail
    go_ret
    exact ⟨rfl, Below.alloc (Below.refl _ _) (Nat.le_refl _) _⟩
  · have hkn' : ¬ (k : Int) < (n : Int) := by omega
    have e : M / 2 ^ (64 * k) % 2 ^ 64 = 0 := by
      rw [← dg_at (by omega), List.getElem?_eq_none (by rw [dg_length, h4]; omega)]; rfl
    rw [e]
    have H4 := Lib.hid h4
    clear h4
    go_enter Tryz.func85, Tryz.ntmps85
    go_wp2_with fail
    go_ret
    exact ⟨rfl, Below.alloc (Below.refl _ _) (Nat.le_refl _) _⟩

/-- A bit of a word. -/
theorem shr_bit64 (M i : Nat) : decide ((M / 2 ^ (64 * (i / 64)) % 2 ^ 64) / 2 ^ (i % 64) % 2 = 1) = M.testBit i := by
  have := word_bit 64 M (i / 64) (i % 64)
  rw [Nat.div_add_mod, decide_eq_true (Nat.mod_lt i (by omega)), Bool.true_and] at this
  generalize M / 2 ^ (64 * (i / 64)) % 2 ^ 64 = z at this ⊢
  rw [Nat.testBit_eq_decide_div_mod_eq] at this
  exact this
theorem and1_u64 {x : Nat} (j : Nat) (hx : x < 18446744073709551616) : bits BinOp.and IntKind.u64 ((x : Int) / 2 ^ j) 1 = ((x / 2 ^ j % 2 : Nat) : Int) := by
  have hy : x / 2 ^ j < 18446744073709551616 := Nat.lt_of_le_of_lt (Nat.div_le_self _ _) hx
  have e := bits_and_u64_nat (x / 2 ^ j) 1 hy (by omega)
  rw [Nat.and_one_is_mod, Int.natCast_ediv, Int.natCast_pow] at e
  exact e
theorem bit_eq {y : Nat} : (((y % 2 : Nat) : Int) == 1) = decide (y % 2 = 1) := by
  by_cases h : y % 2 = 1
  · rw [h]; rfl
  · rw [decide_eq_false h]; exact beq_false_of_ne (by omega)

set_option maxRecDepth 100000 in
/-- Set.Has. -/
theorem has_any (v : Value) (M i : Nat) (w : World) (h : SetAt w w.heap.size v M) (hi : i < 4096) :
    Calls Tryz.prog 59 #[v, .int .i64 (i : Int)] w fun e w' => e = .returned (.bool (M.testBit i)) ∧ Below w.heap.size w w' := by
  have hi0 : (0 : Int) ≤ (i : Int) := by omega
  have hi1 : (i : Int) < 4096 := by omega
  have hi2 : (i : Int) ≤ 4095 := by omega
  have hs := h
  obtain ⟨A, n, c, rfl, h1, h2, h4, s, _⟩ := h
  clear h4
  have hd' := Lib.hid (show (i : Int) / 64 = ((i / 64 : Nat) : Int) from by omega)
  have hm' := Lib.hid (show (i : Int) % 64 = ((i % 64 : Nat) : Int) from by omega)
  have hw := fun w' h => word_any (.agg #[.slice A n c]) M (i / 64) w' h (by omega)
  have hb := shr_bit64 M i
  have hx : M / 2 ^ (64 * (i / 64)) % 2 ^ 64 < 18446744073709551616 := Nat.mod_lt _ (by omega)
  generalize M / 2 ^ (64 * (i / 64)) % 2 ^ 64 = x at hw hb hx
  rw [← hb]
  clear hb
  go_enter Tryz.func59, Tryz.ntmps59
  go_wp2_with fail
  simp only [hd'.out]
  refine (hw _ (hs.on (Below.alloc (Below.refl _ _) (Nat.le_refl _) _))).mono ?_
  rintro e w1 ⟨rfl, bw⟩
  go_wp2_with fail
  go_ret
  refine ⟨?_, ((Below.refl _ _).alloc (Nat.le_refl _) _).trans (bw.mono (by simp))⟩
  show Ending.returned (Value.bool (bits BinOp.and IntKind.u64 ((x : Int) / 2 ^ (i % 64)) 1 == 1)) = _
  rw [and1_u64 _ hx, bit_eq]
end Go.Proofs.YtcnofhlgiffkjaaGreatDoor
/- A store into a cell that holds a slice leaves numbers as they are. -/
namespace Go.Proofs.YtcnofhlgiffkjaaGreatDoor
open Go.RowKit
set_option linter.unusedVariables false
set_option linter.unusedSimpArgs false

/-- What holds numbers does not lie in a cell that holds a slice. -/
theorem Sees.off {w : World} {B k i : Nat} {A : Option Addr} {xs : List Value} {t : TypeId} {X : Option Addr} {y z : Nat} (h : Sees w B A xs) (hx : ∀ v ∈ xs, ∃ q r, v = .int q r) (hk : Blk w k t #[.slice X y z]) (u : Value) : Sees (w.setCell ⟨k, i, none⟩ u) B A xs := fun hn => by
  obtain ⟨b, o, e, hb, hc⟩ := h hn
  refine ⟨b, o, e, hb, fun j v hj => ?_⟩
  have hcj := hc j v hj
  have hne : b ≠ k := by
    rintro rfl
    obtain ⟨q, r, rfl⟩ := hx v (List.mem_of_getElem? hj)
    rw [hk.cell] at hcj
    rcases Nat.eq_zero_or_pos (o + j) with h0 | h0
    · rw [h0] at hcj; simp at hcj
    · rw [Array.getElem?_eq_none (by show 1 ≤ o + j; omega)] at hcj
      cases hcj
  rw [← hcj]
  exact World.cell?_of_block (a := ⟨b, o + j, none⟩) (Below.heap_setCell w ⟨k, i, none⟩ u b hne)
theorem ints_bv (l : List UInt8) : ∀ v ∈ l.map bv, ∃ q r, v = .int q r := by
  intro v hv
  obtain ⟨x, _, rfl⟩ := List.mem_map.1 hv
  exact ⟨_, _, rfl⟩
theorem ints_wv (l : List Nat) : ∀ v ∈ l.map wv, ∃ q r, v = .int q r := by
  intro v hv
  obtain ⟨x, _, rfl⟩ := List.mem_map.1 hv
  exact ⟨_, _, rfl⟩
theorem SetAt.off {w : World} {k i M : Nat} {v : Value} {t : TypeId} {X : Option Addr} {y z : Nat} (h : SetAt w w.heap.size v M) (hk : Blk w k t #[.slice X y z]) (u : Value) (ht : 70 ≠ t := by decide) : SetAt (w.setCell ⟨k, i, none⟩ u) (w.setCell ⟨k, i, none⟩ u).heap.size v M := by
  obtain ⟨A, n, c, e, h1, h2, h3, s, r⟩ := h
  refine ⟨A, n, c, e, h1, h2, h3, ?_, fun b o e h0 => ?_⟩
  · have := s.off (ints_wv _) hk u (i := i)
    simpa using this
  · obtain ⟨cs, hc⟩ := r b o e h0
    exact ⟨cs, hc.far (p := ⟨k, i, none⟩) (hc.apart hk ht) u⟩

theorem SetAt.zero (w : World) (B : Nat) (A : Option Addr) (c : Nat) : SetAt w B (.agg #[.slice A 0 c]) 0 :=
  ⟨A, 0, c, rfl, Nat.zero_le _, Nat.zero_le _, rfl, Sees.nil _ _ _, fun _ _ _ h => absurd rfl h⟩
end Go.Proofs.YtcnofhlgiffkjaaGreatDoor
/- bits.Below and Set.Within; plain: words of sets. -/
namespace Go.Proofs.YtcnofhlgiffkjaaGreatDoor
open Go.RowKit
set_option linter.unusedVariables false
set_option linter.unusedSimpArgs false

/-- Word k of a number. -/
abbrev wd (M k : Nat) : Nat := M / 2 ^ (64 * k) % 2 ^ 64
theorem wd_bit (M k r : Nat) : (wd M k).testBit r = (decide (r < 64) && M.testBit (64 * k + r)) := word_bit 64 M k r
theorem wd_lt (M k : Nat) : wd M k < 18446744073709551616 := Nat.mod_lt _ (by omega)
theorem wd_ext {M O : Nat} (h : ∀ k, wd M k = wd O k) : M = O := by
  apply Nat.eq_of_testBit_eq
  intro i
  have h1 := congrArg (fun z => z.testBit (i % 64)) (h (i / 64))
  simp only [wd_bit, decide_eq_true (Nat.mod_lt i (show 0 < 64 by omega)), Bool.true_and, Nat.div_add_mod] at h1
  exact h1
theorem wd_or (M O k : Nat) : wd (M ||| O) k = wd M k ||| wd O k := by
  apply Nat.eq_of_testBit_eq
  intro r
  rw [Nat.testBit_or, wd_bit, wd_bit, wd_bit, Nat.testBit_or]
  cases decide (r < 64) <;> simp
theorem wd_big {M k n : Nat} (hn : len2 64 M ≤ n) (hk : n ≤ k) : wd M k = 0 := by
  have h1 := (len2_le (t := 64) (by omega)).1 hn
  have h2 : M < 2 ^ (64 * k) := Nat.lt_of_lt_of_le h1 (Nat.pow_le_pow_right (by omega) (by omega))
  unfold wd
  rw [Nat.div_eq_of_lt h2]
theorem wd_ones (n k : Nat) : wd (2 ^ n - 1) k = 2 ^ min 64 (n - 64 * k) - 1 := by
  apply Nat.eq_of_testBit_eq
  intro r
  rw [wd_bit, Nat.testBit_two_pow_sub_one, Nat.testBit_two_pow_sub_one]
  by_cases h1 : r < 64 <;> by_cases h2 : 64 * k + r < n
  · rw [decide_eq_true h1, decide_eq_true h2, decide_eq_true (by omega)]; rfl
  · rw [decide_eq_true h1, decide_eq_false h2, decide_eq_false (by omega)]; rfl
  · rw [decide_eq_false h1, Bool.false_and, eq_comm, decide_eq_false_iff_not]; omega
  · rw [decide_eq_false h1, Bool.false_and, eq_comm, decide_eq_false_iff_not]; omega
theorem fx_setw {n M M' k : Nat} (hk : k < n) (h : ∀ j, j < n → j ≠ k → wd M' j = wd M j) : fx 64 n M' = (fx 64 n M).set k (wd M' k) := by
  apply List.ext_getElem?
  intro j
  by_cases hj : j < n
  · rw [fx_get hj]
    by_cases e : k = j
    · subst e
      rw [List.getElem?_set_self (by rw [fx_length]; exact hj)]
    · rw [List.getElem?_set_ne e, fx_get hj]
      exact congrArg some (h j hj (fun e' => e e'.symm))
  · rw [List.getElem?_eq_none (by rw [fx_length]; omega), List.getElem?_eq_none (by rw [List.length_set, fx_length]; omega)]
theorem len2_ones (n : Nat) : len2 64 (2 ^ n - 1) = (n + 63) / 64 := by
  by_cases h0 : n = 0
  · subst h0; rfl
  · have h1 : 2 ^ n - 1 < 2 ^ n := by have := Nat.two_pow_pos n; omega
    have a : len2 64 (2 ^ n - 1) ≤ (n + 63) / 64 := (len2_le (by omega)).2 (Nat.lt_of_lt_of_le h1 (Nat.pow_le_pow_right (by omega) (by omega)))
    have b : ¬ len2 64 (2 ^ n - 1) ≤ (n + 63) / 64 - 1 := fun h => by
      have h2 := (len2_le (t := 64) (by omega)).1 h
      have h3 : (2 ^ n - 1).testBit (n - 1) = true := by rw [Nat.testBit_two_pow_sub_one]; simpa using (show n - 1 < n by omega)
      have h4 := Nat.testBit_lt_two_pow (Nat.lt_of_lt_of_le h2 (Nat.pow_le_pow_right (n := 2) (by omega) (show 64 * ((n + 63) / 64 - 1) ≤ n - 1 by omega)))
      rw [h3] at h4
      cases h4
    omega

set_option maxHeartbeats 4000000 in
set_option maxRecDepth 100000 in
/-- Below. -/
theorem below_any (n : Nat) (w : World) (hn : n ≤ 4096) :
    Calls Tryz.prog 53 #[.int .i64 (n : Int)] w fun e w' => ∃ v', e = .returned v' ∧ SetAt w' w'.heap.size v' (2 ^ n - 1) ∧ Below w.heap.size w w' := by
  have bA : Below w.heap.size w (w.alloc (.cells #[.slice none 0 0] 63)) := (Below.refl _ _).alloc (Nat.le_refl _) _
  have bR := Blk.new w 63 #[.slice none 0 0]
  obtain ⟨N, hN, hNi, hN64⟩ : ∃ N : Nat, Hid (N = (n + 63) / 64) ∧ ((n : Int) + 63) / 64 = (N : Int) ∧ N ≤ 64 := ⟨(n + 63) / 64, Lib.hid rfl, by omega, by omega⟩
  obtain ⟨r, hr, hri, hr64⟩ : ∃ r : Nat, Hid (r = n % 64) ∧ (n : Int) % 64 = (r : Int) ∧ r < 64 := ⟨n % 64, Lib.hid rfl, by omega, by omega⟩
  have hmx : max (n : Int) 0 = (n : Int) := by omega
  have hmn : min (n : Int) 4096 = (n : Int) := by omega
  have hlo := Lib.hid (len2_ones n)
  have hn0 : (0 : Int) ≤ (n : Int) := by omega
  have hn9 : (n : Int) ≤ 4096 := by omega
  go_enter Tryz.func53, Tryz.ntmps53
  go_wp2_with (refine wpL_mkW _ rfl _ _ rfl _ _ N rfl rfl (by omega) (by omega) (by omega) ?_; intro w2 G2 bw2 hz2)
  have hw2 : w2.heap.size = w.heap.size + 2 := by have := hz2.out; simpa using this
  have hw1 : (w.alloc (.cells #[.slice none 0 0] 63)).heap.size = w.heap.size + 1 := by simp
  rw [hw1] at G2
  go_loopw [14] (fun i wr => ∃ (k : Nat), k ≤ N ∧ i = .int .i64 k ∧ Hid (Blk wr (w.heap.size + 1) 70 ((fx 64 N (2 ^ (64 * k) - 1)).map wv).toArray) ∧ Below (w.heap.size + 1) (w.alloc (.cells #[.slice none 0 0] 63)) wr) (fun i _ => N - (intOf i).toNat)
  case atStart => exact ⟨0, Nat.zero_le _, rfl, Lib.hid (by rw [show 2 ^ (64 * 0) - 1 = 0 from rfl, fx_zero]; exact G2.out), by rw [← hw1]; exact bw2⟩
  case round =>
    obtain ⟨k, hk, rfl, G, bw⟩ := hrel
    have hkN : k < N ∨ N = k := by omega
    rcases hkN with hlt | rfl
    · have hlt' : (k : Int) < (N : Int) := by omega
      have hfz := G.out.frozen k
      have hcz := G.out.wcell (k := k) (fx_get hlt)
      have hb4 := G.out.wset k 18446744073709551615
      have hS : (fx 64 N (2 ^ (64 * k) - 1)).set k 18446744073709551615 = fx 64 N (2 ^ (64 * (k + 1)) - 1) := by
        rw [fx_setw (M := 2 ^ (64 * k) - 1) (M' := 2 ^ (64 * (k + 1)) - 1) hlt, wd_ones, show min 64 (64 * (k + 1) - 64 * k) = 64 by omega]
        intro j hj hjk
        rw [wd_ones, wd_ones]
        rcases Nat.lt_or_gt_of_ne hjk with h | h
        · rw [show min 64 (64 * (k + 1) - 64 * j) = 64 by omega, show min 64 (64 * k - 64 * j) = 64 by omega]
        · rw [show min 64 (64 * (k + 1) - 64 * j) = 0 by omega, show min 64 (64 * k - 64 * j) = 0 by omega]
      rw [hS] at hb4
      have Hb4 := Lib.hid hb4
      generalize wd (2 ^ (64 * k) - 1) k = z at hcz
      clear hb4 hS
      go_wp2_with fail
      go_roundw
      case rel => exact ⟨k + 1, by omega, by go_num, Hb4, bw.setCell (p := ⟨w.heap.size + 1, k, none⟩) (by simp) _⟩
      case measure => simp [intOf]; omega
    · have bR2 := bR.below bw (by omega)
      have x0 := bR2.cell 0
      have y0 := bR2.frozen 0
      simp at x0
      have BR2 := Lib.hid bR2
      have bww : Below w.heap.size w wr := bA.trans (bw.mono (by omega))
      have hzw := bww.size
      have hzk := bw.size
      simp at hzk
      clear bR2 bR
      by_cases hr0 : r = 0
      · subst hr0
        have hone : 2 ^ (64 * N) - 1 = 2 ^ n - 1 := by rw [show 64 * N = n by have := hN.out; have := hr.out; omega]
        have hS := SetAt.blk (M := 2 ^ n - 1) (by rw [← hone]; exact G.out) (by rw [hlo.out, hN.out]) hN64
        go_wp2_with fail
        refine ret_set rfl w.heap.size (.slice (some ⟨w.heap.size + 1, 0, none⟩) N N) rfl ?_ rfl ?_
        · have := BR2.out.put 0 (.slice (some ⟨w.heap.size + 1, 0, none⟩) N N)
          simpa using this
        exact ⟨_, rfl, hS.off BR2.out _, bww.setCell (p := ⟨w.heap.size, 0, none⟩) (Nat.le_refl _) _⟩
      · have hr1 : 0 < (r : Int) := by omega
        have hN1 : 1 ≤ N := by have := hN.out; have := hr.out; omega
        have hN1i : (1 : Int) ≤ (N : Int) := by omega
        obtain ⟨p, hp1, hp2, hp3⟩ := bit_u64 hr64
        have hpp : 1 ≤ p := by rw [hp1.out, Nat.shiftLeft_eq, Nat.one_mul]; exact Nat.two_pow_pos r
        have hp4 : IntKind.u64.wrap ((p : Int) - 1) = ((p - 1 : Nat) : Int) := by rw [IntKind.wrap_u64]; omega
        have hfz := G.out.frozen (N - 1)
        have hcz := G.out.wcell (k := N - 1) (fx_get (by omega))
        generalize 2 ^ (64 * N) - 1 = MM at hcz
        generalize MM / 2 ^ (64 * (N - 1)) % 2 ^ 64 = z at hcz
        have hb4 := G.out.wset (N - 1) (p - 1)
        have hS : (fx 64 N (2 ^ (64 * N) - 1)).set (N - 1) (p - 1) = fx 64 N (2 ^ n - 1) := by
          have hn64 : n = 64 * (N - 1) + r := by have := hN.out; have := hr.out; omega
          rw [fx_setw (M := 2 ^ (64 * N) - 1) (M' := 2 ^ n - 1) (k := N - 1) (by omega), wd_ones, show min 64 (n - 64 * (N - 1)) = r by omega, hp1.out, Nat.shiftLeft_eq, Nat.one_mul]
          intro j hj hjk
          rw [wd_ones, wd_ones, show min 64 (n - 64 * j) = 64 by omega, show min 64 (64 * N - 64 * j) = 64 by omega]
        rw [hS] at hb4
        have hS2 := SetAt.blk hb4 (by rw [hlo.out, hN.out]) hN64
        have BR3 := Lib.hid (BR2.out.far (p := ⟨w.heap.size + 1, N - 1, none⟩) (by simp) (.int .u64 ((p - 1 : Nat) : Int)))
        have hS2 := Lib.hid hS2
        clear hb4 hS
        have x3 := BR3.out.cell 0
        have y3 := BR3.out.frozen 0
        simp only [List.getElem?_toArray, List.getElem?_cons_zero] at x3
        go_wp2_with fail
        refine ret_set rfl w.heap.size (.slice (some ⟨w.heap.size + 1, 0, none⟩) N N) rfl ?_ rfl ?_
        · have := BR3.out.put 0 (.slice (some ⟨w.heap.size + 1, 0, none⟩) N N)
          simpa using this
        exact ⟨_, rfl, hS2.out.off BR3.out _, (bww.setCell (p := ⟨w.heap.size + 1, N - 1, none⟩) (by simp) _).setCell (p := ⟨w.heap.size, 0, none⟩) (Nat.le_refl _) _⟩
end Go.Proofs.YtcnofhlgiffkjaaGreatDoor
/- Set.Within. -/
namespace Go.Proofs.YtcnofhlgiffkjaaGreatDoor
open Go.RowKit
set_option linter.unusedVariables false
set_option linter.unusedSimpArgs false

/-- The members of M are members of O. -/
def withinB (M O : Nat) : Bool := decide (M ||| O = O)
theorem or_words {M O n : Nat} (hn : len2 64 M = n) (h : ∀ k, k < n → wd M k ||| wd O k = wd O k) : M ||| O = O := by
  apply wd_ext
  intro k
  rw [wd_or]
  by_cases hk : k < n
  · exact h k hk
  · rw [wd_big (Nat.le_of_eq hn) (by omega)]; simp
theorem andNot_zero {a b : Nat} (ha : a < 18446744073709551616) (hb : b < 18446744073709551616) : (bits BinOp.andNot IntKind.u64 (a : Int) (b : Int) != 0) = !decide (a ||| b = b) := by
  have e : bits .andNot .u64 (a : Int) (b : Int) = ((a &&& (18446744073709551615 - b) : Nat) : Int) := by
    have h1 : (BitVec.ofInt 64 (a : Int)).toNat = a := by
      rw [BitVec.ofInt_natCast, BitVec.toNat_ofNat]; exact Nat.mod_eq_of_lt (by omega)
    have h2 : (BitVec.ofInt 64 (b : Int)).toNat = b := by
      rw [BitVec.ofInt_natCast, BitVec.toNat_ofNat]; exact Nat.mod_eq_of_lt (by omega)
    have h3 : (BitVec.ofInt 64 (a : Int) &&& ~~~(BitVec.ofInt 64 (b : Int))).toNat = a &&& (18446744073709551615 - b) := by
      rw [BitVec.toNat_and, BitVec.toNat_not, h1, h2]
    show IntKind.u64.wrap ((BitVec.ofInt 64 (a : Int) &&& ~~~(BitVec.ofInt 64 (b : Int))).toNat : Int) = _
    rw [h3, IntKind.wrap_u64]
    have : a &&& (18446744073709551615 - b) ≤ a := Nat.and_le_left
    omega
  rw [e]
  have hiff : a &&& (18446744073709551615 - b) = 0 ↔ a ||| b = b := by
    have hbit : ∀ i, (18446744073709551615 - b).testBit i = (decide (i < 64) && !b.testBit i) := by
      intro i
      have := Nat.testBit_two_pow_sub_succ (n := 64) (x := b) (by omega) i
      rw [show 2 ^ 64 - (b + 1) = 18446744073709551615 - b by omega] at this
      exact this
    constructor
    · intro h
      apply Nat.eq_of_testBit_eq
      intro i
      have h1 := congrArg (fun z => z.testBit i) h
      simp only [Nat.testBit_and, hbit, Nat.zero_testBit] at h1
      rw [Nat.testBit_or]
      by_cases hi : i < 64
      · rw [decide_eq_true hi] at h1
        cases ha' : a.testBit i <;> cases hb' : b.testBit i <;> simp_all
      · rw [Nat.testBit_lt_two_pow (Nat.lt_of_lt_of_le ha (Nat.pow_le_pow_right (n := 2) (by omega) (show 64 ≤ i by omega)))]
        simp
    · intro h
      apply Nat.eq_of_testBit_eq
      intro i
      have h1 := congrArg (fun z => z.testBit i) h
      simp only [Nat.testBit_or] at h1
      rw [Nat.testBit_and, hbit, Nat.zero_testBit]
      cases ha' : a.testBit i <;> cases hb' : b.testBit i <;> simp_all
  by_cases h : a ||| b = b
  · rw [decide_eq_true h, hiff.2 h]; rfl
  · rw [decide_eq_false h]
    have h2 : a &&& (18446744073709551615 - b) ≠ 0 := fun e => h (hiff.1 e)
    simp only [Bool.not_false, bne_iff_ne, ne_eq]
    omega

set_option maxHeartbeats 4000000 in
set_option maxRecDepth 100000 in
/-- Within. -/
theorem within_any (v o : Value) (M O : Nat) (w : World) (h : SetAt w w.heap.size v M) (ho : SetAt w w.heap.size o O) :
    Calls Tryz.prog 52 #[v, o] w fun e w' => e = .returned (.bool (withinB M O)) ∧ Below w.heap.size w w' := by
  have h0 := h
  have ho0 := ho
  obtain ⟨A, n, c, rfl, hnc, hn, hl, hs, _⟩ := h
  obtain ⟨A2, n2, c2, rfl, _⟩ := ho
  have hl := Lib.hid hl
  have b1 : Below w.heap.size w (w.alloc (.cells #[.slice A n c] 63)) := (Below.refl _ _).alloc (Nat.le_refl _) _
  have b2 : Below w.heap.size w ((w.alloc (.cells #[.slice A n c] 63)).alloc (.cells #[.slice A2 n2 c2] 63)) := b1.alloc (by simp) _
  have bO := Blk.new (w.alloc (.cells #[.slice A n c] 63)) 63 #[.slice A2 n2 c2]
  rw [World.size_alloc] at bO
  have sz2 : ((w.alloc (.cells #[.slice A n c] 63)).alloc (.cells #[.slice A2 n2 c2] 63)).heap.size = w.heap.size + 2 := by simp
  go_enter Tryz.func52, Tryz.ntmps52
  go_wp2_with fail
  generalize ((w.alloc (.cells #[.slice A n c] 63)).alloc (.cells #[.slice A2 n2 c2] 63)) = W2 at b2 bO sz2 ⊢
  go_loopw [10] (fun i wr => ∃ k : Nat, k ≤ n ∧ i = .int .i64 k ∧ Hid (∀ j, j < k → wd M j ||| wd O j = wd O j) ∧ Below W2.heap.size W2 wr) (fun i _ => n - (intOf i).toNat)
  case atStart => exact ⟨0, Nat.zero_le _, rfl, Lib.hid (fun j hj => absurd hj (by omega)), Below.refl _ _⟩
  case round =>
    obtain ⟨k, hk, rfl, HP, hB⟩ := hrel
    have bw := b2.trans (hB.mono b2.size)
    by_cases hlt : k < n
    · have hlt' : (k : Int) < (n : Int) := by omega
      obtain ⟨b, o, rfl, hb, hc⟩ := (hs.below bw).word (dg_get (k := k) (by rw [hl.out]; exact hlt))
      have bO2 := bO.on hB
      have x0 := bO2.cell 0
      simp only [List.getElem?_toArray, List.getElem?_cons_zero] at x0
      have hw := word_any (.agg #[.slice A2 n2 c2]) O k wr (ho0.on bw) (by omega)
      have hm : wd M k < 18446744073709551616 := wd_lt M k
      have hoo : wd O k < 18446744073709551616 := wd_lt O k
      obtain ⟨x, hx⟩ : ∃ x, x = wd M k := ⟨_, rfl⟩
      obtain ⟨y, hy⟩ : ∃ y, y = wd O k := ⟨_, rfl⟩
      change wr.cell? ⟨b, o + k, none⟩ = some (.int .u64 ((wd M k : Nat) : Int)) at hc
      change Calls _ _ _ _ fun e w' => e = .returned (.int .u64 ((wd O k : Nat) : Int)) ∧ Below wr.heap.size wr w' at hw
      rw [← hx] at hc hm
      rw [← hy] at hw hoo
      have Hx := Lib.hid hx
      have Hy := Lib.hid hy
      have han := andNot_zero hm hoo
      clear hx hy bO2
      by_cases heq : x ||| y = y
      · rw [decide_eq_true heq] at han
        have Heq := Lib.hid heq
        clear heq
        simp only [Bool.not_true] at han
        go_wp2_with fail
        refine hw.mono ?_
        rintro e w3 ⟨rfl, hB3⟩
        go_wp2_with fail
        go_roundw
        case rel =>
          refine ⟨k + 1, by omega, by go_num, Lib.hid (fun j hj => ?_), hB.trans (hB3.mono hB.size)⟩
          by_cases e : j = k
          · subst e
            rw [← Hx.out, ← Hy.out]
            exact Heq.out
          · exact HP.out j (by omega)
        case measure => simp [intOf]; omega
      · rw [decide_eq_false heq] at han
        have Heq := Lib.hid heq
        clear heq
        simp only [Bool.not_false] at han
        go_wp2_with fail
        refine hw.mono ?_
        rintro e w3 ⟨rfl, hB3⟩
        go_wp2_with fail
        go_ret
        refine ⟨ret_bool ?_, bw.trans (hB3.mono bw.size)⟩
        symm
        unfold withinB
        rw [decide_eq_false_iff_not]
        intro e
        have h3 := congrArg (fun z => wd z k) e
        simp only [wd_or] at h3
        rw [← Hx.out, ← Hy.out] at h3
        exact Heq.out h3
    · have hlt' : ¬ (k : Int) < (n : Int) := by omega
      go_wp2_with fail
      go_ret
      refine ⟨ret_bool ?_, bw⟩
      symm
      unfold withinB
      rw [decide_eq_true_iff]
      exact or_words hl.out (fun j hj => HP.out j (by omega))
end Go.Proofs.YtcnofhlgiffkjaaGreatDoor
/- Set.Or. -/
namespace Go.Proofs.YtcnofhlgiffkjaaGreatDoor
open Go.RowKit
set_option linter.unusedVariables false
set_option linter.unusedSimpArgs false

theorem len2_or {M O n : Nat} (h : n = max (len2 64 M) (len2 64 O)) : len2 64 (M ||| O) = n := by
  have e : ∀ k, len2 64 (M ||| O) ≤ k ↔ n ≤ k := by
    intro k
    rw [len2_le (by omega), h]
    constructor
    · intro hk
      have h1 : M < 2 ^ (64 * k) := Nat.lt_of_le_of_lt Nat.left_le_or hk
      have h2 : O < 2 ^ (64 * k) := Nat.lt_of_le_of_lt Nat.right_le_or hk
      have h3 := (len2_le (t := 64) (by omega)).2 h1
      have h4 := (len2_le (t := 64) (by omega)).2 h2
      omega
    · intro hk
      exact Nat.or_lt_two_pow ((len2_le (t := 64) (by omega)).1 (by omega)) ((len2_le (t := 64) (by omega)).1 (by omega))
  have h1 := (e (len2 64 (M ||| O))).1 (Nat.le_refl _)
  have h2 := (e n).2 (Nat.le_refl _)
  omega
theorem wd_mod (M k j : Nat) : wd (M % 2 ^ (64 * k)) j = if j < k then wd M j else 0 := by
  apply Nat.eq_of_testBit_eq
  intro r
  rw [wd_bit, Nat.testBit_mod_two_pow]
  by_cases h : j < k
  · rw [if_pos h, wd_bit]
    by_cases hr : r < 64
    · rw [decide_eq_true hr, decide_eq_true (show 64 * j + r < 64 * k by omega)]; simp
    · rw [decide_eq_false hr]; simp
  · rw [if_neg h, decide_eq_false (show ¬ 64 * j + r < 64 * k by omega)]; simp

set_option maxHeartbeats 4000000 in
set_option maxRecDepth 100000 in
/-- Or. -/
theorem or_any (v o : Value) (M O : Nat) (w : World) (h : SetAt w w.heap.size v M) (ho : SetAt w w.heap.size o O) :
    Calls Tryz.prog 74 #[v, o] w fun e w' => ∃ v', e = .returned v' ∧ SetAt w' w'.heap.size v' (M ||| O) ∧ Below w.heap.size w w' := by
  have h0 := h
  have ho0 := ho
  obtain ⟨A, n, c, rfl, hnc, hn, hl, hs, _⟩ := h
  obtain ⟨A2, n2, c2, rfl, _, hn2, hl2, _⟩ := ho
  obtain ⟨N, hN, hNi, hN64⟩ : ∃ N : Nat, Hid (N = max n n2) ∧ max (n : Int) (n2 : Int) = (N : Int) ∧ N ≤ 64 := ⟨max n n2, Lib.hid rfl, by omega, by omega⟩
  have hlo := Lib.hid (len2_or (M := M) (O := O) (n := N) (by rw [hN.out, hl, hl2]))
  clear hl hl2
  have b1 : Below w.heap.size w (w.alloc (.cells #[.slice A n c] 63)) := (Below.refl _ _).alloc (Nat.le_refl _) _
  have b2 : Below w.heap.size w ((w.alloc (.cells #[.slice A n c] 63)).alloc (.cells #[.slice A2 n2 c2] 63)) := b1.alloc (by simp) _
  have b3 : Below w.heap.size w (((w.alloc (.cells #[.slice A n c] 63)).alloc (.cells #[.slice A2 n2 c2] 63)).alloc (.cells #[.slice none 0 0] 63)) := b2.alloc (by simp; omega) _
  have bS := ((Blk.new w 63 #[.slice A n c]).alloc (.cells #[.slice A2 n2 c2] 63)).alloc (.cells #[.slice none 0 0] 63)
  have bO := (Blk.new (w.alloc (.cells #[.slice A n c] 63)) 63 #[.slice A2 n2 c2]).alloc (.cells #[.slice none 0 0] 63)
  have bR := Blk.new ((w.alloc (.cells #[.slice A n c] 63)).alloc (.cells #[.slice A2 n2 c2] 63)) 63 #[.slice none 0 0]
  have sz2 : ((w.alloc (.cells #[.slice A n c] 63)).alloc (.cells #[.slice A2 n2 c2] 63)).heap.size = w.heap.size + 2 := by simp
  rw [World.size_alloc] at bO
  rw [sz2] at bR
  have sz3 : (((w.alloc (.cells #[.slice A n c] 63)).alloc (.cells #[.slice A2 n2 c2] 63)).alloc (.cells #[.slice none 0 0] 63)).heap.size = w.heap.size + 3 := by simp
  go_enter Tryz.func74, Tryz.ntmps74
  go_wp2_with (refine wpL_mkW _ rfl _ _ rfl _ _ N rfl rfl (by omega) (by omega) (by omega) ?_; intro w2 G2 bw2 hz2)
  generalize (((w.alloc (.cells #[.slice A n c] 63)).alloc (.cells #[.slice A2 n2 c2] 63)).alloc (.cells #[.slice none 0 0] 63)) = W3 at b3 bS bO bR sz3 G2 bw2 hz2 ⊢
  have hw2 : w2.heap.size = w.heap.size + 4 := by have := hz2.out; omega
  go_loopw [17] (fun i wr => ∃ k : Nat, k ≤ N ∧ i = .int .i64 k ∧ Hid (Blk wr (w.heap.size + 3) 70 ((fx 64 N ((M ||| O) % 2 ^ (64 * k))).map wv).toArray) ∧ Below W3.heap.size W3 wr) (fun i _ => N - (intOf i).toNat)
  case atStart => exact ⟨0, Nat.zero_le _, rfl, Lib.hid (by rw [show (M ||| O) % 2 ^ (64 * 0) = 0 from Nat.mod_one _, fx_zero, ← sz3]; exact G2.out), bw2⟩
  case round =>
    obtain ⟨k, hk, rfl, G, hB⟩ := hrel
    have bw := b3.trans (hB.mono b3.size)
    by_cases hlt : k < N
    · have hlt' : (k : Int) < (N : Int) := by omega
      have hd0 : Below wr.heap.size wr wr.drew := (Below.refl _ _).drew
      have hBd := hB.trans (hd0.mono hB.size)
      have hS1 : ∀ W, Below W3.heap.size W3 W → W.cell? ⟨w.heap.size, 0, none⟩ = some (.slice A n c) ∧ W.cell? ⟨w.heap.size + 1, 0, none⟩ = some (.slice A2 n2 c2) := fun W hW => ⟨((bS.on hW).cell 0).trans rfl, ((bO.on hW).cell 0).trans rfl⟩
      obtain ⟨y1, y2⟩ := hS1 _ hBd
      have hwS := word_any (.agg #[.slice A n c]) M k wr.drew (h0.on (bw.trans (hd0.mono bw.size))) (by omega)
      have hwO := fun W (hW : Below W3.heap.size W3 W) => word_any (.agg #[.slice A2 n2 c2]) O k W (ho0.on (b3.trans (hW.mono b3.size))) (by omega)
      change Calls _ _ _ _ fun e w' => e = .returned (.int .u64 ((wd M k : Nat) : Int)) ∧ Below wr.drew.heap.size wr.drew w' at hwS
      change ∀ W, Below W3.heap.size W3 W → Calls _ _ _ _ fun e w' => e = .returned (.int .u64 ((wd O k : Nat) : Int)) ∧ Below W.heap.size W w' at hwO
      have hor := bits_or_u64_nat (wd M k) (wd O k) (wd_lt M k) (wd_lt O k)
      have hwd := Lib.hid (wd_or M O k)
      generalize wd M k = x at hwS hor hwd
      generalize wd O k = y at hwO hor hwd
      have Gd := G.out.on hd0
      have hG : ∀ W, Blk W (w.heap.size + 3) 70 ((fx 64 N ((M ||| O) % 2 ^ (64 * k))).map wv).toArray → (∃ z : Nat, W.cell? ⟨w.heap.size + 3, k, none⟩ = some (.int .u64 (z : Int))) ∧ W.frozen? ⟨w.heap.size + 3, k, none⟩ = false := fun W hW => ⟨⟨_, hW.wcell (k := k) (fx_get hlt)⟩, hW.frozen k⟩
      obtain ⟨⟨z0, hz0⟩, hz0f⟩ := hG _ Gd
      have Gd := Lib.hid Gd
      go_wp2_with fail
      go_region_with (first
        | (go_at_call 85; have mm := qA; refine (hwO _ qA).mono ?_; rintro e w5 ⟨rfl, bB⟩; have qB : Below W3.heap.size W3 w5 := qA.trans (bB.mono qA.size); have GB := Lib.hid (GA.out.on bB); obtain ⟨⟨z2, hz2'⟩, hz2f⟩ := hG _ GB.out; obtain ⟨y5, y6⟩ := hS1 _ qB)
        | (go_at_call 85; refine hwS.mono ?_; rintro e w4 ⟨rfl, bA⟩; have qA : Below W3.heap.size W3 w4 := hBd.trans (bA.mono hBd.size); have GA := Lib.hid (Gd.out.on bA); obtain ⟨⟨z1, hz1⟩, hz1f⟩ := hG _ GA.out; obtain ⟨y3, y4⟩ := hS1 _ qA))
      all_goals (
        have hset := GB.out.wset k (x ||| y)
        have hL : (fx 64 N ((M ||| O) % 2 ^ (64 * k))).set k (x ||| y) = fx 64 N ((M ||| O) % 2 ^ (64 * (k + 1))) := by
          rw [fx_setw (M := (M ||| O) % 2 ^ (64 * k)) (M' := (M ||| O) % 2 ^ (64 * (k + 1))) hlt, wd_mod, if_pos (by omega), hwd.out]
          intro j hj hjk
          rw [wd_mod, wd_mod]
          by_cases h1 : j < k
          · rw [if_pos h1, if_pos (by omega)]
          · rw [if_neg h1, if_neg (by omega)]
        rw [hL] at hset
        have Hset := Lib.hid hset
        clear hset hL
        go_wp2_with fail
        go_roundw
        case rel => exact ⟨k + 1, by omega, by go_num, (by first | exact Hset | (rw [hor]; exact Hset)), qB.setCell (p := ⟨w.heap.size + 3, k, none⟩) (by show W3.heap.size ≤ w.heap.size + 3; omega) _⟩
        case measure => simp [intOf]; omega)
    · obtain rfl : N = k := by omega
      have bR2 := bR.below hB (by omega)
      have x0 := bR2.cell 0
      have y0 := bR2.frozen 0
      simp at x0
      have BR2 := Lib.hid bR2
      have hS := Lib.hid (SetAt.blk (M := M ||| O) (by
        have := G.out
        rw [Nat.mod_eq_of_lt ((len2_le (t := 64) (by omega)).1 (Nat.le_of_eq hlo.out))] at this
        exact this) hlo.out hN64)
      clear bR2 bR
      go_wp2_with fail
      refine ret_set rfl (w.heap.size + 2) (.slice (some ⟨w.heap.size + 3, 0, none⟩) N N) rfl ?_ rfl ?_
      · have := BR2.out.put 0 (.slice (some ⟨w.heap.size + 3, 0, none⟩) N N)
        simpa using this
      exact ⟨_, rfl, hS.out.off BR2.out _, bw.setCell (p := ⟨w.heap.size + 2, 0, none⟩) (by simp) _⟩
end Go.Proofs.YtcnofhlgiffkjaaGreatDoor
