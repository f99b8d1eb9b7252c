/- (bits.Set).Len, All and List: the members of a set, ascending. -/
import Derived.RangeFuncBox
import Derived.RangeFuncNested
import Derived.RangeFuncBound
import Derived.RangeFuncCalls
import Derived.RangeFuncLeaves
import Derived.Shelf.Abstract
import Derived.Shelf.RegionOpen
import Derived.OwnWalkIn
import Derived.TacticsInMore
import Derived.LoopNIn
import Derived.LoopIn
import Derived.Maps.AppendAt
import Derived.Test.YtfbdfpnmopgkoaaDoorBitsC
import Derived.Test.YtfbdfpnmopgkoaaDoorInts
import Derived.Test.YtfbdfpnmopgkoaaDoorTz
namespace Go.Proofs.YtfbdfpnmopgkoaaDoor
open Go.RowKit
set_option linter.unusedVariables false
set_option linter.unusedSimpArgs false
attribute [local go_sem] Oper.semAt_some

/-- The members in the first k words. -/
def memU (M k : Nat) : List Nat := (List.range k).flatMap fun j => (memW (M / 2 ^ (64 * j) % 2 ^ 64)).map (64 * j + ·)
theorem memU_zero (M : Nat) : memU M 0 = [] := rfl
theorem memU_succ (M k : Nat) : memU M (k + 1) = memU M k ++ (memW (M / 2 ^ (64 * k) % 2 ^ 64)).map (64 * k + ·) := by
  unfold memU
  rw [List.range_succ, List.flatMap_append, List.flatMap_singleton]
/-- The members of a set, ascending. -/
def memM (M : Nat) : List Nat := memU M (len2 64 M)
theorem memW_len (x : Nat) : (memW x).length ≤ 64 := Nat.le_trans (List.length_filter_le _ _) (by simp)
theorem memU_len (M k : Nat) : (memU M k).length ≤ 64 * k := by
  induction k with
  | zero => simp [memU_zero]
  | succ k ih =>
    rw [memU_succ, List.length_append, List.length_map]
    have := memW_len (M / 2 ^ (64 * k) % 2 ^ 64)
    omega

/-- Len answers a number that is not great. -/
theorem len_any (v : Value) (M : Nat) (w : World) (h : SetAt w w.heap.size v M) :
    Calls Tryd.prog 63 #[v] w fun e w' => (∃ c : Nat, e = .returned (.int .i64 c) ∧ c ≤ 8128) ∧ Below w.heap.size w w' := by
  obtain ⟨A, n, c, rfl, hnc, hn, hl, hs, _⟩ := h
  have hlen : (dg 64 M).length = n := by rw [dg_length]; exact hl
  have hl := Lib.hid hl
  have hlen := Lib.hid hlen
  have bA : Below w.heap.size w (w.alloc (.cells #[.slice A n c] 48)) := (Below.refl _ _).alloc (Nat.le_refl _) _
  have hs1 := hs.on bA
  go_enter Tryd.func63, Tryd.ntmps63
  go_wp2_with fail
  go_loopw [3, 9] (fun s i wr => ∃ (k z : Nat), k ≤ n ∧ i = .int .i64 k ∧ s = .int .i64 z ∧ z ≤ 127 * k ∧ wr = w.alloc (.cells #[.slice A n c] 48)) (fun _ i _ => n - (intOf i).toNat)
  case atStart => exact ⟨0, 0, Nat.zero_le _, rfl, rfl, Nat.le_refl _, rfl⟩
  case round =>
    obtain ⟨k, z, hk, rfl, rfl, hz, rfl⟩ := hrel
    by_cases hlt : k < n
    · obtain ⟨x, hx, hx1⟩ := dg_some hl.out hlt
      obtain ⟨b, o, rfl, hb1, hc1⟩ := hs1.word hx
      have Hx := Lib.hid hx
      clear hx
      obtain ⟨d, hd, hcall⟩ := ones_any x
      go_wp2_with fail
      refine (hcall _).mono ?_
      rintro e w1 ⟨rfl, rfl⟩
      go_wp2_with fail
      go_roundw
      case rel => exact ⟨k + 1, z + d, by omega, by go_num, by go_num, by omega, by simp⟩
      case measure => simp [intOf]; omega
    · go_wp2
      go_ret
      exact ⟨⟨z, rfl, by omega⟩, bA⟩

/-- All: the set is boxed; the function value captures the box. -/
theorem allF_any (v : Value) (w : World) (F : Fence) (n : Nat) (hF : F.fn 64) (hro : F.round = none) :
    CallsIn F n Tryd.prog 64 #[.agg #[v]] w fun e w' => e = .returned (.func (.func 71) #[] #[.pointer (some ⟨w.heap.size, 0, none⟩)]) ∧ w' = w.alloc (.cells #[v] 48) := by
  refine callsIn_of_wp Tryd.func64 rfl hF ?_ hro
  simp only [Tryd.ntmps64, List.size_toArray, List.length_cons, List.length_nil, Nat.reduceAdd, Nat.reduceSub, Array.replicate_succ, Array.replicate_zero, List.push_toArray, List.append_toArray, List.nil_append, List.cons_append]
  gi_wp2
  go_ret
  exact ⟨rfl, rfl⟩

theorem memM_word {M k n x : Nat} (hn : len2 64 M = n) (hk : k < n) (hx : (dg 64 M)[k]? = some x) : memU M (k + 1) = memU M k ++ (memW x).map (64 * k + ·) := by
  rw [dg_get (by omega)] at hx
  injection hx with hx
  rw [memU_succ, hx]
theorem memU_prefix (M : Nat) {k n : Nat} (h : k ≤ n) : memU M k <+: memU M n := by
  obtain ⟨d, rfl⟩ : ∃ d, n = k + d := ⟨n - k, by omega⟩
  clear h
  induction d with
  | zero => exact List.prefix_refl _
  | succ d ih => exact ih.trans (by rw [show k + (d + 1) = k + d + 1 by omega, memU_succ]; exact List.prefix_append _ _)

set_option maxRecDepth 100000 in
set_option maxHeartbeats 2000000 in
/-- All's closure, over whatever loop body keeps what lay below n₀. -/
theorem all1_in (l Bs n₀ n c M : Nat) (A : Option Addr) (d : Nat) (J Jx : List Nat → World → Prop)
    (hd : 1 ≤ d) (hnc : n ≤ c) (hn : n ≤ 64) (hl : len2 64 M = n) (hn₀ : 0 < n₀)
    (hY : ∀ pre x W, J pre W → pre.length < 4096 → YieldAt Fence.wide (d - 1) Tryd.prog l #[.int .i64 ((x : Nat) : Int)] W fun e W' =>
      (e = .returned (.bool true) ∧ J (pre ++ [x]) W' ∧ Below n₀ W W') ∨ (e = .returned (.bool false) ∧ Jx (pre ++ [x]) W'))
    (W : World) (hBs : W.cell? ⟨Bs, 0, none⟩ = some (.slice A n c)) (hs : Sees W n₀ A ((dg 64 M).map wv)) (hT : Tab W) (h0 : J [] W) :
    CallsIn Fence.wide d Tryd.prog 71 #[.func (.yield l) #[] #[], .pointer (some ⟨Bs, 0, none⟩)] W fun e W' => (∃ v, e = .returned v) ∧
      ((∃ ys, ys = memM M ∧ J ys W') ∨ (∃ pre, pre <+: memM M ∧ Jx pre W')) := by
  have hlen : (dg 64 M).length = n := by rw [dg_length]; exact hl
  have hl := Lib.hid hl
  have hlen := Lib.hid hlen
  have hro : (Fence.wide).round = none := rfl
  refine callsIn_of_wp Tryd.func71 rfl trivial ?_ rfl
  simp only [Tryd.ntmps71, List.size_toArray, List.length_cons, List.length_nil, Nat.reduceAdd, Nat.reduceSub, Array.replicate_succ, Array.replicate_zero, List.push_toArray, List.append_toArray, List.nil_append, List.cons_append]
  gi_wp2
  gi_loopw [8] (fun i wr => ∃ k : Nat, k ≤ n ∧ i = .int .i64 k ∧ J (memU M k) wr ∧ Below n₀ W wr) (fun i _ => n - (intOf i).toNat)
  case atStart => exact ⟨0, Nat.zero_le _, rfl, h0, Below.refl _ _⟩
  case round =>
    obtain ⟨k, hk, rfl, hJs, hB⟩ := hrel
    by_cases hlt : k < n
    · obtain ⟨x, hx, hx1⟩ := dg_some hl.out hlt
      have hnext := Lib.hid (memM_word hl.out hlt hx)
      obtain ⟨b, o, rfl, hb1, hc1⟩ := (hs.below hB).word hx
      have Hx := Lib.hid hx
      clear hx
      gi_wp2
      gi_loopw [4] (fun v wr2 => ∃ (y : Nat) (pre : List Nat), v = .int .u64 y ∧ y < 18446744073709551616 ∧ pre ++ (memW y).map (64 * k + ·) = memU M (k + 1) ∧ J pre wr2 ∧ Below n₀ wr wr2) (fun v _ => (intOf v).toNat)
      case atStart => exact ⟨x, memU M k, rfl, hx1, hnext.out.symm, hJs, Below.refl _ _⟩
      case round =>
        obtain ⟨y, pre, rfl, hy1, hpre, hJp, hB2⟩ := hrel
        by_cases h0 : y = 0
        · subst h0
          have Hpre := Lib.hid hpre
          clear hpre
          gi_wp2
          go_roundw
          case rel => exact ⟨k + 1, by omega, by go_num, by
            have := Hpre.out
            rw [memW_zero, List.map_nil, List.append_nil] at this
            rw [← this]
            exact hJp, hB.trans hB2⟩
          case measure => simp [intOf]; omega
        · have hm := memW_cons h0 hy1
          have hlp : pre.length < 4096 := by
            have h1 := congrArg List.length hpre
            rw [hm] at h1
            have h2 := memU_len M (k + 1)
            simp at h1
            omega
          have hcz : Lib.ctz 64 y < 64 := by
            obtain ⟨_, _, h⟩ := low_form h0 hy1
            exact h
          have Hm := Lib.hid hm
          have Hpre := Lib.hid hpre
          clear hm hpre
          obtain ⟨fn, tmps, assign, body, hy, hR⟩ := hY pre (64 * k + Lib.ctz 64 y) wr hJp hlp
          simp only [Int.natCast_add, Int.natCast_mul, Int.cast_ofNat_Int] at hy
          have hb : ((y : Int) == 0) = false := by simp; omega
          have hTr : Tab wr := (hT.below hB hn₀).below hB2 hn₀
          gi_wp2
          refine ⟨trivial, (callsIn_wide.2 (tz_any y hy1 h0 _ hTr)).mono ?_⟩
          rintro e w1 ⟨rfl, rfl⟩
          gi_wp2
          refine hR.mono ?_
          have hand : bits .and .u64 (y : Int) ((y : Int) - 1) = ((y &&& (y - 1) : Nat) : Int) := by
            rw [show (y : Int) - 1 = ((y - 1 : Nat) : Int) by omega, bits_and_u64_nat y (y - 1) hy1 (by omega)]
          have hlow : (1 : Int) ≤ y := by omega
          have hltc := clear_lt h0
          rintro e W3 (⟨rfl, hJ3, hk3⟩ | ⟨rfl, hJx3⟩)
          · gi_wp2
            go_roundw
            case rel =>
              refine ⟨y &&& (y - 1), pre ++ [64 * k + Lib.ctz 64 y], rfl, by omega, ?_, hJ3, hB2.trans hk3⟩
              have := Hpre.out
              rw [Hm.out] at this
              rw [← this]
              simp
            case measure =>
              simp [intOf]
              omega
          · gi_wp2
            refine bodyPost_ret (results_none rfl _ _ _) rfl ?_
            refine ⟨⟨_, rfl⟩, .inr ⟨_, ?_, hJx3⟩⟩
            have := Hpre.out
            rw [Hm.out] at this
            refine List.IsPrefix.trans ?_ (by unfold memM; rw [hl.out]; exact memU_prefix M (show k + 1 ≤ n by omega))
            rw [← this]
            exact ⟨(memW (y &&& (y - 1))).map (64 * k + ·), by simp⟩
    · obtain rfl : k = n := by omega
      gi_wp2
      go_end0
      exact ⟨⟨_, rfl⟩, .inl ⟨_, by unfold memM; rw [hl.out], hJs⟩⟩

theorem memM_len {M n : Nat} (hl : len2 64 M = n) (hn : n ≤ 64) : (memM M).length ≤ 4096 := by
  have := memU_len M n
  unfold memM
  rw [hl]
  omega
/-- .. as the law of the loop wants it. -/
theorem all_stops (Bs n₀ n c M : Nat) (A : Option Addr) (d : Nat) (hd : 1 ≤ d) (hnc : n ≤ c) (hn : n ≤ 64) (hl : len2 64 M = n) (hn₀ : 0 < n₀) (w : World) (hBs : Bs < w.heap.size) (hn₁ : n₀ ≤ w.heap.size)
    (hc : w.cell? ⟨Bs, 0, none⟩ = some (.slice A n c)) (hs : Sees w n₀ A ((dg 64 M).map wv)) (hT : Tab w) :
    SeqStopsK Fence.wide d Tryd.prog 71 #[.pointer (some ⟨Bs, 0, none⟩)] (fun x : Nat => #[Value.int .i64 (x : Int)]) (Below n₀) (fun ys => ys = memM M) (fun pre => pre <+: memM M) 4096 w := fun l J Jx W hW _ _ hY h0 =>
  all1_in l Bs n₀ n c M A d J Jx hd hnc hn hl hn₀ hY W ((hW.cell (p := ⟨Bs, 0, none⟩) hBs).trans hc) (hs.below (hW.mono hn₁)) (hT.below (hW.mono hn₁) hn₀) h0

/-- The members as ints. -/
def memZ (M : Nat) : List Int := (memM M).map fun x : Nat => (x : Int)
set_option maxRecDepth 100000 in
set_option maxHeartbeats 2000000 in
/-- List: the members, ascending. -/
theorem list_any (v : Value) (M : Nat) (w : World) (h : SetAt w w.heap.size v M) (hT : Tab w) :
    Calls Tryd.prog 41 #[v] w fun e w' => ∃ A n c, e = .returned (.slice A n c) ∧ OwnI w' w.heap.size (.slice A n c) n (memZ M) ∧ Below w.heap.size w w' := by
  have h63 := h
  obtain ⟨A, n, c, rfl, hnc, hn, hl, hs, _⟩ := h
  have hg0 : 0 < w.heap.size := World.block_lt_of_cell? w _ (hT 0 (by omega))
  obtain ⟨i0, hi, hz0, hz1, hz2⟩ := info_parts int_info
  have hro : (Fence.wide).round = none := rfl
  have h1 : 1 ≤ 5 := by omega
  refine (callsIn_wide (n := 5)).1 ?_
  refine callsIn_of_wp_marks Tryd.func41 rfl trivial ?_ rfl
  simp only [Tryd.ntmps41, List.size_toArray, List.length_cons, List.length_nil, Nat.reduceAdd, Nat.reduceSub, Array.replicate_succ, Array.replicate_zero, List.push_toArray, List.append_toArray, List.nil_append, List.cons_append]
  have bA : Below w.heap.size w (w.alloc (.cells #[.slice A n c] 48)) := (Below.refl _ _).alloc (Nat.le_refl _) _
  gi_wp2
  refine ⟨trivial, (callsIn_wide.2 (len_any _ M _ (h63.on bA))).mono ?_⟩
  rintro e w1 ⟨⟨L, rfl, hL⟩, hB1⟩
  have bB := bA.trans (hB1.mono bA.size)
  have hcs : w1.cell? ⟨w.heap.size, 0, none⟩ = some (.slice A n c) := (hB1.cell (p := ⟨w.heap.size, 0, none⟩) (by simp)).trans ((Blk.new w 48 #[.slice A n c]).cell 0)
  gi_wp2_with (gi_at_make; refine wpListIn_make_own _ rfl _ _ 64 rfl w.heap.size 3 i0 (.int .i64 0) 1 Tryd.underlying64 hi hz0 hz1 .i64 .i64 _ L rfl rfl rfl (by rw [hz2]; omega) (by unfold maxLen; omega) bB.size ?_; intro w2 hown hgrow; have hlt2 : w.heap.size < w2.heap.size := Nat.lt_of_lt_of_le (World.block_lt_of_cell? w1 _ hcs) hgrow.size; have hc2 := hgrow.cell hcs (by simp); have hc3 : ∀ o, (w2.alloc o).cell? ⟨w.heap.size, 0, none⟩ = some (.slice A n c) := fun o => (World.cell?_alloc_lt w2 o _ hlt2).trans hc2)
  refine ⟨trivial, (allF_any _ _ _ _ trivial rfl).mono ?_⟩
  rintro e w3 ⟨rfl, rfl⟩
  gi_wp2
  have bO := Boxed.new w2 64 (.slice (some ⟨w1.heap.size, 0, none⟩) 0 L)
  have bN := Boxed.new (w2.alloc (.cells #[.slice (some ⟨w1.heap.size, 0, none⟩) 0 L] 64)) 48 (.slice A n c)
  rw [World.size_alloc] at bN
  have hz1 := hgrow.size
  have hz2 := bB.size
  have hB0 : Below w.heap.size w ((w2.alloc (.cells #[.slice (some ⟨w1.heap.size, 0, none⟩) 0 L] 64)).alloc (.cells #[.slice A n c] 48)) :=
    ((bB.grown hgrow bB.size (fun k e => by cases e)).alloc (by omega) _).alloc (by simp; omega) _
  refine wpIn_rangeFunc_ownG hro h1 (gf := 71) (lb := #[.pointer (some ⟨w2.heap.size + 1, 0, none⟩)]) rfl trivial (enters_of Tryd.func71 (by kernel_rfl) rfl)
    (all_stops (w2.heap.size + 1) w.heap.size n c M A 4 (by omega) hnc hn hl hg0 _ (by simp) (by simp; omega) bN.cell (hs.below hB0) (hT.below hB0 hg0)) belowK_t (belowK_b (by simp; omega)) (Below.refl _ _) (fun _ => rfl)
    (fun (pre : List Nat) W => (∃ v, Boxed W w2.heap.size 64 v ∧ W.ownsRow w.heap.size 3 1 v pre.length (pre.map fun x : Nat => iv (x : Int)) ∧ True) ∧ Below w.heap.size w W)
    (fun _ _ _ => False)
    (OwnFrom.and (Own.from (holdsRow_own w.heap.size w2.heap.size 64 3 1 (fun pre : List Nat => pre.length) (fun pre : List Nat => pre.map fun x : Nat => iv (x : Int)) (fun pre v => True)) _) (ownFrom_below (Nat.le_refl _) (by simp; omega)))
    (fun _ _ _ _ _ hs _ _ => hs)
    ⟨⟨_, bO.alloc _, (hown.alloc _).alloc _, trivial⟩, hB0⟩
    (fun x : Nat => { tmps := #[.agg #[.slice A n c], .pointer (some ⟨w.heap.size, 0, none⟩), .slice none 0 0, .pointer (some ⟨w2.heap.size, 0, none⟩), .int .i64 (x : Int), .agg #[.slice A n c], .int .i64 L, .slice (some ⟨w1.heap.size, 0, none⟩) 0 L, .agg #[.slice A n c], .func (.func 71) #[] #[.pointer (some ⟨w2.heap.size + 1, 0, none⟩)], .int .i64 (x : Int), undef, undef, undef, undef, undef], defers := [] }) ?assign ?body ?done ?stop
  case assign =>
    intro l x W K hK
    gi_wp2
    exact hK
  case body =>
    rintro l pre x W ⟨⟨v, hv, hrow, _⟩, hB⟩ hlt
    have hc := hv.cell
    gi_wp2_with (gi_at_builtin; refine wpListIn_append_own _ rfl _ _ 64 rfl w.heap.size 3 i0 (.int .i64 0) 1 8 Tryd.underlying64 hi hz0 (by assumption) (by assumption) rfl (by decide) _ _ _ rfl (hrow.alloc _) ⟨W.heap.size, 0, none⟩ 1 1 [.int .i64 (x : Int)] rfl rfl (cell_one_new _ _ _) (by simp [Value.oneCell']) (by unfold maxLen; omega) (by omega) (by have := hB.size; simp; omega) ?_; intro v' w1 hown' hgrow _; obtain ⟨g', cap', rfl⟩ := ownsRow_succ hown'; obtain ⟨hv1, hv2, hr2, hk2, hb2⟩ := hv.appended (by decide) hrow hB.size (by omega) hown' hgrow; have hc1 := hv1.cell; have hf1 := hv1.frozen)
    exact ⟨hk2.from _, hb2, ⟨_, hv2, by simpa [iv] using hr2, trivial⟩, hB.trans hb2⟩
  case done =>
    rintro D ys W hD rfl ⟨⟨v, hv, hrow, _⟩, hB⟩ hK
    have hc := hv.cell
    gi_wp2
    refine ⟨by simp, .inl ⟨_, _, rfl, run_takeDeferred hK, ?_⟩⟩
    have hrow' := ownsRow_putObj hrow (.deferred none) hK rfl
    obtain ⟨A', c', rfl, _⟩ := own_form hrow'
    exact ⟨_, results_tmp rfl _ _ _, A', _, c', rfl, by unfold OwnI memZ; simpa [Function.comp_def] using hrow', hB.trans (belowK_b (w := w) (Nat.le_refl _) W D _ _ (by simp at hD; omega) hK rfl rfl)⟩
  case stop =>
    rintro D c pre W _ _ h _
    exact h.elim
end Go.Proofs.YtfbdfpnmopgkoaaDoor
