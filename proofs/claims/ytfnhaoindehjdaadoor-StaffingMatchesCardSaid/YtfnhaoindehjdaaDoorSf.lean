/- A pack of texts: StO, CrA, CrB, CrC, CrD, CrE. -/
import Derived.Test.YtfnhaoindehjdaaDoorSa
import Derived.Test.YtfnhaoindehjdaaDoorPc
import Derived.Test.YtfnhaoindehjdaaDoorPk
import Derived.Test.YtfnhaoindehjdaaDoorRfA
import Derived.Deep.CutRange
import Derived.Test.YtfnhaoindehjdaaDoorSe
import Derived.Test.YtfnhaoindehjdaaDoorPl
import Derived.LoopIn
import Derived.OwnWalkIn
import Derived.Deep.RegionWith
import Derived.Deep.QuietTactic
import Derived.BigQuiet
import Derived.Laws.ResultCell
import Derived.RangeFuncWrites
import Derived.RangeFuncLeaves
import Derived.Sort.CutIn
/- The walk of bits.Set's Without. -/
namespace Go.Proofs.YtfnhaoindehjdaaDoor
open Go.RowKit
set_option linter.unusedVariables false
set_option linter.unusedSimpArgs false

theorem wd_clr_other {M i k : Nat} (h : k ≠ i / 64) : wd (clrU M i) k = wd M k := by
  refine Nat.eq_of_testBit_eq fun r => ?_
  rw [wd_bit, wd_bit, clrU_bit]
  by_cases hr : r < 64
  · have : ¬ 64 * k + r = i := by omega
    simp [this]
  · simp [hr]
theorem wd_clr_same (M i : Nat) : wd (clrU M i) (i / 64) = clrU (wd M (i / 64)) (i % 64) := by
  refine Nat.eq_of_testBit_eq fun r => ?_
  rw [wd_bit, clrU_bit, clrU_bit, wd_bit]
  by_cases hr : r < 64
  · by_cases h : r = i % 64
    · have : 64 * (i / 64) + r = i := by omega
      simp [h, this]
      intro _ _
      omega
    · have : ¬ 64 * (i / 64) + r = i := by omega
      simp [h, this]
  · simp [hr]
theorem andNot_clr {x r : Nat} (hx : x < 18446744073709551616) (hr : r < 64) : bits BinOp.andNot IntKind.u64 (x : Int) ((1 <<< r : Nat) : Int) = ((clrU x r : Nat) : Int) := by
  have hb : 1 <<< r < 18446744073709551616 := by
    have : 2 ^ r < 2 ^ 64 := Nat.pow_lt_pow_right (by omega) hr
    rw [Nat.shiftLeft_eq, Nat.one_mul]; omega
  have h1 : (BitVec.ofInt 64 (x : Int)).toNat = x := by
    rw [BitVec.ofInt_natCast, BitVec.toNat_ofNat]; exact Nat.mod_eq_of_lt (by omega)
  have h2 : (BitVec.ofInt 64 ((1 <<< r : Nat) : Int)).toNat = 1 <<< r := by
    rw [BitVec.ofInt_natCast, BitVec.toNat_ofNat]; exact Nat.mod_eq_of_lt (by omega)
  have h3 : (BitVec.ofInt 64 (x : Int) &&& ~~~(BitVec.ofInt 64 ((1 <<< r : Nat) : Int))).toNat = x &&& (18446744073709551615 - 1 <<< r) := by
    rw [BitVec.toNat_and, BitVec.toNat_not, h1, h2]
  show IntKind.u64.wrap ((BitVec.ofInt 64 (x : Int) &&& ~~~(BitVec.ofInt 64 ((1 <<< r : Nat) : Int))).toNat : Int) = _
  rw [h3, IntKind.wrap_u64]
  have hle : x &&& (18446744073709551615 - 1 <<< r) ≤ x := Nat.and_le_left
  have he : x &&& (18446744073709551615 - 1 <<< r) = clrU x r := by
    refine Nat.eq_of_testBit_eq fun i => ?_
    have hbit : (18446744073709551615 - 1 <<< r).testBit i = (decide (i < 64) && !(1 <<< r).testBit i) := by
      have := Nat.testBit_two_pow_sub_succ (n := 64) (x := 1 <<< r) (by omega) i
      rw [show 2 ^ 64 - (1 <<< r + 1) = 18446744073709551615 - 1 <<< r by omega] at this
      exact this
    rw [Nat.testBit_and, hbit, clrU_bit, Nat.one_shiftLeft, Nat.testBit_two_pow]
    by_cases hi : i < 64
    · by_cases h : i = r
      · subst h; simp
      · simp [hi, h, Ne.symm h]
    · rw [Nat.testBit_lt_two_pow (Nat.lt_of_lt_of_le (show x < 2 ^ 64 by omega) (Nat.pow_le_pow_right (by decide) (Nat.not_lt.1 hi)))]
      rfl
  rw [he]
  rw [he] at hle
  omega
/-- trim of a row that lies in a block. -/
theorem trimO_any (g n c M : Nat) (w : World) (h : Sees w w.heap.size (some ⟨g, 0, none⟩) ((fx 64 n M).map wv)) (hb : ∃ cs, Blk w g 112 cs) (hn : n ≤ 64) (hnc : n ≤ c) (hcm : c ≤ maxLen) (hM : len2 64 M ≤ n) :
    Calls Tryd.prog 54 #[.slice (some ⟨g, 0, none⟩) n c] w fun e w' => ∃ v', e = .returned v' ∧ SetAt w' w'.heap.size v' M ∧ Below w.heap.size w w' := by
  unfold maxLen at hcm
  have bA : Below w.heap.size w (w.alloc (.cells #[.slice none 0 0] 63)) := (Below.refl _ _).alloc (Nat.le_refl _) _
  have h1 := h.on bA
  have bR := Blk.new w 63 #[.slice none 0 0]
  obtain ⟨cs, hb⟩ := hb
  have hg := hb.lt
  go_enter Tryd.func54, Tryd.ntmps54
  go_wp2_with fail
  go_loop [0] (fun v0 => ∃ k : Nat, v0 = .slice (some ⟨g, 0, none⟩) k c ∧ k ≤ n ∧ Hid (len2 64 M ≤ k)) (fun v0 => match v0 with | .slice _ k _ => k | _ => 0)
  case atStart => exact ⟨n, rfl, Nat.le_refl _, Lib.hid hM⟩
  case round =>
    obtain ⟨k, rfl, hk, HM⟩ := hrel
    have fin : ∀ k, k ≤ n → len2 64 M = k → ∀ w', w' = (w.alloc (.cells #[.slice (some ⟨g, 0, none⟩) k c] 63)) → SetAt w' w'.heap.size (.agg #[.slice (some ⟨g, 0, none⟩) k c]) M ∧ Below w.heap.size w w' := by
      rintro k hk hl w' rfl
      have bB : Below w.heap.size w (w.alloc (.cells #[.slice (some ⟨g, 0, none⟩) k c] 63)) := (Below.refl _ _).alloc (Nat.le_refl _) _
      have h2 := h.on bB
      refine ⟨⟨_, k, c, rfl, by omega, by omega, hl, ?_, fun b o e _ => ?_⟩, bB⟩
      · have hs := h2.take_ k
        rw [← List.map_take] at hs
        have e : (fx 64 n M).take k = dg 64 M := by
          rw [fx_pad (by omega) hM, hl, List.take_append_of_le_length (by rw [dg_length, hl]; exact Nat.le_refl _), List.take_of_length_le (by rw [dg_length, hl]; exact Nat.le_refl _)]
        rw [e] at hs
        exact hs
      · injection e with e
        injection e with e
        subst e
        exact ⟨_, hb.on bB⟩
    by_cases hk0 : k = 0
    · have hk0' : ¬ 0 < (k : Int) := by omega
      have hl0 : len2 64 M = k := by have := HM.out; omega
      subst hk0
      obtain ⟨f1, f2⟩ := fin 0 hk hl0 _ rfl
      clear fin hl0
      go_wp2_with fail
      exact ret_set rfl w.heap.size _ rfl (Blk.new _ _ _) rfl ⟨_, rfl, f1, f2⟩
    · obtain ⟨j, rfl⟩ : ∃ j, k = j + 1 := ⟨k - 1, by omega⟩
      have hj0 : 0 < ((j + 1 : Nat) : Int) := by omega
      have hj1 : ((j + 1 : Nat) : Int) - 1 = (j : Int) := by omega
      have hj2 : (j : Int) < ((j + 1 : Nat) : Int) := by omega
      obtain ⟨x, hx⟩ : ∃ x, x = M / 2 ^ (64 * j) % 2 ^ 64 := ⟨_, rfl⟩
      have hz := top_zero HM.out
      rw [← hx] at hz
      obtain ⟨b9, o9, e9, _, hc⟩ := h1.word (k := j) (x := x) (by rw [hx]; exact fx_get (by omega))
      injection e9 with e9
      injection e9 with e91 e92
      subst e91 e92
      simp only [Nat.zero_add] at hc
      have Hx := Lib.hid hx
      have Hz := Lib.hid hz
      have hjc : (j : Int) ≤ (c : Int) := by omega
      clear hx hz
      by_cases hx0 : x = 0
      · have hxb : ((x : Int) == 0) = true := by rw [hx0]; rfl
        have hl := Hz.out.1 hx0
        have HL := Lib.hid hl
        clear hx0 fin hl
        go_wp2_with fail
        go_round
        case rel => exact ⟨j, rfl, by omega, HL⟩
        case measure => show j < j + 1; omega
      · have hxb : ((x : Int) == 0) = false := beq_false_of_ne (by omega)
        have hl : len2 64 M = j + 1 := by
          have := HM.out
          have : ¬ len2 64 M ≤ j := fun h => hx0 (Hz.out.2 h)
          omega
        obtain ⟨f1, f2⟩ := fin (j + 1) hk hl _ rfl
        clear fin hl hx0
        go_wp2_with fail
        exact ret_set rfl w.heap.size _ rfl (Blk.new _ _ _) rfl ⟨_, rfl, f1, f2⟩
theorem clr_same {M i : Nat} (h : M.testBit i = false) : clrU M i = M := by unfold clrU; rw [if_neg (by simp [h])]
theorem clr_len {M i n : Nat} (h : len2 64 M = n) : len2 64 (clrU M i) ≤ n := by
  rw [len2_le (by decide)]
  exact clrU_lt ((len2_le (by decide)).1 (Nat.le_of_eq h))
theorem clr_fx {M i n : Nat} (h : i / 64 < n) : fx 64 n (clrU M i) = (fx 64 n M).set (i / 64) (clrU (wd M (i / 64)) (i % 64)) := by
  rw [fx_setw h fun j _ hne => wd_clr_other hne, wd_clr_same]
theorem bit_len {M i n : Nat} (h : M.testBit i = true) (hn : len2 64 M = n) : i / 64 < n := by
  have h1 : M < 2 ^ (64 * n) := (len2_le (by decide)).1 (Nat.le_of_eq hn)
  have h2 := bit_lt h1 h
  omega
theorem wpL_appW (w : World) {ops : Array Oper} {rest : List Oper} {o : Oper} {a : Act} {Q : Exit → Act → World → Prop} (hgd : o.guard = none) (s x : Operand)
    (ho : o.op = .call { callee := .builtin .append, args := #[s, x], argTypes := #[33, 33] })
    (base : Nat) (v : Value) (n : Nat) (l : List Nat) (hs : a.eval s = v) (hown : w.ownsRow base 112 1 v n (l.map wv))
    (B : Nat) (A : Option Addr) (m c : Nat) (l2 : List Nat) (hx : a.eval x = .slice A m c) (hl : l2.length = m) (hr : Sees w B A (l2.map wv))
    (hbytes : n + m ≤ 1000000000000) (hbase : base ≤ w.heap.size) (n' : Nat) (hn' : n + m = n') (l' : List Nat) (hl' : l ++ l2 = l')
    (h : ∀ A' c' w', w'.ownsRow base 112 1 (.slice A' n' c') n' (l'.map wv) → w.grownBy w' v.ownBlock → ((Value.slice A' n' c').ownBlock = v.ownBlock ∨ (Value.slice A' n' c').ownBlock = some w.heap.size) →
      wpList Tryd.prog ops Q rest (a.put o.dst (.slice A' n' c')) w') : wpList Tryd.prog ops Q (o :: rest) a w := by
  obtain ⟨i0, hi0, hz0, hz1, hz2⟩ := info_parts u64_info
  exact wpList_append_sees w hgd s x _ ho base _ i0 _ 1 8 Tryd.underlying33 hi0 hz0 hz1 hz2 rfl (by omega) v n _ hs hown B A m c _ hx (by simpa using hl) hr (oneCell_wv l2)
    (by unfold maxLen; omega) (by omega) hbase n' hn' _ (by rw [← hl', List.map_append]) h
set_option maxHeartbeats 4000000 in
set_option maxRecDepth 100000 in
/-- Set.Without. -/
theorem without_any (v : Value) (M i : Nat) (w : World) (h : SetAt w w.heap.size v M) (hi : i < 4096) :
    Calls Tryd.prog 25 #[v, .int .i64 (i : Int)] w fun e w' => ∃ v', e = .returned v' ∧ SetAt w' w'.heap.size v' (clrU M i) ∧ Below w.heap.size w w' := by
  have hi0 : (0 : Int) ≤ (i : Int) := by omega
  have hi1 : (i : Int) < 4096 := by omega
  have hi2 : (i : Int) ≤ 4095 := by omega
  have hs := h
  have hhas := fun w' h => has_any v M i w' h hi
  obtain ⟨A, n, c, rfl, h1, h2, h4, s, _⟩ := h
  have H4 := Lib.hid h4
  clear h4
  by_cases ht : M.testBit i = true
  · rw [ht] at hhas
    obtain ⟨q, hq, hqn⟩ : ∃ q : Nat, (i : Int) / 64 = (q : Int) ∧ Hid (q = i / 64) := ⟨i / 64, by omega, Lib.hid rfl⟩
    obtain ⟨r, hr, hrn⟩ : ∃ r : Nat, (i : Int) % 64 = (r : Int) ∧ Hid (r = i % 64) := ⟨i % 64, by omega, Lib.hid rfl⟩
    have hr64 : r < 64 := by rw [hrn.out]; omega
    have hqn1 : q < n := by rw [hqn.out]; exact bit_len ht H4.out
    have hqn2 : (q : Int) < (n : Int) := by omega
    obtain ⟨x, hxv, hx⟩ : ∃ x : Nat, Hid (x = M / 2 ^ (64 * q) % 2 ^ 64) ∧ x < 18446744073709551616 := ⟨_, Lib.hid rfl, Nat.mod_lt _ (by omega)⟩
    obtain ⟨p, hp1, hp2, hp3⟩ := bit_u64 hr64
    clear ht
    go_enter Tryd.func25, Tryd.ntmps25
    go_wp2_with fail
    refine (hhas _ (hs.on (((Below.refl _ _).alloc (Nat.le_refl _) _).alloc (by simp) _))).mono ?_
    rintro e w1 ⟨rfl, bw⟩
    have b0 := ((Blk.new w 63 #[.slice A n c]).alloc (.cells #[.slice none 0 0] 63)).on bw
    have b1 := (Blk.new (w.alloc (.cells #[.slice A n c] 63)) 63 #[.slice none 0 0]).on bw
    have c0 := b0.cell 0
    simp at c0
    have B0 := Lib.hid b0
    have B1 := Lib.hid b1
    clear b0 b1
    have bw' : Below w.heap.size w w1 := (((Below.refl _ _).alloc (Nat.le_refl _) _).alloc (by simp) _).trans (bw.mono (by simp; omega))
    have hg2 := bw.size
    simp at hg2
    have s1 := s.below bw'
    have hn1 : w.heap.size ≠ w1.heap.size := by omega
    have hn2 : w1.heap.size ≠ w.heap.size := by omega
    have hA := bAl (Below.refl w1.heap.size w1) (.cells #[] 112)
    have s2 := s1.below (hA.mono bw'.size)
    have hM4 : (w1.alloc (.cells #[] 112)).ownsRow w1.heap.size 112 1 (.slice (some ⟨w1.heap.size, 0, none⟩) 0 0) 0 (([] : List Nat).map wv) := World.ownsRow_made _ _ _ (Nat.le_refl _) (by unfold maxLen; omega) rfl
    have hz4 : w1.heap.size ≤ (w1.alloc (.cells #[] 112)).heap.size := by simp
    have c0' : (w1.alloc (.cells #[] 112)).cell? ⟨w.heap.size, 0, none⟩ = some (.slice A n c) := ((B0.out.on hA).cell 0).trans rfl
    go_upto_region 4 with (at_builtin; refine wpL_appW _ rfl (.tmp 11) (.tmp 13) rfl w1.heap.size _ 0 [] rfl hM4 _ A n c (dg 64 M) rfl (by rw [dg_length, H4.out]) s2 (by omega) hz4 n (by omega) (dg 64 M) rfl ?_; intro A5 c5 w5 o5 g5 k5)
    have b5 : Below w1.heap.size w1 w5 := below_app hA hz4 hM4 g5
    obtain ⟨g, cs, eA, hgB, hblk⟩ := own_blk o5 (by omega)
    subst eA
    obtain ⟨_, _, e9, hnc5, hcm5, _⟩ := own_form o5
    injection e9 with e91 e92 e93
    subst e93
    clear e91 e92
    clear hM4 s2 hA hz4 g5 k5
    have so : Sees w5 w5.heap.size (some ⟨g, 0, none⟩) ((fx 64 n M).map wv) := by
      have h9 := Sees.own o5 (by omega)
      rw [show dg 64 M = fx 64 n M by unfold dg; rw [H4.out]] at h9
      exact h9
    obtain ⟨b9, o9, e9, _, hc5⟩ := so.word (k := q) (x := x) (by rw [fx_get hqn1, hxv.out])
    injection e9 with e9
    injection e9 with e91 e92
    subst e91 e92
    simp only [Nat.zero_add] at hc5
    have hf5 := hblk.frozen q
    have hqw : IntKind.i64.wrap (q : Int) = (q : Int) := by rw [IntKind.wrap_i64]; omega
    have hrw : IntKind.i64.wrap (r : Int) = (r : Int) := by rw [IntKind.wrap_i64]; omega
    have hqw1 : 0 ≤ IntKind.i64.wrap (q : Int) ∧ IntKind.i64.wrap (q : Int) < (n : Int) := by rw [hqw]; omega
    have hrt : (i : Int).tmod 64 = (r : Int) := by rw [Int.tmod_eq_emod_of_nonneg hi0]; exact hr
    have hqt : (i : Int).tdiv 64 = (q : Int) := by rw [Int.tdiv_eq_ediv_of_nonneg hi0]; exact hq
    go_region
    have hcl : bits BinOp.andNot IntKind.u64 (x : Int) (p : Int) = ((clrU x r : Nat) : Int) := by rw [hp1.out]; exact andNot_clr hx hr64
    rw [hcl]
    have hb4 : Blk (w5.setCell ⟨g, q, none⟩ (.int .u64 ((clrU x r : Nat) : Int))) g 112 (cs.setIfInBounds q (.int .u64 ((clrU x r : Nat) : Int))) := hblk.put q _
    have so4 : (w5.setCell ⟨g, q, none⟩ (.int .u64 ((clrU x r : Nat) : Int))).ownsRow w1.heap.size 112 1 (.slice (some ⟨g, 0, none⟩) n c5) n ((fx 64 n (clrU M i)).map wv) := by
      have h9 := (World.ownsRow.stored o5 q (.int .u64 ((clrU x r : Nat) : Int))).1
      rw [clr_fx (by rw [← hqn.out]; exact hqn1), ← hqn.out, ← hrn.out, List.map_set, show wd M q = x from hxv.out.symm]
      rw [show dg 64 M = fx 64 n M by unfold dg; rw [H4.out]] at h9
      exact h9
    have b1' := ((B1.out.on (b5)).far (p := ⟨g, q, none⟩) (by simp; omega) (Value.int IntKind.u64 ((clrU x r : Nat) : Int)))
    have bw4 : Below w.heap.size w (w5.setCell ⟨g, q, none⟩ (Value.int IntKind.u64 ((clrU x r : Nat) : Int))).drew := ((bw'.trans (b5.mono bw'.size)).setCell (by show w.heap.size ≤ g; omega) _).drew
    have hsee : Sees (w5.setCell ⟨g, q, none⟩ (.int .u64 ((clrU x r : Nat) : Int))).drew (w5.setCell ⟨g, q, none⟩ (.int .u64 ((clrU x r : Nat) : Int))).drew.heap.size (some ⟨g, 0, none⟩) ((fx 64 n (clrU M i)).map wv) := Sees.drew (Sees.own so4 (by omega))
    have hb5 : ∃ cs, Blk (w5.setCell ⟨g, q, none⟩ (.int .u64 ((clrU x r : Nat) : Int))).drew g 112 cs := ⟨_, hb4.drewN 1⟩
    have b6 := b1'.drewN 1
    have hsz : (w.alloc (Obj.cells #[Value.slice A n c] 63)).heap.size = w.heap.size + 1 := by simp
    rw [hsz] at b6
    have htr := trimO_any g n c5 (clrU M i) _ hsee hb5 h2 hnc5 hcm5 (clr_len H4.out)
    have b6' : Blk (w5.setCell ⟨g, q, none⟩ (.int .u64 ((clrU x r : Nat) : Int))).drew (w.heap.size + 1) 63 #[.slice none 0 0] := b6
    clear b6 hb4 so4 b1' hsee hb5 hcl so o5 hc5 hf5 hqw hrw hqw1 hrt hqt c0 c0' hblk
    generalize (w5.setCell ⟨g, q, none⟩ (.int .u64 ((clrU x r : Nat) : Int))).drew = w6 at bw4 htr b6' ⊢
    go_wp2_with fail
    refine htr.mono ?_
    rintro e w7 ⟨v', rfl, hS7, b7⟩
    obtain ⟨A7, n7, c7, rfl, hS7'⟩ := hS7
    have b8 := b6'.on b7
    have c8 := b8.cell 0
    have f8 := b8.frozen 0
    simp at c8 f8
    have bw7 := bw4.trans (b7.mono bw4.size)
    have B8 := Lib.hid b8
    have S8 : SetAt w7 w7.heap.size (.agg #[.slice A7 n7 c7]) (clrU M i) := ⟨A7, n7, c7, rfl, hS7'⟩
    have S9 := Lib.hid S8
    clear S8 hS7' htr b6' b7 b8
    go_wp2_with fail
    refine ret_set rfl (w.heap.size + 1) (.slice A7 n7 c7) rfl ?_ rfl ?_
    · have := B8.out.put 0 (.slice A7 n7 c7)
      simpa using this
    have b9 : Below w.heap.size w (w7.setCell ⟨w.heap.size + 1, 0, none⟩ (.slice A7 n7 c7)) := bw7.setCell (by simp) _
    have S10 := S9.out.far (i := 0) (u := .slice A7 n7 c7) B8.out (by decide)
    exact ⟨_, rfl, S10.more (by simp), b9⟩
  · have ht' : M.testBit i = false := by simpa using ht
    rw [ht'] at hhas
    have HM := Lib.hid (clr_same ht')
    clear ht ht'
    go_enter Tryd.func25, Tryd.ntmps25
    go_wp2_with fail
    refine (hhas _ (hs.on (((Below.refl _ _).alloc (Nat.le_refl _) _).alloc (by simp) _))).mono ?_
    rintro e w1 ⟨rfl, bw⟩
    have b0 := ((Blk.new w 63 #[.slice A n c]).alloc (.cells #[.slice none 0 0] 63)).on bw
    have b1 := (Blk.new (w.alloc (.cells #[.slice A n c] 63)) 63 #[.slice none 0 0]).on bw
    have c0 := b0.cell 0
    have c1 := b1.cell 0
    have f1 := b1.frozen 0
    simp at c0 c1 f1
    have B0 := Lib.hid b0
    have B1 := Lib.hid b1
    clear b0 b1
    go_wp2_with fail
    refine ret_set rfl (w.heap.size + 1) (.slice A n c) rfl ?_ rfl ?_
    · have := B1.out.put 0 (.slice A n c)
      simpa using this
    have bw' : Below w.heap.size w w1 := (((Below.refl _ _).alloc (Nat.le_refl _) _).alloc (by simp) _).trans (bw.mono (by simp; omega))
    have bw2 : Below w.heap.size w (w1.setCell ⟨w.heap.size + 1, 0, none⟩ (.slice A n c)) := bw'.setCell (by simp) _
    rw [HM.out]
    exact ⟨_, rfl, hs.on bw2, bw2⟩
end Go.Proofs.YtfnhaoindehjdaaDoor
/- Critical: the loop within a round. (gencrit.py) -/
namespace Go.Proofs.YtfnhaoindehjdaaDoor
open Go.RowKit
set_option linter.unusedVariables false
set_option linter.unusedSimpArgs false
attribute [local go_sem] Oper.semAt_some

noncomputable def critBody : Code := Tryd.f23.body.getD .skip
noncomputable def critPart (k : Nat) : Code := headC (tailC k critBody)
noncomputable def critRf : Code := (rfOf (critPart 5)).getD .skip
noncomputable def critRound : Code := rfBody critRf
def blkIn : Code → Code
  | .block _ c => c
  | c => c
noncomputable def crB : Code := blkIn critRound
noncomputable def crPart (k : Nat) : Code := headC (tailC k crB)
theorem cr_split : critRound = .block 3 (.seq (crPart 0) (.seq (crPart 1) (.seq (crPart 2) (tailC 3 crB)))) := by kernel_rfl
/-- The sets of the first j steps, without a user. -/
structure QR (W : World) (P : Pr) (x gq j : Nat) (cs : List Value) : Prop where
  row : ∃ A c vs, Blk W gq 32 (Value.slice A j c :: cs).toArray ∧ W.ownsRow gq 63 1 (.slice A j c) j vs ∧ vs.length = j ∧ ∀ i M, i < j → P.elig[i]? = some M → ∃ X, vs[i]? = some X ∧ SetAt W W.heap.size (.agg #[X]) (clrU M x)
set_option maxHeartbeats 8000000 in
set_option maxRecDepth 100000 in
theorem crit_in {w : World} {P : Pr} {A1 A2 A3 A4 A5 : Option Addr} {n1 c1 n2 c2 n3 c3 n4 c4 n5 c5 : Nat} {x gq gO B0 : Nat} (lno : Nat) (hx : x < 4096) (pr : PrAt w w.heap.size ⟨⟨A1, n1, c1⟩, ⟨A2, n2, c2⟩, ⟨A3, n3, c3⟩, ⟨A4, n4, c4⟩, ⟨A5, n5, c5⟩⟩ P) (hn5 : n1 ≤ 5)
    (W1 : World) (low1 : Below w.heap.size w W1) (bp : Blk W1 w.heap.size 32 #[.slice A1 n1 c1, .slice A2 n2 c2, .slice A3 n3 c3, .slice A4 n4 c4, .slice A5 n5 c5]) (hgq : w.heap.size < gq) (kq : Blk W1 gq 32 #[.slice none 0 0, .slice A2 n2 c2, .slice A3 n3 c3, .slice A4 n4 c4, .slice A5 n5 c5])
    (Q : Exit → Act → World → Prop) (hO : ¬ LetsOut Q) (hPan : ∀ c a a' w, Q (.panic c) a w → Q (.panic c) a' w)
    (cx2 cx3 cx4 cx5 cx9 cx10 cx11 cx12 cx13 cx14 cx15 cx16 cx17 cx18 cx19 cx20 cx21 cx22 cx23 cx24 cx25 cx26 cx27 cx28 cx29 cx30 cx31 cx32 cx33 cx34 cx35 cx36 cx37 cx38 cx39 cx40 cx41 cx42 cx43 cx44 cx45 cx46 cx47 cx48 cx49 cx50 cx51 cx52 cx53 : Value)
    (hN : ∀ (W' : World) (u2 u3 u4 u5 u9 u10 u11 u12 u13 u14 u15 u16 u17 u18 u19 u20 u21 u22 u23 u24 u25 u26 u27 u28 u29 u30 u31 u32 u33 u34 u35 u36 u37 u38 u39 u40 u41 u42 u43 u44 u45 u46 u47 u48 u49 u50 u51 u52 u53 : Value), QR W' P x gq n1 [.slice A2 n2 c2, .slice A3 n3 c3, .slice A4 n4 c4, .slice A5 n5 c5] → Below gq W1 W' → KeepsFrom B0 W1 W' → Q .normal ⟨#[.agg #[.slice A1 n1 c1, .slice A2 n2 c2, .slice A3 n3 c3, .slice A4 n4 c4, .slice A5 n5 c5], .pointer (some ⟨w.heap.size, 0, none⟩), u2, u3, u4, u5, .pointer (some ⟨gO, 0, none⟩), .int .i64 (x : Int), .pointer (some ⟨gq, 0, none⟩), u9, u10, u11, u12, u13, u14, u15, u16, u17, u18, u19, u20, u21, u22, u23, u24, u25, u26, u27, u28, u29, u30, u31, u32, u33, u34, u35, u36, u37, u38, u39, u40, u41, u42, u43, u44, u45, u46, u47, u48, u49, u50, u51, u52, u53], []⟩ W') :
    (crPart 2).wpIn (Fence.wide.inRound lno) 3 Tryd.prog Q ⟨#[.agg #[.slice A1 n1 c1, .slice A2 n2 c2, .slice A3 n3 c3, .slice A4 n4 c4, .slice A5 n5 c5], .pointer (some ⟨w.heap.size, 0, none⟩), cx2, cx3, cx4, cx5, .pointer (some ⟨gO, 0, none⟩), .int .i64 (x : Int), .pointer (some ⟨gq, 0, none⟩), cx9, cx10, cx11, cx12, cx13, cx14, cx15, cx16, cx17, cx18, cx19, cx20, cx21, cx22, cx23, cx24, cx25, cx26, cx27, cx28, cx29, cx30, cx31, cx32, cx33, cx34, cx35, cx36, cx37, cx38, cx39, cx40, cx41, cx42, cx43, cx44, cx45, cx46, cx47, cx48, cx49, cx50, cx51, cx52, cx53], []⟩ W1 := by
  have HN := Lib.hid hN
  clear hN
  have hl1 : P.elig.length = n1 := pr.l1
  have hbi : (n1 : Int) ≤ 5 := by omega
  have HL1 := Lib.hid hl1
  have HPr := Lib.hid pr
  clear hl1
  have y0 : W1.cell? ⟨w.heap.size, 0, none⟩ = some (.slice A1 n1 c1) := (bp.cell 0).trans rfl
  have hq0 : QR W1 P x gq 0 [.slice A2 n2 c2, .slice A3 n3 c3, .slice A4 n4 c4, .slice A5 n5 c5] := ⟨none, 0, [], kq, World.ownsRow_nil _ _ _ _, rfl, fun i M h => absurd h (Nat.not_lt_zero _)⟩
  conv => arg 4; whnf
  gi_wp2
  refine wpIn_loop (fun a W' => ∃ (j : Nat) (u2 u3 u4 u5 u9 u10 u11 u12 u13 u14 u15 u16 u17 u18 u19 u20 u21 u22 u23 u24 u25 u26 u27 u28 u29 u30 u34 u35 u36 u37 u38 u39 u40 u41 u42 u43 u44 u45 u46 u47 u48 u49 u50 u51 u52 u53 : Value), (j ≤ n1 ∧ QR W' P x gq j [.slice A2 n2 c2, .slice A3 n3 c3, .slice A4 n4 c4, .slice A5 n5 c5] ∧ Below gq W1 W' ∧ KeepsFrom B0 W1 W') ∧ a = ⟨#[.agg #[.slice A1 n1 c1, .slice A2 n2 c2, .slice A3 n3 c3, .slice A4 n4 c4, .slice A5 n5 c5], .pointer (some ⟨w.heap.size, 0, none⟩), u2, u3, u4, u5, .pointer (some ⟨gO, 0, none⟩), .int .i64 (x : Int), .pointer (some ⟨gq, 0, none⟩), u9, u10, u11, u12, u13, u14, u15, u16, u17, u18, u19, u20, u21, u22, u23, u24, u25, u26, u27, u28, u29, u30, .slice A1 n1 c1, .int .i64 (n1 : Int), .int .i64 (j : Int), u34, u35, u36, u37, u38, u39, u40, u41, u42, u43, u44, u45, u46, u47, u48, u49, u50, u51, u52, u53], []⟩) (fun a _ => n1 - (intOf (a.tmps.getD 33 undef)).toNat) ?start ?round
  case start => exact ⟨0, _, _, _, _, _, _, _, _, _, _, _, _, _, _, _, _, _, _, _, _, _, _, _, _, _, _, _, _, _, _, _, _, _, _, _, _, _, _, _, _, _, _, _, _, _, _, ⟨Nat.zero_le _, hq0, Below.refl _ _, KeepsFrom.refl _ _⟩, rfl⟩
  case round =>
    clear kq y0 hq0
    intro a9 wr hinv
    obtain ⟨j, hinv⟩ := hinv
    obtain ⟨u2, hinv⟩ := hinv
    obtain ⟨u3, hinv⟩ := hinv
    obtain ⟨u4, hinv⟩ := hinv
    obtain ⟨u5, hinv⟩ := hinv
    obtain ⟨u9, hinv⟩ := hinv
    obtain ⟨u10, hinv⟩ := hinv
    obtain ⟨u11, hinv⟩ := hinv
    obtain ⟨u12, hinv⟩ := hinv
    obtain ⟨u13, hinv⟩ := hinv
    obtain ⟨u14, hinv⟩ := hinv
    obtain ⟨u15, hinv⟩ := hinv
    obtain ⟨u16, hinv⟩ := hinv
    obtain ⟨u17, hinv⟩ := hinv
    obtain ⟨u18, hinv⟩ := hinv
    obtain ⟨u19, hinv⟩ := hinv
    obtain ⟨u20, hinv⟩ := hinv
    obtain ⟨u21, hinv⟩ := hinv
    obtain ⟨u22, hinv⟩ := hinv
    obtain ⟨u23, hinv⟩ := hinv
    obtain ⟨u24, hinv⟩ := hinv
    obtain ⟨u25, hinv⟩ := hinv
    obtain ⟨u26, hinv⟩ := hinv
    obtain ⟨u27, hinv⟩ := hinv
    obtain ⟨u28, hinv⟩ := hinv
    obtain ⟨u29, hinv⟩ := hinv
    obtain ⟨u30, hinv⟩ := hinv
    obtain ⟨u34, hinv⟩ := hinv
    obtain ⟨u35, hinv⟩ := hinv
    obtain ⟨u36, hinv⟩ := hinv
    obtain ⟨u37, hinv⟩ := hinv
    obtain ⟨u38, hinv⟩ := hinv
    obtain ⟨u39, hinv⟩ := hinv
    obtain ⟨u40, hinv⟩ := hinv
    obtain ⟨u41, hinv⟩ := hinv
    obtain ⟨u42, hinv⟩ := hinv
    obtain ⟨u43, hinv⟩ := hinv
    obtain ⟨u44, hinv⟩ := hinv
    obtain ⟨u45, hinv⟩ := hinv
    obtain ⟨u46, hinv⟩ := hinv
    obtain ⟨u47, hinv⟩ := hinv
    obtain ⟨u48, hinv⟩ := hinv
    obtain ⟨u49, hinv⟩ := hinv
    obtain ⟨u50, hinv⟩ := hinv
    obtain ⟨u51, hinv⟩ := hinv
    obtain ⟨u52, hinv⟩ := hinv
    obtain ⟨u53, hinv⟩ := hinv
    obtain ⟨⟨hj, hQ, hb, hk⟩, ha⟩ := hinv
    subst ha
    by_cases hlt : j < n1
    · have hlt' : (j : Int) < (n1 : Int) := by omega
      obtain ⟨M, hM⟩ : ∃ M, P.elig[j]? = some M := ⟨_, List.getElem?_eq_getElem (by rw [HL1.out]; exact hlt)⟩
      obtain ⟨b, o, X, rfl, hb2, hcX0, hS⟩ := pr.e1 j M hM
      obtain ⟨Av, nv, cv, hXe, hnc, hnv, hlv, hsvv, hrv⟩ := id hS
      obtain rfl : X = .slice Av nv cv := by simpa using hXe
      clear hXe
      have loww := low1.trans (hb.mono (Nat.le_of_lt hgq))
      have hcX : wr.cell? ⟨b, o + j, none⟩ = some (.slice Av nv cv) := (loww.cell (p := ⟨b, o + j, none⟩) hb2).trans hcX0
      have hSw : SetAt wr wr.heap.size (.agg #[.slice Av nv cv]) M := (hS.below loww).more loww.size
      have HM := Lib.hid hM
      have HS := Lib.hid hSw
      have HQ := Lib.hid hQ
      clear hM hlv pr hS hsvv hrv hSw hcX0 hQ
      gi_upto_region 17 with (fail)
      have bA := bAl (Below.refl wr.heap.size wr) (.cells #[.slice Av nv cv] 63)
      obtain ⟨A, c, vs, kq2, o2, hvl, hst2⟩ := HQ.out.row
      have hgr : gq < wr.heap.size := kq2.lt
      have hnb : (Value.slice A j c).ownBlock ≠ some wr.heap.size := fun e => Nat.lt_irrefl _ (World.ownsRow.lt o2 _ e).2
      have hS2 := HS.out.on bA
      have kq2 := kq2.on bA
      have o2 := own_on o2 bA
      have ks2 := Blk.new wr 63 #[.slice Av nv cv]
      have b2 := hb.trans (bA.mono (Nat.le_of_lt hgr))
      have k2 : KeepsFrom B0 W1 (wr.alloc (.cells #[.slice Av nv cv] 63)) := hk.trans ⟨bA.size, fun j o _ hj _ => (bA.block j (Array.getElem?_eq_some_iff.1 hj).1).trans hj⟩
      have hst2 : ∀ i M, i < j → P.elig[i]? = some M → ∃ X, vs[i]? = some X ∧ SetAt (wr.alloc (.cells #[.slice Av nv cv] 63)) (wr.alloc (.cells #[.slice Av nv cv] 63)).heap.size (.agg #[X]) (clrU M x) := fun i M hi hM => by
        obtain ⟨X, e, s⟩ := hst2 i M hi hM
        exact ⟨X, e, s.on bA⟩
      have bd : Below (wr.alloc (.cells #[.slice Av nv cv] 63)).heap.size (wr.alloc (.cells #[.slice Av nv cv] 63)) (wr.alloc (.cells #[.slice Av nv cv] 63)).drew := (Below.refl _ _).drew
      clear bA HQ HS hcX loww hb hk
      obtain ⟨SS, hSS⟩ : ∃ S : World → Prop, S = (fun W => W.cell? ⟨gq, 0, none⟩ = some (.slice A j c) ∧ W.cell? ⟨wr.heap.size, 0, none⟩ = some (.slice Av nv cv)) := ⟨_, rfl⟩
      have sB : ∀ W, Blk W gq 32 #[.slice A j c, .slice A2 n2 c2, .slice A3 n3 c3, .slice A4 n4 c4, .slice A5 n5 c5] → Blk W wr.heap.size 63 #[.slice Av nv cv] → SS W := fun W h1 h2 => by
        rw [hSS]
        exact ⟨(h1.cell 0).trans rfl, (h2.cell 0).trans rfl⟩
      refine wpIn_region_F (fun i => i == 8) SS (by kernel_rfl) (fun ⟨a, w, h⟩ => hO ⟨a, w, h⟩) (by kernel_rfl) (sB _ (kq2.on bd) (ks2.on bd)) (fun hHeld => ?_)
      have kq3 := kq2.on bd
      have ks3 := ks2.on bd
      have o3 := own_on o2 bd
      have hS3 := hS2.on bd
      have b3 := b2.trans (bd.mono (by simp; omega))
      have k3 : KeepsFrom B0 W1 (wr.alloc (.cells #[.slice Av nv cv] 63)).drew := k2.trans ⟨Nat.le_refl _, fun j o _ hj _ => hj⟩
      have hst3 : ∀ i M, i < j → P.elig[i]? = some M → ∃ X, vs[i]? = some X ∧ SetAt (wr.alloc (.cells #[.slice Av nv cv] 63)).drew (wr.alloc (.cells #[.slice Av nv cv] 63)).drew.heap.size (.agg #[X]) (clrU M x) := fun i M hi hM => by
        obtain ⟨X, e, s⟩ := hst2 i M hi hM
        exact ⟨X, e, s.on bd⟩
      clear bd hst2 k2 b2 hS2 o2 ks2 kq2
      generalize (wr.alloc (.cells #[.slice Av nv cv] 63)).drew = W3 at hHeld kq3 ks3 o3 hS3 b3 k3 hst3 ⊢
      have hwo := without_any (.agg #[.slice Av nv cv]) M x W3 hS3 hx
      refine wpAnyF_take (i := 0) (v := ?_) rfl (by kernel_rfl) (by kernel_rfl) (by kernel_rfl) (by kernel_rfl) (fun _ _ _ h => hPan _ _ _ _ h) hHeld (Or.inl ⟨by rfl, ?_⟩) ?_
      rotate_left
      · (intro w hSw; (try rw [hSS] at hSw); (try dsimp only at hSw); go_simp; try with_reducible rfl)
      try simp only [Act.put, List.getElem_toArray, List.getElem_cons_zero, List.getElem_cons_succ, List.setIfInBounds_toArray, List.set_cons_zero, List.set_cons_succ]
      refine wpAnyF_take (i := 1) (v := ?_) rfl (by kernel_rfl) (by kernel_rfl) (by kernel_rfl) (by kernel_rfl) (fun _ _ _ h => hPan _ _ _ _ h) hHeld (Or.inl ⟨by rfl, ?_⟩) ?_
      rotate_left
      · (intro w hSw; (try rw [hSS] at hSw); (try dsimp only at hSw); go_simp; try with_reducible rfl)
      try simp only [Act.put, List.getElem_toArray, List.getElem_cons_zero, List.getElem_cons_succ, List.setIfInBounds_toArray, List.set_cons_zero, List.set_cons_succ]
      refine wpAnyF_take (i := 2) (v := ?_) rfl (by kernel_rfl) (by kernel_rfl) (by kernel_rfl) (by kernel_rfl) (fun _ _ _ h => hPan _ _ _ _ h) hHeld (Or.inl ⟨by rfl, ?_⟩) ?_
      rotate_left
      · (intro w hSw; (try rw [hSS] at hSw); (try dsimp only at hSw); go_simp; try with_reducible rfl)
      try simp only [Act.put, List.getElem_toArray, List.getElem_cons_zero, List.getElem_cons_succ, List.setIfInBounds_toArray, List.set_cons_zero, List.set_cons_succ]
      refine wpAnyF_take (i := 3) (v := ?_) rfl (by kernel_rfl) (by kernel_rfl) (by kernel_rfl) (by kernel_rfl) (fun _ _ _ h => hPan _ _ _ _ h) hHeld (Or.inl ⟨by rfl, ?_⟩) ?_
      rotate_left
      · (intro w hSw; (try rw [hSS] at hSw); (try dsimp only at hSw); go_simp; try with_reducible rfl)
      try simp only [Act.put, List.getElem_toArray, List.getElem_cons_zero, List.getElem_cons_succ, List.setIfInBounds_toArray, List.set_cons_zero, List.set_cons_succ]
      refine wpAnyF_one (i := 4) (by kernel_rfl) rfl (fun K hK => ?_)
      go_simp
      go_at_call 25
      refine hwo.mono ?_
      rintro e W4 ⟨v4, rfl, s4, b4⟩
      obtain ⟨A4', n4', c4', rfl, s4'⟩ : ∃ A n c, v4 = .agg #[.slice A n c] ∧ SetAt W4 W4.heap.size (.agg #[.slice A n c]) (clrU M x) := by
        obtain ⟨A, n, c, e, h1, h2, h3, h4, h5⟩ := s4
        exact ⟨A, n, c, e, ⟨A, n, c, rfl, h1, h2, h3, h4, h5⟩⟩
      have o4 := own_on o3 b4
      have q4 := kq3.on b4
      have hgq4 : gq ≤ W4.heap.size := Nat.le_of_lt q4.lt
      have bs4 := ks3.on b4
      refine hK.out _ _ (Or.inr (sB _ q4 bs4)) ?_
      clear hK K
      try simp only [Act.put, List.getElem_toArray, List.getElem_cons_zero, List.getElem_cons_succ, List.setIfInBounds_toArray, List.set_cons_zero, List.set_cons_succ]
      refine wpAnyF_one (i := 5) (by kernel_rfl) rfl (fun K hK => ?_)
      go_simp
      refine hK.out _ _ (Or.inr (sB _ (q4.alloc _) (bs4.alloc _))) ?_
      clear hK K
      try simp only [Act.put, List.getElem_toArray, List.getElem_cons_zero, List.getElem_cons_succ, List.setIfInBounds_toArray, List.set_cons_zero, List.set_cons_succ]
      refine wpAnyF_one (i := 6) (by kernel_rfl) rfl (fun K hK => ?_)
      refine step_row1 63 27 _ 1 24 set_info Tryd.underlying27 rfl (by omega) (by omega) _ rfl (.tmp 38) (.tmp 42) rfl W4 gq _ j _ rfl o4 #[.slice A4' n4' c4'] rfl _ rfl rfl rfl (by simp [Value.oneCell']) (by omega) hgq4 (j + 1) rfl ?_
      intro A7 c7 w7 o7 g7 b7 k7
      have q7 := q4.grown g7 (own_off o4 q4 (by decide))
      refine hK.out _ _ (Or.inr (sB _ q7 (bs4.grown g7 (hnb)))) ?_
      clear hK K
      try simp only [Act.put, List.getElem_toArray, List.getElem_cons_zero, List.getElem_cons_succ, List.setIfInBounds_toArray, List.set_cons_zero, List.set_cons_succ]
      refine wpAnyF_one (i := 7) (by kernel_rfl) rfl (fun K hK => ?_)
      go_simp
      refine hK.out _ _ (Or.inr (sB _ q7 (bs4.grown g7 hnb))) ?_
      clear hK K
      try simp only [Act.put, List.getElem_toArray, List.getElem_cons_zero, List.getElem_cons_succ, List.setIfInBounds_toArray, List.set_cons_zero, List.set_cons_succ]
      refine wpAnyF_one (i := 8) (by kernel_rfl) rfl (fun K hK => ?_)
      have y8 : w7.cell? ⟨gq, 0, none⟩ = some (.slice A j c) := (q7.cell 0).trans rfl
      have f8 := q7.frozen 0
      go_simp
      refine hK.out _ _ (Or.inl rfl) ?_
      clear hK K
      refine wpAnyF_done (by kernel_rfl) ?_ _
      have Q8 : QR (w7.setCell ⟨gq, 0, none⟩ (.slice A7 (j + 1) c7)) P x gq (j + 1) [.slice A2 n2 c2, .slice A3 n3 c3, .slice A4 n4 c4, .slice A5 n5 c5] := by
        have hrow : ∀ g', (Value.slice A j c).ownBlock = some g' → ∃ c e f, W4.heap[g']? = some (.cells c e f) ∧ e ≠ 112 := fun g' hv => by
          obtain ⟨c, f, k⟩ := Lib.ownsRow_kind o4 g' hv
          exact ⟨c, _, f, k, by decide⟩
        have keepS : ∀ v M, SetAt W4 W4.heap.size v M → SetAt (w7.setCell ⟨gq, 0, none⟩ (.slice A7 (j + 1) c7)) (w7.setCell ⟨gq, 0, none⟩ (.slice A7 (j + 1) c7)).heap.size v M := fun v M hv => by
          rw [setCell_size]
          exact ((hv.grownR g7 (Nat.le_refl _) hrow).far q7 (by decide)).more g7.size
        refine ⟨A7, c7, vs ++ [.slice A4' n4' c4'], by simpa using q7.put 0 (.slice A7 (j + 1) c7), ownsRow_setCell_other o7 (a := ⟨gq, 0, none⟩) (own_off o7 q7 (by decide)) _, by simp [hvl], fun i M' hi hM' => ?_⟩
        by_cases hij : i < j
        · obtain ⟨X, e, s⟩ := hst3 i M' hij hM'
          exact ⟨X, by rw [List.getElem?_append_left (by omega)]; exact e, keepS _ _ (s.on b4)⟩
        · obtain rfl : i = j := by omega
          obtain rfl : M' = M := by rw [HM.out] at hM'; exact (Option.some.inj hM').symm
          exact ⟨_, by rw [← hvl]; simp, keepS _ _ s4'⟩
      have b8 : Below gq W1 (w7.setCell ⟨gq, 0, none⟩ (.slice A7 (j + 1) c7)) := ((b3.trans (b4.mono (by have := kq3.lt; omega))).trans b7).setCell (p := ⟨gq, 0, none⟩) (Nat.le_refl _) _
      have k8 : KeepsFrom B0 W1 (w7.setCell ⟨gq, 0, none⟩ (.slice A7 (j + 1) c7)) := ((k3.trans (Z := W4) ⟨b4.size, fun j o _ hj _ => (b4.block j (Array.getElem?_eq_some_iff.1 hj).1).trans hj⟩).trans ((KeepsOthers.of_grownBy g7 (fun j o e ho => by
          obtain ⟨c', f, k⟩ := Lib.ownsRow_kind o4 j e
          rw [k] at ho
          injection ho with ho
          subst ho
          rfl)).from _)).trans ((KeepsOthers.setCell _ _ _).from _)
      have R8 := Lib.hid (show j + 1 ≤ n1 ∧ QR _ P x gq (j + 1) _ ∧ Below gq W1 _ ∧ KeepsFrom B0 W1 _ from ⟨hlt, Q8, b8, k8⟩)
      clear Q8 b8 k8 y8 f8 q7 o7 g7 b7 k7 o4 q4 bs4 s4' hwo hHeld kq3 ks3 o3 hS3 b3 k3 hst3
      generalize (w7.setCell ⟨gq, 0, none⟩ (.slice A7 (j + 1) c7)) = W8 at R8 ⊢
      gi_wp2
      exact ⟨⟨j + 1, _, _, _, _, _, _, _, _, _, _, _, _, _, _, _, _, _, _, _, _, _, _, _, _, _, _, _, _, _, _, _, _, _, _, _, _, _, _, _, _, _, _, _, _, _, _, R8.out, rfl⟩, by simp [intOf]; omega⟩
    · obtain rfl : j = n1 := by omega
      have hlt' : ¬ (j : Int) < (j : Int) := by omega
      gi_wp2
      exact HN.out wr _ _ _ _ _ _ _ _ _ _ _ _ _ _ _ _ _ _ _ _ _ _ _ _ _ _ _ _ _ _ _ _ _ _ _ _ _ _ _ _ _ _ _ _ _ _ _ _ _ hQ hb hk
end Go.Proofs.YtfnhaoindehjdaaDoor
/- Critical: a round. (gencrit.py) -/
namespace Go.Proofs.YtfnhaoindehjdaaDoor
open Go.RowKit
set_option linter.unusedVariables false
set_option linter.unusedSimpArgs false
attribute [local go_sem] Oper.semAt_some

/-- Whether a user is kept. -/
def ckB (P : Pr) (u : Int) : Bool := !solvB (without P u.toNat)
/-- What the users pre have left. -/
structure CI (W0 : World) (P : Pr) (gO : Nat) (pre : List Nat) (W : World) : Prop where
  row : ∃ A n c, Blk W gO 30 #[.slice A n c] ∧ OwnI W W0.heap.size (.slice A n c) n ((pre.map fun x : Nat => (x : Int)).filter (ckB P)) ∧ n ≤ pre.length
  mv : OnlyB W0 W gO
/-- What the rounds know. -/
structure Cs (w W0 : World) (P : Pr) (A1 A2 A3 A4 A5 : Option Addr) (n1 c1 n2 c2 n3 c3 n4 c4 n5 c5 gO : Nat) : Prop where
  hT : Tab w
  pr : PrAt w w.heap.size ⟨⟨A1, n1, c1⟩, ⟨A2, n2, c2⟩, ⟨A3, n3, c3⟩, ⟨A4, n4, c4⟩, ⟨A5, n5, c5⟩⟩ P
  hc : chkP P = 0
  sm : SmP P
  low : Below w.heap.size w W0
  bp : Blk W0 w.heap.size 32 #[.slice A1 n1 c1, .slice A2 n2 c2, .slice A3 n3 c3, .slice A4 n4 c4, .slice A5 n5 c5]
  gOb : w.heap.size ≤ gO
  bO : Blk W0 gO 30 #[.slice none 0 0]
theorem ck_no {P : Pr} {pre : List Nat} {x : Nat} (h : ckB P x = false) : ((pre ++ [x]).map fun x : Nat => (x : Int)).filter (ckB P) = (pre.map fun x : Nat => (x : Int)).filter (ckB P) := by
  rw [List.map_append, List.filter_append]; simp [h]
theorem ck_yes {P : Pr} {pre : List Nat} {x : Nat} (h : ckB P x = true) : ((pre ++ [x]).map fun x : Nat => (x : Int)).filter (ckB P) = (pre.map fun x : Nat => (x : Int)).filter (ckB P) ++ [(x : Int)] := by
  rw [List.map_append, List.filter_append]; simp [h]
theorem eligA_without (P : Pr) (u : Nat) (k : Int) : ∀ x, (eligA (without P u) k).testBit x = true → (eligA P k).testBit x = true := by
  intro x
  unfold eligA without
  simp only [List.getElem?_map]
  cases P.elig[k.toNat]? with
  | none => simp
  | some M => simp only [Option.map_some, Option.getD_some]; rw [clrU_bit]; simp; intro h _; exact h
theorem sm_without {P : Pr} (h : SmP P) (u : Nat) : SmP (without P u) := by
  refine ⟨by simpa [without] using h.1, fun z => Nat.le_trans ?_ (h.2 z)⟩
  unfold memZ
  rw [List.length_map, List.length_map]
  obtain ⟨n, h1, h2⟩ : ∃ n, eligA (without P u) z < 2 ^ n ∧ eligA P z < 2 ^ n := ⟨eligA (without P u) z + eligA P z, Nat.lt_of_lt_of_le Nat.lt_two_pow_self (Nat.pow_le_pow_right (by decide) (by omega)), Nat.lt_of_lt_of_le Nat.lt_two_pow_self (Nat.pow_le_pow_right (by decide) (by omega))⟩
  rw [memM_memT h1, memM_memT h2]
  unfold memT
  rw [← List.countP_eq_length_filter, ← List.countP_eq_length_filter]
  exact List.countP_mono_left fun i _ hi => eligA_without P u z i hi
set_option maxHeartbeats 8000000 in
set_option maxRecDepth 100000 in
theorem crit_body {w W0 : World} {P : Pr} {A1 A2 A3 A4 A5 : Option Addr} {n1 c1 n2 c2 n3 c3 n4 c4 n5 c5 gO : Nat} (h : Cs w W0 P A1 A2 A3 A4 A5 n1 c1 n2 c2 n3 c3 n4 c4 n5 c5 gO)
    (lno : Nat) (pre : List Nat) (x : Nat) (W : World) (hx : 1 ≤ x ∧ x ≤ 256) (hlt : pre.length < 4096) (hI : CI W0 P gO pre W)
    (Q : Exit → Act → World → Prop) (hO : ¬ LetsOut Q) (hPan : ∀ c a a' w, Q (.panic c) a w → Q (.panic c) a' w)
    (hN : ∀ a W', KeepsFrom W0.heap.size W W' → Below w.heap.size W W' → CI W0 P gO (pre ++ [x]) W' → Q .normal a W')
    (cx2 cx3 cx4 cx5 cx8 cx9 cx10 cx11 cx12 cx13 cx14 cx15 cx16 cx17 cx18 cx19 cx20 cx21 cx22 cx23 cx24 cx25 cx26 cx27 cx28 cx29 cx30 cx31 cx32 cx33 cx34 cx35 cx36 cx37 cx38 cx39 cx40 cx41 cx42 cx43 cx44 cx45 cx46 cx47 cx48 cx49 cx50 cx51 cx52 cx53 : Value) :
    critRound.wpIn (Fence.wide.inRound lno) 3 Tryd.prog Q ⟨#[.agg #[.slice A1 n1 c1, .slice A2 n2 c2, .slice A3 n3 c3, .slice A4 n4 c4, .slice A5 n5 c5], .pointer (some ⟨w.heap.size, 0, none⟩), cx2, cx3, cx4, cx5, .pointer (some ⟨gO, 0, none⟩), .int .i64 (x : Int), cx8, cx9, cx10, cx11, cx12, cx13, cx14, cx15, cx16, cx17, cx18, cx19, cx20, cx21, cx22, cx23, cx24, cx25, cx26, cx27, cx28, cx29, cx30, cx31, cx32, cx33, cx34, cx35, cx36, cx37, cx38, cx39, cx40, cx41, cx42, cx43, cx44, cx45, cx46, cx47, cx48, cx49, cx50, cx51, cx52, cx53], []⟩ W := by
  obtain ⟨hT, pr, hc, sm, low, bp, gOb, bO0⟩ := h
  obtain ⟨⟨A, n, c, bO, ho, hn⟩, mv⟩ := hI
  have ok := chkP_ok hc
  have hg0 : 0 < w.heap.size := World.block_lt_of_cell? w _ (hT 0 (by omega))
  have gOl : gO < W0.heap.size := bO0.lt
  have lowW : Below w.heap.size w W := low.trans (mv.below (Nat.le_of_lt gOl) (Nat.le_refl _) |>.mono gOb)
  have bp' := mv.blk bp (bp.apart bO0 (by decide))
  have y4 : W.cell? ⟨w.heap.size, 4, none⟩ = some (.slice A5 n5 c5) := (bp'.cell 4).trans rfl
  have y0 : W.cell? ⟨w.heap.size, 0, none⟩ = some (.slice A1 n1 c1) := (bp'.cell 0).trans rfl
  have y1 : W.cell? ⟨w.heap.size, 1, none⟩ = some (.slice A2 n2 c2) := (bp'.cell 1).trans rfl
  have y2 : W.cell? ⟨w.heap.size, 2, none⟩ = some (.slice A3 n3 c3) := (bp'.cell 2).trans rfl
  have y3 : W.cell? ⟨w.heap.size, 3, none⟩ = some (.slice A4 n4 c4) := (bp'.cell 3).trans rfl
  have hl1 : P.elig.length = n1 := pr.l1
  have hn5 : n1 ≤ 5 := by rw [← hl1]; exact sm.1
  have hxi : (1 : Int) ≤ (x : Int) ∧ (x : Int) ≤ 256 := by omega
  have gqb : w.heap.size < W.heap.size := bp'.lt
  have hpk : ckB P (x : Int) = !solvB (without P x) := by unfold ckB; rw [Int.toNat_natCast]
  have hsv := fun (W' : World) (A6 : Option Addr) (c6 : Nat) (hW : Below w.heap.size w W') (hQ : ∃ vs, W'.ownsRow W.heap.size 63 1 (.slice A6 n1 c6) n1 vs ∧ vs.length = n1 ∧ ∀ i M, i < n1 → P.elig[i]? = some M → ∃ X, vs[i]? = some X ∧ SetAt W' W'.heap.size (.agg #[X]) (clrU M x)) =>
    solvable_any ⟨⟨A6, n1, c6⟩, ⟨A2, n2, c2⟩, ⟨A3, n3, c3⟩, ⟨A4, n4, c4⟩, ⟨A5, n5, c5⟩⟩ (without P x) W'
      (by
        have h9 := (pr.below hW).more hW.size
        obtain ⟨vs, o1, o2, o3⟩ := hQ
        have q1 := Sees.own o1 (by omega)
        refine ⟨by show (P.elig.map _).length = n1; rw [List.length_map]; exact hl1, h9.l2, h9.l3, h9.l4, h9.l5, fun i M hi => ?_, h9.e2, h9.e3, h9.e4, h9.e5, h9.b1, h9.b2, h9.b3, h9.b4, h9.b5, h9.c5⟩
        have hi : (P.elig.map (clrU · x))[i]? = some M := hi
        rw [List.getElem?_map] at hi
        obtain ⟨M0, hM0, rfl⟩ := Option.map_eq_some_iff.1 hi
        obtain ⟨X, a, b⟩ := o3 i M0 (by rw [← hl1]; exact (List.getElem?_eq_some_iff.1 hM0).1) hM0
        obtain ⟨b9, o9, e9, hb, hc⟩ := q1 (by intro e; rw [e] at a; simp at a)
        exact ⟨b9, o9, X, e9, hb, hc i X a, b⟩)
      (hT.below hW hg0) (fun _ => sm_without sm x)
  unfold PrV.v Sl.v at hsv
  simp only [] at hsv
  obtain ⟨v, hv⟩ : ∃ v, Hid (v = solvB (without P x)) := ⟨_, Lib.hid rfl⟩
  rw [← hv.out] at hpk hsv
  have HSV := Lib.hid hsv
  have HPK := Lib.hid hpk
  have HN := Lib.hid hN
  have HO := Lib.hid ho
  have HMV := Lib.hid mv
  have BO := Lib.hid bO
  have HL1 := Lib.hid hl1
  clear hsv hpk hN ho mv hl1 bO
  have kq := Blk.new W 32 #[.slice A1 n1 c1, .slice A2 n2 c2, .slice A3 n3 c3, .slice A4 n4 c4, .slice A5 n5 c5]
  rw [cr_split]
  gi_wp2
  conv => arg 4; whnf
  gi_wp2
  have b1 := bAl (Below.refl W.heap.size W) (.cells #[.slice A1 n1 c1, .slice A2 n2 c2, .slice A3 n3 c3, .slice A4 n4 c4, .slice A5 n5 c5] 32)
  generalize (W.alloc (.cells #[.slice A1 n1 c1, .slice A2 n2 c2, .slice A3 n3 c3, .slice A4 n4 c4, .slice A5 n5 c5] 32)) = W1 at kq b1 ⊢
  have z0 : W1.cell? ⟨W.heap.size, 0, none⟩ = some (.slice A1 n1 c1) := (kq.cell 0).trans rfl
  have fz0 := kq.frozen 0
  clear y0 y1 y2 y3 y4
  conv => arg 4; whnf
  gi_wp2
  have kq2 : Blk (W1.setCell ⟨W.heap.size, 0, none⟩ (.slice none 0 0)) W.heap.size 32 #[.slice none 0 0, .slice A2 n2 c2, .slice A3 n3 c3, .slice A4 n4 c4, .slice A5 n5 c5] := by simpa using kq.put 0 (.slice none 0 0)
  have b2 : Below W.heap.size W (W1.setCell ⟨W.heap.size, 0, none⟩ (.slice none 0 0)) := b1.setCell (p := ⟨W.heap.size, 0, none⟩) (Nat.le_refl _) _
  have hkp2 : KeepsFrom W0.heap.size W (W1.setCell ⟨W.heap.size, 0, none⟩ (.slice none 0 0)) := KeepsFrom.trans (Y := W1) ⟨b1.size, fun j o _ hj _ => (b1.block j (Array.getElem?_eq_some_iff.1 hj).1).trans hj⟩ ((KeepsOthers.setCell _ _ _).from _)
  generalize (W1.setCell ⟨W.heap.size, 0, none⟩ (.slice none 0 0)) = W2 at kq2 b2 hkp2 ⊢
  clear z0 fz0 kq b1
  have low2 := lowW.trans (b2.mono lowW.size)
  have bp2 := bp'.on b2
  have hx4 : x < 4096 := by omega
  refine crit_in (B0 := W0.heap.size) (x := x) (gO := gO) lno hx4 pr hn5 W2 low2 bp2 gqb kq2 _ ?_ ?_ _ _ _ _ _ _ _ _ _ _ _ _ _ _ _ _ _ _ _ _ _ _ _ _ _ _ _ _ _ _ _ _ _ _ _ _ _ _ _ _ _ _ _ _ _ _ _ _ _ ?_
  · exact fun ⟨a, w, h⟩ => hO ⟨a, w, h⟩
  · exact fun c a a' w h => hPan c a a' w h
  intro W3 u2 u3 u4 u5 u9 u10 u11 u12 u13 u14 u15 u16 u17 u18 u19 u20 u21 u22 u23 u24 u25 u26 u27 u28 u29 u30 u31 u32 u33 u34 u35 u36 u37 u38 u39 u40 u41 u42 u43 u44 u45 u46 u47 u48 u49 u50 u51 u52 u53 hQ b3 hkp3
  have b13 := b2.trans b3
  have low3 := lowW.trans (b13.mono lowW.size)
  have hkp3 := hkp2.trans hkp3
  obtain ⟨A9, c9, vs9, kq3, o9, l9, s9⟩ := hQ.row
  have hsv3 := HSV.out W3 A9 c9 low3 ⟨vs9, o9, l9, s9⟩
  have q0 : W3.cell? ⟨W.heap.size, 0, none⟩ = some (.slice A9 n1 c9) := (kq3.cell 0).trans rfl
  have q1 : W3.cell? ⟨W.heap.size, 1, none⟩ = some (.slice A2 n2 c2) := (kq3.cell 1).trans rfl
  have q2 : W3.cell? ⟨W.heap.size, 2, none⟩ = some (.slice A3 n3 c3) := (kq3.cell 2).trans rfl
  have q3 : W3.cell? ⟨W.heap.size, 3, none⟩ = some (.slice A4 n4 c4) := (kq3.cell 3).trans rfl
  have q4 : W3.cell? ⟨W.heap.size, 4, none⟩ = some (.slice A5 n5 c5) := (kq3.cell 4).trans rfl
  clear hQ o9 l9 s9 kq3 b2 b3 hkp2 low2 bp2 kq2 bp'
  simp only [Exit.then]
  gi_wp2
  conv => arg 4; whnf
  gi_wp2
  refine ⟨trivial, (CallsIn.inRound lno (callsIn_wide.2 hsv3)).mono ?_⟩
  rintro e W4 ⟨rfl, b4⟩
  have b14 := b13.trans (b4.mono b13.size)
  have low4 := low3.trans (b4.mono low3.size)
  have hkp4 : KeepsFrom W0.heap.size W W4 := hkp3.trans ⟨b4.size, fun j o _ hj _ => (b4.block j (Array.getElem?_eq_some_iff.1 hj).1).trans hj⟩
  clear q0 q1 q2 q3 q4 hsv3 b13 hkp3 low3 b4
  cases hvv : v
  · have hpk : ckB P (x : Int) = true := by rw [HPK.out, hvv]; rfl
    have HPk := Lib.hid hpk
    clear hpk hvv
    have bO4 := BO.out.on b14
    have ho4 := OwnI.on HO.out b14
    have mv4 := HMV.out.more (b14.mono HMV.out.size)
    have yO : W4.cell? ⟨gO, 0, none⟩ = some (.slice A n c) := (bO4.cell 0).trans rfl
    obtain ⟨i0, hi, hz0, hz1, hz2⟩ := info_parts int_info
    have HO4 := Lib.hid ho4
    have HBO4 := Lib.hid bO4
    have HMV4 := Lib.hid mv4
    have hW04 : W0.heap.size ≤ W4.heap.size := mv4.size
    clear ho4 bO4 mv4
    gi_wp2_with (gi_at_builtin; refine wpListIn_append_own _ rfl _ _ 30 rfl W0.heap.size 3 i0 (.int .i64 0) 1 8 Tryd.underlying30 hi hz0 (by assumption) (by assumption) rfl (by decide) _ _ _ rfl (World.ownsRow.alloc HO4.out _) ⟨W4.heap.size, 0, none⟩ 1 1 [.int .i64 (x : Int)] rfl rfl (cell_one_new _ _ _) (by simp [Value.oneCell']) (by unfold maxLen; omega) (by omega) (by simp; omega) ?_; intro v' w7 o7 g7 _; obtain ⟨A7, c7, rfl⟩ := ownsRow_succ o7; have hb7 := HBO4.out.alloc (.cells #[.int .i64 (x : Int)] 3); have hb8 := hb7.grown g7 (own_off (World.ownsRow.alloc HO4.out _) hb7 (by decide)); have yO7 : w7.cell? ⟨gO, 0, none⟩ = some (.slice A n c) := (hb8.cell 0).trans rfl; have fO7 := hb8.frozen 0)
    have b7 : Below W0.heap.size W4 w7 := below_app ((Below.refl W0.heap.size W4).alloc hW04 _) (by simp; omega) (World.ownsRow.alloc HO4.out _) g7
    have bO8 : Blk (w7.setCell ⟨gO, 0, none⟩ (.slice (some ⟨A7, 0, none⟩) (n + 1) c7)) gO 30 #[.slice (some ⟨A7, 0, none⟩) (n + 1) c7] := by simpa using hb8.put 0 (.slice (some ⟨A7, 0, none⟩) (n + 1) c7)
    have o8 : OwnI (w7.setCell ⟨gO, 0, none⟩ (.slice (some ⟨A7, 0, none⟩) (n + 1) c7)) W0.heap.size (.slice (some ⟨A7, 0, none⟩) (n + 1) c7) (n + 1) (((pre ++ [x]).map fun x : Nat => (x : Int)).filter (ckB P)) := by
      rw [ck_yes HPk.out]
      refine OwnI.same (w := w7) ?_ fun j hj => Below.heap_setCell w7 _ _ j (fun e => by have := (World.ownsRow.lt o7 j hj).1; simp at e; omega)
      show World.ownsRow _ _ _ _ _ _ _
      rw [List.map_append]
      exact o7
    have hkp8 : KeepsFrom W0.heap.size W (w7.setCell ⟨gO, 0, none⟩ (.slice (some ⟨A7, 0, none⟩) (n + 1) c7)) := ((hkp4.trans (Z := W4.alloc (.cells #[.int .i64 (x : Int)] 3)) ⟨by simp, fun j o _ hj _ => (Below.heap_alloc W4 _ j (Array.getElem?_eq_some_iff.1 hj).1).trans hj⟩).trans ((KeepsOthers.of_grownBy g7 (fun j o e ho => by
          obtain ⟨c', f, k⟩ := Lib.ownsRow_kind (World.ownsRow.alloc HO4.out _) j e
          rw [k] at ho
          injection ho with ho
          subst ho
          rfl)).from _)).trans ((KeepsOthers.setCell _ _ _).from _)
    exact HN.out _ _ hkp8 (((b14.mono lowW.size).trans (b7.mono low.size)).setCell (p := ⟨gO, 0, none⟩) gOb _) ⟨⟨_, n + 1, c7, bO8, o8, by simp; omega⟩, (HMV4.out.more b7).set _⟩
  · have hpk : ckB P (x : Int) = false := by rw [HPK.out, hvv]; rfl
    have HP : Hid (CI W0 P gO (pre ++ [x]) W4) := Lib.hid ⟨⟨A, n, c, BO.out.on b14, by rw [ck_no hpk]; exact OwnI.on HO.out b14, by simp; omega⟩, HMV.out.more (b14.mono HMV.out.size)⟩
    clear hpk hvv
    gi_wp2
    exact HN.out _ _ hkp4 (b14.mono lowW.size) HP.out
end Go.Proofs.YtfnhaoindehjdaaDoor
/- Critical: the range over the users. (gencrit.py) -/
namespace Go.Proofs.YtfnhaoindehjdaaDoor
open Go.RowKit
set_option linter.unusedVariables false
set_option linter.unusedSimpArgs false
attribute [local go_sem] Oper.semAt_some

theorem CI.own_from {W0 : World} {P : Pr} {gO M : Nat} :
    OwnFrom W0.heap.size (fun (pre : List (Mb M)) W => CI W0 P gO (pre.map (·.1)) W) := fun s A B' row hs hg hr => by
  obtain ⟨⟨A1, n, c, b, o, hn⟩, mv⟩ := hs
  have nb : ∀ (j t : Nat) (cs : Array Value), Blk A j t cs → row ≠ some j := fun j t cs hb e => by
    obtain ⟨_, o, ho, hc⟩ := hr j e
    rw [show A.heap[j]? = some (.cells cs t (0, 0)) from hb] at ho
    injection ho with ho
    subst ho
    cases hc
  refine ⟨⟨A1, n, c, (hg.block gO b.lt (fun e => nb _ _ _ b e.symm)).trans b, OwnI.same o fun j hj => ?_, hn⟩, mv.more ((Below.refl _ _).grown hg mv.size fun r e => (hr r e).1)⟩
  obtain ⟨cs, hb, _⟩ := own_type o hj
  exact hg.block j hb.lt fun e => nb _ _ _ hb e.symm
set_option maxHeartbeats 8000000 in
set_option maxRecDepth 100000 in
theorem crit_rf {w W0 : World} {P : Pr} {A1 A2 A3 A4 A5 : Option Addr} {n1 c1 n2 c2 n3 c3 n4 c4 n5 c5 gO : Nat} (h : Cs w W0 P A1 A2 A3 A4 A5 n1 c1 n2 c2 n3 c3 n4 c4 n5 c5 gO)
    (ga M : Nat) (hM : ∀ x, x ∈ memM M → 1 ≤ x ∧ x ≤ 256) (Av : Option Addr) (nv cv : Nat) (hnc : nv ≤ cv) (hnv : nv ≤ 64) (hlv : len2 64 M = nv) (hsv : Sees W0 gO Av ((dg 64 M).map wv))
    (hga : W0.cell? ⟨ga, 0, none⟩ = some (.slice Av nv cv)) (hgl : ga < W0.heap.size)
    (Q : Exit → Act → World → Prop) (cx2 cx3 cx4 cx5 cx7 cx8 cx9 cx10 cx11 cx12 cx13 cx14 cx15 cx16 cx17 cx18 cx19 cx20 cx21 cx22 cx23 cx24 cx25 cx27 cx28 cx29 cx30 cx31 cx32 cx33 cx34 cx35 cx36 cx37 cx38 cx39 cx40 cx41 cx42 cx43 cx44 cx45 cx46 cx47 cx48 cx49 cx50 cx51 cx52 cx53 : Value)
    (hN : ∀ D W', W0.heap.size ≤ D → CI W0 P gO (memM M) W' → W'.heap[D]? = some (.deferred (some [])) → Q .normal ⟨#[.agg #[.slice A1 n1 c1, .slice A2 n2 c2, .slice A3 n3 c3, .slice A4 n4 c4, .slice A5 n5 c5], .pointer (some ⟨w.heap.size, 0, none⟩), cx2, cx3, cx4, cx5, .pointer (some ⟨gO, 0, none⟩), cx7, cx8, cx9, cx10, cx11, cx12, cx13, cx14, cx15, cx16, cx17, cx18, cx19, cx20, cx21, cx22, cx23, cx24, cx25, .func (.func 85) #[] #[.pointer (some ⟨ga, 0, none⟩)], cx27, cx28, cx29, cx30, cx31, cx32, cx33, cx34, cx35, cx36, cx37, cx38, cx39, cx40, cx41, cx42, cx43, cx44, cx45, cx46, cx47, cx48, cx49, cx50, cx51, cx52, cx53], [markOf D]⟩ W') :
    critRf.wpIn Fence.wide 5 Tryd.prog Q ⟨#[.agg #[.slice A1 n1 c1, .slice A2 n2 c2, .slice A3 n3 c3, .slice A4 n4 c4, .slice A5 n5 c5], .pointer (some ⟨w.heap.size, 0, none⟩), cx2, cx3, cx4, cx5, .pointer (some ⟨gO, 0, none⟩), cx7, cx8, cx9, cx10, cx11, cx12, cx13, cx14, cx15, cx16, cx17, cx18, cx19, cx20, cx21, cx22, cx23, cx24, cx25, .func (.func 85) #[] #[.pointer (some ⟨ga, 0, none⟩)], cx27, cx28, cx29, cx30, cx31, cx32, cx33, cx34, cx35, cx36, cx37, cx38, cx39, cx40, cx41, cx42, cx43, cx44, cx45, cx46, cx47, cx48, cx49, cx50, cx51, cx52, cx53], []⟩ W0 := by
  have hro : (Fence.wide).round = none := rfl
  have h1 : 1 ≤ 5 := by omega
  have hg1 : 0 < w.heap.size := World.block_lt_of_cell? w _ (h.hT 0 (by omega))
  have hg0 : 0 < gO := Nat.lt_of_lt_of_le hg1 h.gOb
  have hI0 : CI W0 P gO [] W0 := ⟨⟨none, 0, 0, h.bO, OwnI.nil _ _, Nat.le_refl _⟩, OnlyB.refl _ _⟩
  have hlt0 : gO ≤ W0.heap.size := Nat.le_of_lt h.bO.lt
  refine wpIn_rangeFunc_ownG (assign := (match critRf with | .rangeFunc _ _ a _ => a | c => c)) (body := critRound) hro h1 (gf := 85) (lb := #[.pointer (some ⟨ga, 0, none⟩)]) rfl trivial (enters_of Tryd.func85 (by kernel_rfl) rfl)
    (all_stopsM ga gO nv cv M Av 4 (by omega) hnc hnv hlv hg0 W0 hgl hlt0 hga hsv (h.hT.below h.low hg1)) belowK_t (belowK_b hlt0) (Below.refl _ _) (fun _ => rfl)
    (fun (pre : List (Mb M)) W' => CI W0 P gO (pre.map (·.1)) W') (fun _ _ _ => False)
    CI.own_from (fun c => fun s A B' row hs hg hr => hs.elim) hI0
    (fun x : Mb M => ⟨#[.agg #[.slice A1 n1 c1, .slice A2 n2 c2, .slice A3 n3 c3, .slice A4 n4 c4, .slice A5 n5 c5], .pointer (some ⟨w.heap.size, 0, none⟩), cx2, cx3, cx4, cx5, .pointer (some ⟨gO, 0, none⟩), .int .i64 ((x.1 : Nat) : Int), cx8, cx9, cx10, cx11, cx12, cx13, cx14, cx15, cx16, cx17, cx18, cx19, cx20, cx21, cx22, cx23, cx24, cx25, .func (.func 85) #[] #[.pointer (some ⟨ga, 0, none⟩)], .int .i64 ((x.1 : Nat) : Int), cx28, cx29, cx30, cx31, cx32, cx33, cx34, cx35, cx36, cx37, cx38, cx39, cx40, cx41, cx42, cx43, cx44, cx45, cx46, cx47, cx48, cx49, cx50, cx51, cx52, cx53], []⟩) ?assign ?body ?done ?stop
  case assign =>
    intro lno x W' K' hK'
    conv => arg 4; whnf
    gi_wp2
    exact hK'
  case body =>
    rintro lno pre x W' hI' hlt
    refine crit_body h lno (pre.map (·.1)) x.1 W' (hM x.1 x.2) (by rw [List.length_map]; exact hlt) hI' _ (fun ⟨a, w, h⟩ => h) (fun _ _ _ _ h => h) ?_ _ _ _ _ _ _ _ _ _ _ _ _ _ _ _ _ _ _ _ _ _ _ _ _ _ _ _ _ _ _ _ _ _ _ _ _ _ _ _ _ _ _ _ _ _ _ _ _ _ _
    intro a W2 h1 h2 h3
    have m1 := hI'.mv
    have m2 := h3.mv
    exact ⟨h1, ⟨m2.os.trans m1.os.symm, m2.tape.trans m1.tape.symm, m2.output.trans m1.output.symm, h2.size, fun k hk => (m2.block k (by omega) (by omega)).trans (m1.block k (by omega) (by omega)).symm⟩, by show CI W0 P gO ((pre ++ [x]).map (·.1)) W2; rw [map_val_snoc]; exact h3⟩
  case done =>
    rintro D ys W' hD hys hI' hK'
    have hI' : CI W0 P gO (ys.map (·.1)) W' := hI'
    have hys : ys.map (·.1) = memM M := hys
    rw [hys] at hI'
    exact hN D W' hD hI' hK'
  case stop =>
    rintro D c' pre W' hD hpre hX hK'
    exact hX.elim
end Go.Proofs.YtfnhaoindehjdaaDoor
/- Critical. (gencrit.py) -/
namespace Go.Proofs.YtfnhaoindehjdaaDoor
open Go.RowKit
set_option linter.unusedVariables false
set_option linter.unusedSimpArgs false
attribute [local go_sem] Oper.semAt_some

/-- The union of the first j sets. -/
def orT (P : Pr) (j : Nat) : Nat := (P.elig.take j).foldl (· ||| ·) 0
theorem orT_succ {P : Pr} {j M : Nat} (h : P.elig[j]? = some M) : orT P (j + 1) = orT P j ||| M := by
  unfold orT
  rw [List.take_add_one, h, List.foldl_append]
  rfl
theorem orT_all {P : Pr} {n : Nat} (h : P.elig.length = n) : orT P n = unionA P := by
  unfold orT unionA
  rw [← h, List.take_length]
theorem union_user {P : Pr} (ok : PrOk P) {x : Nat} (h : x ∈ memM (unionA P)) : 1 ≤ x ∧ x ≤ 256 := by
  have hb : (unionA P).testBit x = true := memM_bit h
  rw [unionA_bit] at hb
  obtain ⟨M, hM, hx⟩ := List.any_eq_true.1 hb
  obtain ⟨k, hk⟩ := List.mem_iff_getElem?.1 hM
  have h9 : ((x : Nat) : Int) ∈ memZ (eligA P (k : Int)) := by
    unfold eligA memZ
    rw [Int.toNat_natCast, hk]
    exact List.mem_map.2 ⟨x, mem_memM hx, rfl⟩
  have := memZ_user ok h9
  omega
set_option maxHeartbeats 8000000 in
set_option maxRecDepth 100000 in
theorem crit_or {w : World} {P : Pr} {A1 A2 A3 A4 A5 : Option Addr} {n1 c1 n2 c2 n3 c3 n4 c4 n5 c5 : Nat} {gA : Nat} (pr : PrAt w w.heap.size ⟨⟨A1, n1, c1⟩, ⟨A2, n2, c2⟩, ⟨A3, n3, c3⟩, ⟨A4, n4, c4⟩, ⟨A5, n5, c5⟩⟩ P) (hn5 : n1 ≤ 5)
    (W1 : World) (low1 : Below w.heap.size w W1) (bp : Blk W1 w.heap.size 32 #[.slice A1 n1 c1, .slice A2 n2 c2, .slice A3 n3 c3, .slice A4 n4 c4, .slice A5 n5 c5]) (hgA : w.heap.size < gA) (kA : Blk W1 gA 63 #[.slice none 0 0])
    (Q : Exit → Act → World → Prop) (cx2 cx4 cx5 cx6 cx7 cx8 cx9 cx10 cx11 cx12 cx13 cx14 cx15 cx16 cx17 cx18 cx19 cx20 cx21 cx22 cx23 cx24 cx25 cx26 cx27 cx28 cx29 cx30 cx31 cx32 cx33 cx34 cx35 cx36 cx37 cx38 cx39 cx40 cx41 cx42 cx43 cx44 cx45 cx46 cx47 cx48 cx49 cx50 cx51 cx52 cx53 : Value)
    (hN : ∀ (W' : World) (A : Option Addr) (n c : Nat) (u2 u4 u5 u6 u7 u8 u9 u10 u11 u12 u13 u14 u15 u16 u17 u18 u19 u20 u21 u22 u23 u24 u25 u26 u27 u28 u29 u30 u31 u32 u33 u34 u35 u36 u37 u38 u39 u40 u41 u42 u43 u44 u45 u46 u47 u48 u49 u50 u51 u52 u53 : Value), Blk W' gA 63 #[.slice A n c] → SetAt W' W'.heap.size (.agg #[.slice A n c]) (unionA P) → Below gA W1 W' → Q .normal ⟨#[.agg #[.slice A1 n1 c1, .slice A2 n2 c2, .slice A3 n3 c3, .slice A4 n4 c4, .slice A5 n5 c5], .pointer (some ⟨w.heap.size, 0, none⟩), u2, .pointer (some ⟨gA, 0, none⟩), u4, u5, u6, u7, u8, u9, u10, u11, u12, u13, u14, u15, u16, u17, u18, u19, u20, u21, u22, u23, u24, u25, u26, u27, u28, u29, u30, u31, u32, u33, u34, u35, u36, u37, u38, u39, u40, u41, u42, u43, u44, u45, u46, u47, u48, u49, u50, u51, u52, u53], []⟩ W') :
    (critPart 3).wpIn Fence.wide 5 Tryd.prog Q ⟨#[.agg #[.slice A1 n1 c1, .slice A2 n2 c2, .slice A3 n3 c3, .slice A4 n4 c4, .slice A5 n5 c5], .pointer (some ⟨w.heap.size, 0, none⟩), cx2, .pointer (some ⟨gA, 0, none⟩), cx4, cx5, cx6, cx7, cx8, cx9, cx10, cx11, cx12, cx13, cx14, cx15, cx16, cx17, cx18, cx19, cx20, cx21, cx22, cx23, cx24, cx25, cx26, cx27, cx28, cx29, cx30, cx31, cx32, cx33, cx34, cx35, cx36, cx37, cx38, cx39, cx40, cx41, cx42, cx43, cx44, cx45, cx46, cx47, cx48, cx49, cx50, cx51, cx52, cx53], []⟩ W1 := by
  have HN := Lib.hid hN
  clear hN
  have hl1 : P.elig.length = n1 := pr.l1
  have hbi : (n1 : Int) ≤ 5 := by omega
  have HL1 := Lib.hid hl1
  clear hl1
  have y0 : W1.cell? ⟨w.heap.size, 0, none⟩ = some (.slice A1 n1 c1) := (bp.cell 0).trans rfl
  have hs0 : SetAt W1 W1.heap.size (.agg #[.slice none 0 0]) (orT P 0) := SetAt.zero W1 _ _ _
  conv => arg 4; whnf
  gi_wp2
  refine wpIn_loop (fun a W' => ∃ (j : Nat) (A : Option Addr) (n c : Nat) (u2 u4 u5 u6 u7 u8 u9 u10 u11 u12 u13 u14 u18 u19 u20 u21 u22 u23 u24 u25 u26 u27 u28 u29 u30 u31 u32 u33 u34 u35 u36 u37 u38 u39 u40 u41 u42 u43 u44 u45 u46 u47 u48 u49 u50 u51 u52 u53 : Value), (j ≤ n1 ∧ Blk W' gA 63 #[.slice A n c] ∧ SetAt W' W'.heap.size (.agg #[.slice A n c]) (orT P j) ∧ Below gA W1 W') ∧ a = ⟨#[.agg #[.slice A1 n1 c1, .slice A2 n2 c2, .slice A3 n3 c3, .slice A4 n4 c4, .slice A5 n5 c5], .pointer (some ⟨w.heap.size, 0, none⟩), u2, .pointer (some ⟨gA, 0, none⟩), u4, u5, u6, u7, u8, u9, u10, u11, u12, u13, u14, .slice A1 n1 c1, .int .i64 (n1 : Int), .int .i64 (j : Int), u18, u19, u20, u21, u22, u23, u24, u25, u26, u27, u28, u29, u30, u31, u32, u33, u34, u35, u36, u37, u38, u39, u40, u41, u42, u43, u44, u45, u46, u47, u48, u49, u50, u51, u52, u53], []⟩) (fun a _ => n1 - (intOf (a.tmps.getD 17 undef)).toNat) ?start ?round
  case start => exact ⟨0, none, 0, 0, _, _, _, _, _, _, _, _, _, _, _, _, _, _, _, _, _, _, _, _, _, _, _, _, _, _, _, _, _, _, _, _, _, _, _, _, _, _, _, _, _, _, _, _, _, _, _, _, ⟨Nat.zero_le _, kA, hs0, Below.refl _ _⟩, rfl⟩
  case round =>
    clear kA y0 hs0
    intro a9 wr hinv
    obtain ⟨j, hinv⟩ := hinv
    obtain ⟨A, hinv⟩ := hinv
    obtain ⟨n, hinv⟩ := hinv
    obtain ⟨c, hinv⟩ := hinv
    obtain ⟨u2, hinv⟩ := hinv
    obtain ⟨u4, hinv⟩ := hinv
    obtain ⟨u5, hinv⟩ := hinv
    obtain ⟨u6, hinv⟩ := hinv
    obtain ⟨u7, hinv⟩ := hinv
    obtain ⟨u8, hinv⟩ := hinv
    obtain ⟨u9, hinv⟩ := hinv
    obtain ⟨u10, hinv⟩ := hinv
    obtain ⟨u11, hinv⟩ := hinv
    obtain ⟨u12, hinv⟩ := hinv
    obtain ⟨u13, hinv⟩ := hinv
    obtain ⟨u14, hinv⟩ := hinv
    obtain ⟨u18, hinv⟩ := hinv
    obtain ⟨u19, hinv⟩ := hinv
    obtain ⟨u20, hinv⟩ := hinv
    obtain ⟨u21, hinv⟩ := hinv
    obtain ⟨u22, hinv⟩ := hinv
    obtain ⟨u23, hinv⟩ := hinv
    obtain ⟨u24, hinv⟩ := hinv
    obtain ⟨u25, hinv⟩ := hinv
    obtain ⟨u26, hinv⟩ := hinv
    obtain ⟨u27, hinv⟩ := hinv
    obtain ⟨u28, hinv⟩ := hinv
    obtain ⟨u29, hinv⟩ := hinv
    obtain ⟨u30, hinv⟩ := hinv
    obtain ⟨u31, hinv⟩ := hinv
    obtain ⟨u32, hinv⟩ := hinv
    obtain ⟨u33, hinv⟩ := hinv
    obtain ⟨u34, hinv⟩ := hinv
    obtain ⟨u35, hinv⟩ := hinv
    obtain ⟨u36, hinv⟩ := hinv
    obtain ⟨u37, hinv⟩ := hinv
    obtain ⟨u38, hinv⟩ := hinv
    obtain ⟨u39, hinv⟩ := hinv
    obtain ⟨u40, hinv⟩ := hinv
    obtain ⟨u41, hinv⟩ := hinv
    obtain ⟨u42, hinv⟩ := hinv
    obtain ⟨u43, hinv⟩ := hinv
    obtain ⟨u44, hinv⟩ := hinv
    obtain ⟨u45, hinv⟩ := hinv
    obtain ⟨u46, hinv⟩ := hinv
    obtain ⟨u47, hinv⟩ := hinv
    obtain ⟨u48, hinv⟩ := hinv
    obtain ⟨u49, hinv⟩ := hinv
    obtain ⟨u50, hinv⟩ := hinv
    obtain ⟨u51, hinv⟩ := hinv
    obtain ⟨u52, hinv⟩ := hinv
    obtain ⟨u53, hinv⟩ := hinv
    obtain ⟨⟨hj, hB, hS0, hb⟩, ha⟩ := hinv
    subst ha
    by_cases hlt : j < n1
    · have hlt' : (j : Int) < (n1 : Int) := by omega
      obtain ⟨M, hM⟩ : ∃ M, P.elig[j]? = some M := ⟨_, List.getElem?_eq_getElem (by rw [HL1.out]; exact hlt)⟩
      obtain ⟨b, o, X, rfl, hb2, hcX0, hS⟩ := pr.e1 j M hM
      obtain ⟨Av, nv, cv, hXe, hnc, hnv, hlv, hsvv, hrv⟩ := id hS
      obtain rfl : X = .slice Av nv cv := by simpa using hXe
      clear hXe
      have loww := low1.trans (hb.mono (Nat.le_of_lt hgA))
      have hcX : wr.cell? ⟨b, o + j, none⟩ = some (.slice Av nv cv) := (loww.cell (p := ⟨b, o + j, none⟩) hb2).trans hcX0
      have hSw : SetAt wr wr.heap.size (.agg #[.slice Av nv cv]) M := (hS.below loww).more loww.size
      have hor := orT_succ hM
      obtain ⟨O, hO⟩ : ∃ O, Hid (O = orT P j) := ⟨_, Lib.hid rfl⟩
      rw [← hO.out] at hS0 hor
      have HOR := Lib.hid hor
      have HS := Lib.hid hSw
      have HS0 := Lib.hid hS0
      have HB := Lib.hid hB
      clear hM hlv pr hS hsvv hrv hSw hcX0 hB hS0 hor loww
      gi_upto_region 7 with (fail)
      have bA := bAl (Below.refl wr.heap.size wr) (.cells #[.slice Av nv cv] 63)
      have hSv := HS.out.on bA
      have hSo := HS0.out.on bA
      have kB := HB.out.on bA
      have ks := Blk.new wr 63 #[.slice Av nv cv]
      have hgr : gA < wr.heap.size := HB.out.lt
      have b2 := hb.trans (bA.mono (Nat.le_of_lt hgr))
      clear bA HS HS0 HB hcX hb
      generalize (wr.alloc (.cells #[.slice Av nv cv] 63)) = W2 at hSv hSo kB ks b2 ⊢
      have z0 : W2.cell? ⟨gA, 0, none⟩ = some (.slice A n c) := (kB.cell 0).trans rfl
      have z1 : W2.cell? ⟨wr.heap.size, 0, none⟩ = some (.slice Av nv cv) := (ks.cell 0).trans rfl
      have hor := or_any _ _ _ _ W2 hSo hSv
      gi_wp2
      refine ⟨trivial, (callsIn_wide.2 hor).mono ?_⟩
      rintro e W3 ⟨v3, rfl, s3, b3⟩
      obtain ⟨A3', n3', c3', rfl, s3'⟩ : ∃ A n c, v3 = .agg #[.slice A n c] ∧ SetAt W3 W3.heap.size (.agg #[.slice A n c]) (O ||| M) := by
        obtain ⟨A, n, c, e, h1, h2, h3, h4, h5⟩ := s3
        exact ⟨A, n, c, e, ⟨A, n, c, rfl, h1, h2, h3, h4, h5⟩⟩
      have kB3 := kB.on b3
      have b23 := b2.trans (b3.mono (Nat.le_of_lt kB.lt))
      have f3 := kB3.frozen 0
      have z3 : W3.cell? ⟨gA, 0, none⟩ = some (.slice A n c) := (kB3.cell 0).trans rfl
      have R8 : Hid (j + 1 ≤ n1 ∧ Blk (W3.setCell ⟨gA, 0, none⟩ (.slice A3' n3' c3')) gA 63 #[.slice A3' n3' c3'] ∧ SetAt (W3.setCell ⟨gA, 0, none⟩ (.slice A3' n3' c3')) (W3.setCell ⟨gA, 0, none⟩ (.slice A3' n3' c3')).heap.size (.agg #[.slice A3' n3' c3']) (orT P (j + 1)) ∧ Below gA W1 (W3.setCell ⟨gA, 0, none⟩ (.slice A3' n3' c3'))) := Lib.hid ⟨hlt, by simpa using kB3.put 0 (.slice A3' n3' c3'), by rw [HOR.out, setCell_size]; exact s3'.far kB3 (by decide), b23.setCell (p := ⟨gA, 0, none⟩) (Nat.le_refl _) _⟩
      clear z0 z1 hor s3 s3' hSv hSo kB ks b2 b3 kB3 b23
      gi_wp2
      exact ⟨⟨j + 1, A3', n3', c3', _, _, _, _, _, _, _, _, _, _, _, _, _, _, _, _, _, _, _, _, _, _, _, _, _, _, _, _, _, _, _, _, _, _, _, _, _, _, _, _, _, _, _, _, _, _, _, _, R8.out, rfl⟩, by simp [intOf]; omega⟩
    · obtain rfl : j = n1 := by omega
      have hlt' : ¬ (j : Int) < (j : Int) := by omega
      have hS0 : SetAt wr wr.heap.size (.agg #[.slice A n c]) (unionA P) := by rw [← orT_all HL1.out]; exact hS0
      gi_wp2
      exact HN.out wr A n c _ _ _ _ _ _ _ _ _ _ _ _ _ _ _ _ _ _ _ _ _ _ _ _ _ _ _ _ _ _ _ _ _ _ _ _ _ _ _ _ _ _ _ _ _ _ _ _ _ _ _ hB hS0 hb
end Go.Proofs.YtfnhaoindehjdaaDoor
/- Critical. (gencrit.py) -/
namespace Go.Proofs.YtfnhaoindehjdaaDoor
open Go.RowKit
set_option linter.unusedVariables false
set_option linter.unusedSimpArgs false
attribute [local go_sem] Oper.semAt_some

theorem crit_split : critBody = .seq (headC critBody) (.seq (critPart 1) (.seq (critPart 2) (.seq (critPart 3) (.seq (critPart 4) (.seq (critPart 5) (tailC 6 critBody)))))) := by kernel_rfl
theorem crit5 : critPart 5 = .seq (headC (critPart 5)) (.block 2 critRf) := by kernel_rfl
set_option maxHeartbeats 8000000 in
set_option maxRecDepth 100000 in
/-- Critical. -/
theorem critical_any (p : PrV) (P : Pr) (w : World) (h : PrAt w w.heap.size p P) (hT : Tab w) (hs : chkP P = 0 → SmP P) :
    Calls Tryd.prog 23 #[p.v] w fun e w' => ∃ A n c, e = .returned (.slice A n c) ∧ OwnI w' w.heap.size (.slice A n c) n (critL P) ∧ Below w.heap.size w w' := by
  have hg0 : 0 < w.heap.size := World.block_lt_of_cell? w _ (hT 0 (by omega))
  have hsv := fun (W : World) (hW : Below w.heap.size w W) => solvable_any p P W ((h.below hW).more hW.size) (hT.below hW hg0) hs
  obtain ⟨⟨A1, n1, c1⟩, ⟨A2, n2, c2⟩, ⟨A3, n3, c3⟩, ⟨A4, n4, c4⟩, ⟨A5, n5, c5⟩⟩ := p
  unfold PrV.v Sl.v at hsv ⊢
  simp only [] at hsv ⊢
  have hl1 : P.elig.length = n1 := h.l1
  have k0 := Blk.new w 32 #[.slice A1 n1 c1, .slice A2 n2 c2, .slice A3 n3 c3, .slice A4 n4 c4, .slice A5 n5 c5]
  have b0 := bAl (Below.refl w.heap.size w) (.cells #[.slice A1 n1 c1, .slice A2 n2 c2, .slice A3 n3 c3, .slice A4 n4 c4, .slice A5 n5 c5] 32)
  have H := Lib.hid h
  refine (callsIn_wide (n := 5)).1 ?_
  refine callsIn_of_wp_marks (c := critBody) Tryd.func23 rfl trivial ?_ rfl
  simp only [Tryd.ntmps23, List.size_toArray, List.length_cons, List.length_nil, Nat.reduceAdd, Nat.reduceSub, Array.replicate_succ, Array.replicate_zero, List.push_toArray, List.append_toArray, List.nil_append, List.cons_append]
  rw [crit_split]
  cases hvv : solvB P
  · rw [hvv] at hsv
    have e : critL P = [] := by unfold critL; rw [hvv]; rfl
    rw [e]
    clear hvv e hs h
    gi_wp2
    conv => arg 4; whnf
    gi_wp2
    generalize (w.alloc (.cells #[.slice A1 n1 c1, .slice A2 n2 c2, .slice A3 n3 c3, .slice A4 n4 c4, .slice A5 n5 c5] 32)) = W1 at k0 b0 ⊢
    have x0 : W1.cell? ⟨w.heap.size, 0, none⟩ = some (.slice A1 n1 c1) := (k0.cell 0).trans rfl
    have x1 : W1.cell? ⟨w.heap.size, 1, none⟩ = some (.slice A2 n2 c2) := (k0.cell 1).trans rfl
    have x2 : W1.cell? ⟨w.heap.size, 2, none⟩ = some (.slice A3 n3 c3) := (k0.cell 2).trans rfl
    have x3 : W1.cell? ⟨w.heap.size, 3, none⟩ = some (.slice A4 n4 c4) := (k0.cell 3).trans rfl
    have x4 : W1.cell? ⟨w.heap.size, 4, none⟩ = some (.slice A5 n5 c5) := (k0.cell 4).trans rfl

    have hk1 := hsv W1 b0
    conv => arg 4; whnf
    gi_wp2
    refine ⟨trivial, (callsIn_wide.2 hk1).mono ?_⟩
    rintro e W2 ⟨rfl, bb⟩
    have b1 := b0.trans (bb.mono b0.size)
    clear hk1 hsv x0 x1 x2 x3 x4 bb
    gi_wp2
    refine retMt rfl rfl [] rfl (OpenM.nil _ 0) ⟨none, 0, 0, rfl, OwnI.nil _ _, b1⟩
  · rw [hvv] at hsv
    have hc : chkP P = 0 := by
      unfold solvB at hvv
      simp at hvv
      exact hvv.1
    have sm := hs hc
    have ok := chkP_ok hc
    have hn5 : n1 ≤ 5 := by rw [← hl1]; exact sm.1
    have hM : ∀ x, x ∈ memM (unionA P) → 1 ≤ x ∧ x ≤ 256 := fun x hx => union_user ok hx
    have eL : critL P = ((memM (unionA P)).map fun x : Nat => (x : Int)).filter (ckB P) := by unfold critL; rw [hvv]; rfl
    obtain ⟨L, hL⟩ : ∃ L, Hid (L = critL P) := ⟨_, Lib.hid rfl⟩
    rw [← hL.out]
    have EL := Lib.hid eL
    have HM := Lib.hid hM
    have HC := Lib.hid hc
    clear hvv hs h hl1 eL hM hc ok
    gi_wp2
    conv => arg 4; whnf
    gi_wp2
    generalize (w.alloc (.cells #[.slice A1 n1 c1, .slice A2 n2 c2, .slice A3 n3 c3, .slice A4 n4 c4, .slice A5 n5 c5] 32)) = W1 at k0 b0 ⊢
    have x0 : W1.cell? ⟨w.heap.size, 0, none⟩ = some (.slice A1 n1 c1) := (k0.cell 0).trans rfl
    have x1 : W1.cell? ⟨w.heap.size, 1, none⟩ = some (.slice A2 n2 c2) := (k0.cell 1).trans rfl
    have x2 : W1.cell? ⟨w.heap.size, 2, none⟩ = some (.slice A3 n3 c3) := (k0.cell 2).trans rfl
    have x3 : W1.cell? ⟨w.heap.size, 3, none⟩ = some (.slice A4 n4 c4) := (k0.cell 3).trans rfl
    have x4 : W1.cell? ⟨w.heap.size, 4, none⟩ = some (.slice A5 n5 c5) := (k0.cell 4).trans rfl

    have hk1 := hsv W1 b0
    conv => arg 4; whnf
    gi_wp2
    refine ⟨trivial, (callsIn_wide.2 hk1).mono ?_⟩
    rintro e W2 ⟨rfl, bb⟩
    have b1 := b0.trans (bb.mono b0.size)
    have k1 := k0.on bb
    clear hk1 hsv x0 x1 x2 x3 x4 bb k0 b0
    gi_wp2
    conv => arg 4; whnf
    gi_wp2
    have bA := bAl (Below.refl W2.heap.size W2) (.cells #[.slice none 0 0] 63)
    have k3 := k1.on bA
    have b3 := b1.trans (bA.mono b1.size)
    have kA := Blk.new W2 63 #[.slice none 0 0]
    have hgA : w.heap.size < W2.heap.size := k1.lt
    clear k1 bA
    generalize (W2.alloc (.cells #[.slice none 0 0] 63)) = W3 at k3 b3 kA ⊢
    refine crit_or H.out hn5 W3 b3 k3 hgA kA _ _ _ _ _ _ _ _ _ _ _ _ _ _ _ _ _ _ _ _ _ _ _ _ _ _ _ _ _ _ _ _ _ _ _ _ _ _ _ _ _ _ _ _ _ _ _ _ _ _ _ _ ?_
    intro W4 Av nv cv u2 u4 u5 u6 u7 u8 u9 u10 u11 u12 u13 u14 u15 u16 u17 u18 u19 u20 u21 u22 u23 u24 u25 u26 u27 u28 u29 u30 u31 u32 u33 u34 u35 u36 u37 u38 u39 u40 u41 u42 u43 u44 u45 u46 u47 u48 u49 u50 u51 u52 u53 kA4 sA4 b4
    have k4 := k3.below b4 hgA
    have b14 := b3.trans (b4.mono (Nat.le_of_lt hgA))
    clear b3 k3 kA b4
    simp only [Exit.then]
    gi_wp2
    conv => arg 4; whnf
    gi_wp2
    obtain ⟨Av', nv', cv', eX, hnc, hnv, hlv, hss, _⟩ := id sA4
    injection eX with eX
    obtain ⟨rfl, rfl, rfl⟩ : Av' = Av ∧ nv' = nv ∧ cv' = cv := by simp at eX; exact ⟨eX.1.symm, eX.2.1.symm, eX.2.2.symm⟩
    have bA := bAl (Below.refl W4.heap.size W4) (.cells #[.slice none 0 0] 30)
    have k5 := k4.on bA
    have b5 := b14.trans (bA.mono b14.size)
    have kA5 := kA4.on bA
    have kO5 := Blk.new W4 30 #[.slice none 0 0]
    have s5 := hss.below bA
    have zO : (W4.alloc (.cells #[.slice none 0 0] 30)).heap.size = W4.heap.size + 1 := by simp
    have hgO : w.heap.size ≤ W4.heap.size := b14.size
    clear sA4 k4 b14 kA4 hss eX
    generalize (W4.alloc (.cells #[.slice none 0 0] 30)) = W5 at bA k5 b5 kA5 kO5 s5 zO ⊢
    have yA : W5.cell? ⟨W2.heap.size, 0, none⟩ = some (.slice Av' nv' cv') := (kA5.cell 0).trans rfl
    rw [crit5]
    gi_wp2
    conv => arg 4; whnf
    gi_wp2
    refine ⟨trivial, (allF_any _ _ _ _ trivial rfl).mono ?_⟩
    rintro e u0 ⟨rfl, rfl⟩
    have bB := bAl (Below.refl W5.heap.size W5) (.cells #[.slice Av' nv' cv'] 63)
    have k6 := k5.on bB
    have b6 := b5.trans (bB.mono b5.size)
    have kO6 := kO5.on bB
    have ka := Blk.new W5 63 #[.slice Av' nv' cv']
    have s6 := s5.below (bB.mono (by omega))
    clear k5 b5 kA5 kO5 s5 yA bA bB
    gi_wp2
    generalize (W5.alloc (.cells #[.slice Av' nv' cv'] 63)) = W6 at k6 b6 kO6 ka s6 ⊢
    have hcs : Cs w W6 P A1 A2 A3 A4 A5 n1 c1 n2 c2 n3 c3 n4 c4 n5 c5 W4.heap.size := ⟨hT, H.out, HC.out, sm, b6, k6, hgO, kO6⟩
    rw [zO] at ka
    refine crit_rf hcs (W4.heap.size + 1) (unionA P) HM.out Av' nv' cv' hnc hnv hlv s6 ((ka.cell 0).trans rfl) ka.lt _ _ _ _ _ _ _ _ _ _ _ _ _ _ _ _ _ _ _ _ _ _ _ _ _ _ _ _ _ _ _ _ _ _ _ _ _ _ _ _ _ _ _ _ _ _ _ _ _ _ _ ?_
    intro D W7 hD hC7 hDd
    obtain ⟨⟨A9, n9, c9, bO9, o9, _⟩, mv⟩ := hC7
    rw [← EL.out, ← hL.out] at o9
    have b7 : Below w.heap.size w W7 := b6.trans ((mv.below (Nat.le_of_lt kO6.lt) (Nat.le_refl _)).mono hgO)
    have o7 : OpenM W7 w.heap.size [D] := ⟨by simp, fun E hE => by obtain rfl : E = D := (by simpa using hE); exact ⟨Nat.le_trans b6.size hD, hDd⟩⟩
    have yO : W7.cell? ⟨W4.heap.size, 0, none⟩ = some (.slice A9 n9 c9) := (bO9.cell 0).trans rfl
    have O9 : OwnI (shut W7 [D]) w.heap.size (.slice A9 n9 c9) n9 L := by
      refine OwnI.same (OwnI.more o9 b6.size) fun j hj => shut_heap [D] W7 j fun hm => ?_
      obtain rfl : j = D := by simpa using hm
      obtain ⟨cs, hb, _⟩ := own_type o9 hj
      have h9 := hDd
      rw [show W7.heap[j]? = some (.cells cs 3 (0, 0)) from hb] at h9
      cases h9
    clear o9 bO9 mv hcs
    simp only [Exit.then]
    gi_wp2
    conv => arg 4; whnf
    gi_wp2
    refine retMt rfl rfl [D] rfl o7 ⟨_, _, _, rfl, O9, shut_below [D] w _ b7 o7⟩
end Go.Proofs.YtfnhaoindehjdaaDoor
