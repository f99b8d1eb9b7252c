/- The walk of bits.Set's Without. -/
import Derived.Test.YtcnofhlgiffkjaaGreatDoorSa
import Derived.Test.YtcnofhlgiffkjaaGreatDoorPc
import Derived.Test.YtcnofhlgiffkjaaGreatDoorPk
import Derived.Test.YtcnofhlgiffkjaaGreatDoorRfA
import Derived.Deep.CutRange
namespace Go.Proofs.YtcnofhlgiffkjaaGreatDoor
open Go.RowKit
set_option linter.unusedVariables false
set_option linter.unusedSimpArgs false

theorem wd_clr_other {M i k : Nat} (h : k ≠ i / 64) : wd (clrU M i) k = wd M k := by
  refine Nat.eq_of_testBit_eq fun r => ?_
  rw [wd_bit, wd_bit, clrU_bit]
  by_cases hr : r < 64
  · have : ¬ 64 * k + r = i := by omega
    simp [this]
  · simp [hr]
theorem wd_clr_same (M i : Nat) : wd (clrU M i) (i / 64) = clrU (wd M (i / 64)) (i % 64) := by
  refine Nat.eq_of_testBit_eq fun r => ?_
  rw [wd_bit, clrU_bit, clrU_bit, wd_bit]
  by_cases hr : r < 64
  · by_cases h : r = i % 64
    · have : 64 * (i / 64) + r = i := by omega
      simp [h, this]
      intro _ _
      omega
    · have : ¬ 64 * (i / 64) + r = i := by omega
      simp [h, this]
  · simp [hr]
theorem andNot_clr {x r : Nat} (hx : x < 18446744073709551616) (hr : r < 64) : bits BinOp.andNot IntKind.u64 (x : Int) ((1 <<< r : Nat) : Int) = ((clrU x r : Nat) : Int) := by
  have hb : 1 <<< r < 18446744073709551616 := by
    have : 2 ^ r < 2 ^ 64 := Nat.pow_lt_pow_right (by omega) hr
    rw [Nat.shiftLeft_eq, Nat.one_mul]; omega
  have h1 : (BitVec.ofInt 64 (x : Int)).toNat = x := by
    rw [BitVec.ofInt_natCast, BitVec.toNat_ofNat]; exact Nat.mod_eq_of_lt (by omega)
  have h2 : (BitVec.ofInt 64 ((1 <<< r : Nat) : Int)).toNat = 1 <<< r := by
    rw [BitVec.ofInt_natCast, BitVec.toNat_ofNat]; exact Nat.mod_eq_of_lt (by omega)
  have h3 : (BitVec.ofInt 64 (x : Int) &&& ~~~(BitVec.ofInt 64 ((1 <<< r : Nat) : Int))).toNat = x &&& (18446744073709551615 - 1 <<< r) := by
    rw [BitVec.toNat_and, BitVec.toNat_not, h1, h2]
  show IntKind.u64.wrap ((BitVec.ofInt 64 (x : Int) &&& ~~~(BitVec.ofInt 64 ((1 <<< r : Nat) : Int))).toNat : Int) = _
  rw [h3, IntKind.wrap_u64]
  have hle : x &&& (18446744073709551615 - 1 <<< r) ≤ x := Nat.and_le_left
  have he : x &&& (18446744073709551615 - 1 <<< r) = clrU x r := by
    refine Nat.eq_of_testBit_eq fun i => ?_
    have hbit : (18446744073709551615 - 1 <<< r).testBit i = (decide (i < 64) && !(1 <<< r).testBit i) := by
      have := Nat.testBit_two_pow_sub_succ (n := 64) (x := 1 <<< r) (by omega) i
      rw [show 2 ^ 64 - (1 <<< r + 1) = 18446744073709551615 - 1 <<< r by omega] at this
      exact this
    rw [Nat.testBit_and, hbit, clrU_bit, Nat.one_shiftLeft, Nat.testBit_two_pow]
    by_cases hi : i < 64
    · by_cases h : i = r
      · subst h; simp
      · simp [hi, h, Ne.symm h]
    · rw [Nat.testBit_lt_two_pow (Nat.lt_of_lt_of_le (show x < 2 ^ 64 by omega) (Nat.pow_le_pow_right (by decide) (Nat.not_lt.1 hi)))]
      rfl
  rw [he]
  rw [he] at hle
  omega
/-- trim of a row that lies in a block. -/
theorem trimO_any (g n c M : Nat) (w : World) (h : Sees w w.heap.size (some ⟨g, 0, none⟩) ((fx 64 n M).map wv)) (hb : ∃ cs, Blk w g 70 cs) (hn : n ≤ 64) (hnc : n ≤ c) (hcm : c ≤ maxLen) (hM : len2 64 M ≤ n) :
    Calls Tryz.prog 54 #[.slice (some ⟨g, 0, none⟩) n c] w fun e w' => ∃ v', e = .returned v' ∧ SetAt w' w'.heap.size v' M ∧ Below w.heap.size w w' := by
  unfold maxLen at hcm
  have bA : Below w.heap.size w (w.alloc (.cells #[.slice none 0 0] 63)) := (Below.refl _ _).alloc (Nat.le_refl _) _
  have h1 := h.on bA
  have bR := Blk.new w 63 #[.slice none 0 0]
  obtain ⟨cs, hb⟩ := hb
  have hg := hb.lt
  go_enter Tryz.func54, Tryz.ntmps54
  go_wp2_with fail
  go_loop [0] (fun v0 => ∃ k : Nat, v0 = .slice (some ⟨g, 0, none⟩) k c ∧ k ≤ n ∧ Hid (len2 64 M ≤ k)) (fun v0 => match v0 with | .slice _ k _ => k | _ => 0)
  case atStart => exact ⟨n, rfl, Nat.le_refl _, Lib.hid hM⟩
  case round =>
    obtain ⟨k, rfl, hk, HM⟩ := hrel
    have fin : ∀ k, k ≤ n → len2 64 M = k → ∀ w', w' = (w.alloc (.cells #[.slice (some ⟨g, 0, none⟩) k c] 63)) → SetAt w' w'.heap.size (.agg #[.slice (some ⟨g, 0, none⟩) k c]) M ∧ Below w.heap.size w w' := by
      rintro k hk hl w' rfl
      have bB : Below w.heap.size w (w.alloc (.cells #[.slice (some ⟨g, 0, none⟩) k c] 63)) := (Below.refl _ _).alloc (Nat.le_refl _) _
      have h2 := h.on bB
      refine ⟨⟨_, k, c, rfl, by omega, by omega, hl, ?_, fun b o e _ => ?_⟩, bB⟩
      · have hs := h2.take_ k
        rw [← List.map_take] at hs
        have e : (fx 64 n M).take k = dg 64 M := by
          rw [fx_pad (by omega) hM, hl, List.take_append_of_le_length (by rw [dg_length, hl]; exact Nat.le_refl _), List.take_of_length_le (by rw [dg_length, hl]; exact Nat.le_refl _)]
        rw [e] at hs
        exact hs
      · injection e with e
        injection e with e
        subst e
        exact ⟨_, hb.on bB⟩
    by_cases hk0 : k = 0
    · have hk0' : ¬ 0 < (k : Int) := by omega
      have hl0 : len2 64 M = k := by have := HM.out; omega
      subst hk0
      obtain ⟨f1, f2⟩ := fin 0 hk hl0 _ rfl
      clear fin hl0
      go_wp2_with fail
      exact ret_set rfl w.heap.size _ rfl (Blk.new _ _ _) rfl ⟨_, rfl, f1, f2⟩
    · obtain ⟨j, rfl⟩ : ∃ j, k = j + 1 := ⟨k - 1, by omega⟩
      have hj0 : 0 < ((j + 1 : Nat) : Int) := by omega
      have hj1 : ((j + 1 : Nat) : Int) - 1 = (j : Int) := by omega
      have hj2 : (j : Int) < ((j + 1 : Nat) : Int) := by omega
      obtain ⟨x, hx⟩ : ∃ x, x = M / 2 ^ (64 * j) % 2 ^ 64 := ⟨_, rfl⟩
      have hz := top_zero HM.out
      rw [← hx] at hz
      obtain ⟨b9, o9, e9, _, hc⟩ := h1.word (k := j) (x := x) (by rw [hx]; exact fx_get (by omega))
      injection e9 with e9
      injection e9 with e91 e92
      subst e91 e92
      simp only [Nat.zero_add] at hc
      have Hx := Lib.hid hx
      have Hz := Lib.hid hz
      have hjc : (j : Int) ≤ (c : Int) := by omega
      clear hx hz
      by_cases hx0 : x = 0
      · have hxb : ((x : Int) == 0) = true := by rw [hx0]; rfl
        have hl := Hz.out.1 hx0
        have HL := Lib.hid hl
        clear hx0 fin hl
        go_wp2_with fail
        go_round
        case rel => exact ⟨j, rfl, by omega, HL⟩
        case measure => show j < j + 1; omega
      · have hxb : ((x : Int) == 0) = false := beq_false_of_ne (by omega)
        have hl : len2 64 M = j + 1 := by
          have := HM.out
          have : ¬ len2 64 M ≤ j := fun h => hx0 (Hz.out.2 h)
          omega
        obtain ⟨f1, f2⟩ := fin (j + 1) hk hl _ rfl
        clear fin hl hx0
        go_wp2_with fail
        exact ret_set rfl w.heap.size _ rfl (Blk.new _ _ _) rfl ⟨_, rfl, f1, f2⟩
theorem clr_same {M i : Nat} (h : M.testBit i = false) : clrU M i = M := by unfold clrU; rw [if_neg (by simp [h])]
theorem clr_len {M i n : Nat} (h : len2 64 M = n) : len2 64 (clrU M i) ≤ n := by
  rw [len2_le (by decide)]
  exact clrU_lt ((len2_le (by decide)).1 (Nat.le_of_eq h))
theorem clr_fx {M i n : Nat} (h : i / 64 < n) : fx 64 n (clrU M i) = (fx 64 n M).set (i / 64) (clrU (wd M (i / 64)) (i % 64)) := by
  rw [fx_setw h fun j _ hne => wd_clr_other hne, wd_clr_same]
theorem bit_len {M i n : Nat} (h : M.testBit i = true) (hn : len2 64 M = n) : i / 64 < n := by
  have h1 : M < 2 ^ (64 * n) := (len2_le (by decide)).1 (Nat.le_of_eq hn)
  have h2 := bit_lt h1 h
  omega
theorem wpL_appW (w : World) {ops : Array Oper} {rest : List Oper} {o : Oper} {a : Act} {Q : Exit → Act → World → Prop} (hgd : o.guard = none) (s x : Operand)
    (ho : o.op = .call { callee := .builtin .append, args := #[s, x], argTypes := #[27, 27] })
    (base : Nat) (v : Value) (n : Nat) (l : List Nat) (hs : a.eval s = v) (hown : w.ownsRow base 70 1 v n (l.map wv))
    (B : Nat) (A : Option Addr) (m c : Nat) (l2 : List Nat) (hx : a.eval x = .slice A m c) (hl : l2.length = m) (hr : Sees w B A (l2.map wv))
    (hbytes : n + m ≤ 1000000000000) (hbase : base ≤ w.heap.size) (n' : Nat) (hn' : n + m = n') (l' : List Nat) (hl' : l ++ l2 = l')
    (h : ∀ A' c' w', w'.ownsRow base 70 1 (.slice A' n' c') n' (l'.map wv) → w.grownBy w' v.ownBlock → ((Value.slice A' n' c').ownBlock = v.ownBlock ∨ (Value.slice A' n' c').ownBlock = some w.heap.size) →
      wpList Tryz.prog ops Q rest (a.put o.dst (.slice A' n' c')) w') : wpList Tryz.prog ops Q (o :: rest) a w := by
  obtain ⟨i0, hi0, hz0, hz1, hz2⟩ := info_parts u64_info
  exact wpList_append_sees w hgd s x _ ho base _ i0 _ 1 8 Tryz.underlying27 hi0 hz0 hz1 hz2 rfl (by omega) v n _ hs hown B A m c _ hx (by simpa using hl) hr (oneCell_wv l2)
    (by unfold maxLen; omega) (by omega) hbase n' hn' _ (by rw [← hl', List.map_append]) h
set_option maxHeartbeats 4000000 in
set_option maxRecDepth 100000 in
/-- Set.Without. -/
theorem without_any (v : Value) (M i : Nat) (w : World) (h : SetAt w w.heap.size v M) (hi : i < 4096) :
    Calls Tryz.prog 89 #[v, .int .i64 (i : Int)] w fun e w' => ∃ v', e = .returned v' ∧ SetAt w' w'.heap.size v' (clrU M i) ∧ Below w.heap.size w w' := by
  have hi0 : (0 : Int) ≤ (i : Int) := by omega
  have hi1 : (i : Int) < 4096 := by omega
  have hi2 : (i : Int) ≤ 4095 := by omega
  have hs := h
  have hhas := fun w' h => has_any v M i w' h hi
  obtain ⟨A, n, c, rfl, h1, h2, h4, s, _⟩ := h
  have H4 := Lib.hid h4
  clear h4
  by_cases ht : M.testBit i = true
  · rw [ht] at hhas
    obtain ⟨q, hq, hqn⟩ : ∃ q : Nat, (i : Int) / 64 = (q : Int) ∧ Hid (q = i / 64) := ⟨i / 64, by omega, Lib.hid rfl⟩
    obtain ⟨r, hr, hrn⟩ : ∃ r : Nat, (i : Int) % 64 = (r : Int) ∧ Hid (r = i % 64) := ⟨i % 64, by omega, Lib.hid rfl⟩
    have hr64 : r < 64 := by rw [hrn.out]; omega
    have hqn1 : q < n := by rw [hqn.out]; exact bit_len ht H4.out
    have hqn2 : (q : Int) < (n : Int) := by omega
    obtain ⟨x, hxv, hx⟩ : ∃ x : Nat, Hid (x = M / 2 ^ (64 * q) % 2 ^ 64) ∧ x < 18446744073709551616 := ⟨_, Lib.hid rfl, Nat.mod_lt _ (by omega)⟩
    obtain ⟨p, hp1, hp2, hp3⟩ := bit_u64 hr64
    clear ht
    go_enter Tryz.func89, Tryz.ntmps89
    go_wp2_with fail
    refine (hhas _ (hs.on (((Below.refl _ _).alloc (Nat.le_refl _) _).alloc (by simp) _))).mono ?_
    rintro e w1 ⟨rfl, bw⟩
    have b0 := ((Blk.new w 63 #[.slice A n c]).alloc (.cells #[.slice none 0 0] 63)).on bw
    have b1 := (Blk.new (w.alloc (.cells #[.slice A n c] 63)) 63 #[.slice none 0 0]).on bw
    have c0 := b0.cell 0
    simp at c0
    have B0 := Lib.hid b0
    have B1 := Lib.hid b1
    clear b0 b1
    have bw' : Below w.heap.size w w1 := (((Below.refl _ _).alloc (Nat.le_refl _) _).alloc (by simp) _).trans (bw.mono (by simp; omega))
    have hg2 := bw.size
    simp at hg2
    have s1 := s.below bw'
    have hn1 : w.heap.size ≠ w1.heap.size := by omega
    have hn2 : w1.heap.size ≠ w.heap.size := by omega
    have hA := bAl (Below.refl w1.heap.size w1) (.cells #[] 70)
    have s2 := s1.below (hA.mono bw'.size)
    have hM4 : (w1.alloc (.cells #[] 70)).ownsRow w1.heap.size 70 1 (.slice (some ⟨w1.heap.size, 0, none⟩) 0 0) 0 (([] : List Nat).map wv) := World.ownsRow_made _ _ _ (Nat.le_refl _) (by unfold maxLen; omega) rfl
    have hz4 : w1.heap.size ≤ (w1.alloc (.cells #[] 70)).heap.size := by simp
    have c0' : (w1.alloc (.cells #[] 70)).cell? ⟨w.heap.size, 0, none⟩ = some (.slice A n c) := ((B0.out.on hA).cell 0).trans rfl
    go_upto_region 4 with (at_builtin; refine wpL_appW _ rfl (.tmp 11) (.tmp 13) rfl w1.heap.size _ 0 [] rfl hM4 _ A n c (dg 64 M) rfl (by rw [dg_length, H4.out]) s2 (by omega) hz4 n (by omega) (dg 64 M) rfl ?_; intro A5 c5 w5 o5 g5 k5)
    have b5 : Below w1.heap.size w1 w5 := below_app hA hz4 hM4 g5
    obtain ⟨g, cs, eA, hgB, hblk⟩ := own_blk o5 (by omega)
    subst eA
    obtain ⟨_, _, e9, hnc5, hcm5, _⟩ := own_form o5
    injection e9 with e91 e92 e93
    subst e93
    clear e91 e92
    clear hM4 s2 hA hz4 g5 k5
    have so : Sees w5 w5.heap.size (some ⟨g, 0, none⟩) ((fx 64 n M).map wv) := by
      have h9 := Sees.own o5 (by omega)
      rw [show dg 64 M = fx 64 n M by unfold dg; rw [H4.out]] at h9
      exact h9
    obtain ⟨b9, o9, e9, _, hc5⟩ := so.word (k := q) (x := x) (by rw [fx_get hqn1, hxv.out])
    injection e9 with e9
    injection e9 with e91 e92
    subst e91 e92
    simp only [Nat.zero_add] at hc5
    have hf5 := hblk.frozen q
    have hqw : IntKind.i64.wrap (q : Int) = (q : Int) := by rw [IntKind.wrap_i64]; omega
    have hrw : IntKind.i64.wrap (r : Int) = (r : Int) := by rw [IntKind.wrap_i64]; omega
    have hqw1 : 0 ≤ IntKind.i64.wrap (q : Int) ∧ IntKind.i64.wrap (q : Int) < (n : Int) := by rw [hqw]; omega
    have hrt : (i : Int).tmod 64 = (r : Int) := by rw [Int.tmod_eq_emod_of_nonneg hi0]; exact hr
    have hqt : (i : Int).tdiv 64 = (q : Int) := by rw [Int.tdiv_eq_ediv_of_nonneg hi0]; exact hq
    go_region
    have hcl : bits BinOp.andNot IntKind.u64 (x : Int) (p : Int) = ((clrU x r : Nat) : Int) := by rw [hp1.out]; exact andNot_clr hx hr64
    rw [hcl]
    have hb4 : Blk (w5.setCell ⟨g, q, none⟩ (.int .u64 ((clrU x r : Nat) : Int))) g 70 (cs.setIfInBounds q (.int .u64 ((clrU x r : Nat) : Int))) := hblk.put q _
    have so4 : (w5.setCell ⟨g, q, none⟩ (.int .u64 ((clrU x r : Nat) : Int))).ownsRow w1.heap.size 70 1 (.slice (some ⟨g, 0, none⟩) n c5) n ((fx 64 n (clrU M i)).map wv) := by
      have h9 := (World.ownsRow.stored o5 q (.int .u64 ((clrU x r : Nat) : Int))).1
      rw [clr_fx (by rw [← hqn.out]; exact hqn1), ← hqn.out, ← hrn.out, List.map_set, show wd M q = x from hxv.out.symm]
      rw [show dg 64 M = fx 64 n M by unfold dg; rw [H4.out]] at h9
      exact h9
    have b1' := ((B1.out.on (b5)).far (p := ⟨g, q, none⟩) (by simp; omega) (Value.int IntKind.u64 ((clrU x r : Nat) : Int)))
    have bw4 : Below w.heap.size w (w5.setCell ⟨g, q, none⟩ (Value.int IntKind.u64 ((clrU x r : Nat) : Int))).drew := ((bw'.trans (b5.mono bw'.size)).setCell (by show w.heap.size ≤ g; omega) _).drew
    have hsee : Sees (w5.setCell ⟨g, q, none⟩ (.int .u64 ((clrU x r : Nat) : Int))).drew (w5.setCell ⟨g, q, none⟩ (.int .u64 ((clrU x r : Nat) : Int))).drew.heap.size (some ⟨g, 0, none⟩) ((fx 64 n (clrU M i)).map wv) := Sees.drew (Sees.own so4 (by omega))
    have hb5 : ∃ cs, Blk (w5.setCell ⟨g, q, none⟩ (.int .u64 ((clrU x r : Nat) : Int))).drew g 70 cs := ⟨_, hb4.drewN 1⟩
    have b6 := b1'.drewN 1
    have hsz : (w.alloc (Obj.cells #[Value.slice A n c] 63)).heap.size = w.heap.size + 1 := by simp
    rw [hsz] at b6
    have htr := trimO_any g n c5 (clrU M i) _ hsee hb5 h2 hnc5 hcm5 (clr_len H4.out)
    have b6' : Blk (w5.setCell ⟨g, q, none⟩ (.int .u64 ((clrU x r : Nat) : Int))).drew (w.heap.size + 1) 63 #[.slice none 0 0] := b6
    clear b6 hb4 so4 b1' hsee hb5 hcl so o5 hc5 hf5 hqw hrw hqw1 hrt hqt c0 c0' hblk
    generalize (w5.setCell ⟨g, q, none⟩ (.int .u64 ((clrU x r : Nat) : Int))).drew = w6 at bw4 htr b6' ⊢
    go_wp2_with fail
    refine htr.mono ?_
    rintro e w7 ⟨v', rfl, hS7, b7⟩
    obtain ⟨A7, n7, c7, rfl, hS7'⟩ := hS7
    have b8 := b6'.on b7
    have c8 := b8.cell 0
    have f8 := b8.frozen 0
    simp at c8 f8
    have bw7 := bw4.trans (b7.mono bw4.size)
    have B8 := Lib.hid b8
    have S8 : SetAt w7 w7.heap.size (.agg #[.slice A7 n7 c7]) (clrU M i) := ⟨A7, n7, c7, rfl, hS7'⟩
    have S9 := Lib.hid S8
    clear S8 hS7' htr b6' b7 b8
    go_wp2_with fail
    refine ret_set rfl (w.heap.size + 1) (.slice A7 n7 c7) rfl ?_ rfl ?_
    · have := B8.out.put 0 (.slice A7 n7 c7)
      simpa using this
    have b9 : Below w.heap.size w (w7.setCell ⟨w.heap.size + 1, 0, none⟩ (.slice A7 n7 c7)) := bw7.setCell (by simp) _
    have S10 := S9.out.far (i := 0) (u := .slice A7 n7 c7) B8.out (by decide)
    exact ⟨_, rfl, S10.more (by simp), b9⟩
  · have ht' : M.testBit i = false := by simpa using ht
    rw [ht'] at hhas
    have HM := Lib.hid (clr_same ht')
    clear ht ht'
    go_enter Tryz.func89, Tryz.ntmps89
    go_wp2_with fail
    refine (hhas _ (hs.on (((Below.refl _ _).alloc (Nat.le_refl _) _).alloc (by simp) _))).mono ?_
    rintro e w1 ⟨rfl, bw⟩
    have b0 := ((Blk.new w 63 #[.slice A n c]).alloc (.cells #[.slice none 0 0] 63)).on bw
    have b1 := (Blk.new (w.alloc (.cells #[.slice A n c] 63)) 63 #[.slice none 0 0]).on bw
    have c0 := b0.cell 0
    have c1 := b1.cell 0
    have f1 := b1.frozen 0
    simp at c0 c1 f1
    have B0 := Lib.hid b0
    have B1 := Lib.hid b1
    clear b0 b1
    go_wp2_with fail
    refine ret_set rfl (w.heap.size + 1) (.slice A n c) rfl ?_ rfl ?_
    · have := B1.out.put 0 (.slice A n c)
      simpa using this
    have bw' : Below w.heap.size w w1 := (((Below.refl _ _).alloc (Nat.le_refl _) _).alloc (by simp) _).trans (bw.mono (by simp; omega))
    have bw2 : Below w.heap.size w (w1.setCell ⟨w.heap.size + 1, 0, none⟩ (.slice A n c)) := bw'.setCell (by simp) _
    rw [HM.out]
    exact ⟨_, rfl, hs.on bw2, bw2⟩
end Go.Proofs.YtcnofhlgiffkjaaGreatDoor
