/- The walk of bits.Set's With. -/
import Derived.Test.YtfnhaoindehjdaaDoorPb
import Derived.Test.YtfnhaoindehjdaaDoorPa
namespace Go.Proofs.YtfnhaoindehjdaaDoor
open Go.RowKit
set_option linter.unusedVariables false
set_option linter.unusedSimpArgs false

set_option maxRecDepth 100000 in
/-- Set.With. -/
theorem with_any (v : Value) (M i : Nat) (w : World) (h : SetAt w w.heap.size v M) (hi : i < 4096) :
    Calls Tryd.prog 33 #[v, .int .i64 (i : Int)] w fun e w' => ∃ v', e = .returned v' ∧ SetAt w' w'.heap.size v' (M ||| 1 <<< i) ∧ Below w.heap.size w w' := by
  have hi0 : (0 : Int) ≤ (i : Int) := by omega
  have hi1 : (i : Int) < 4096 := by omega
  have hi2 : (i : Int) ≤ 4095 := by omega
  have hs := h
  have hhas := fun w' h => has_any v M i w' h hi
  obtain ⟨A, n, c, rfl, h1, h2, h4, s, _⟩ := h
  have H4 := Lib.hid h4
  clear h4
  by_cases ht : M.testBit i = true
  · rw [ht] at hhas
    have HM := Lib.hid (or_same ht)
    clear ht
    go_enter Tryd.func33, Tryd.ntmps33
    go_wp2_with fail
    refine (hhas _ (hs.on (((Below.refl _ _).alloc (Nat.le_refl _) _).alloc (by simp) _))).mono ?_
    rintro e w1 ⟨rfl, bw⟩
    have b0 := ((Blk.new w 63 #[.slice A n c]).alloc (.cells #[.slice none 0 0] 63)).on bw
    have b1 := (Blk.new (w.alloc (.cells #[.slice A n c] 63)) 63 #[.slice none 0 0]).on bw
    have c0 := b0.cell 0
    have c1 := b1.cell 0
    have f1 := b1.frozen 0
    simp at c0 c1 f1
    have B0 := Lib.hid b0
    have B1 := Lib.hid b1
    clear b0 b1
    go_wp2_with fail
    refine ret_set rfl (w.heap.size + 1) (.slice A n c) rfl ?_ rfl ?_
    · have := B1.out.put 0 (.slice A n c)
      simpa using this
    have bw' : Below w.heap.size w w1 := (((Below.refl _ _).alloc (Nat.le_refl _) _).alloc (by simp) _).trans (bw.mono (by simp; omega))
    have bw2 : Below w.heap.size w (w1.setCell ⟨w.heap.size + 1, 0, none⟩ (.slice A n c)) := bw'.setCell (by simp) _
    rw [HM.out]
    exact ⟨_, rfl, hs.on bw2, bw2⟩
  · have ht' : M.testBit i = false := by simpa using ht
    rw [ht'] at hhas
    clear ht ht'
    obtain ⟨q, hq, hqn⟩ : ∃ q : Nat, (i : Int) / 64 = (q : Int) ∧ Hid (q = i / 64) := ⟨i / 64, by omega, Lib.hid rfl⟩
    obtain ⟨r, hr, hrn⟩ : ∃ r : Nat, (i : Int) % 64 = (r : Int) ∧ Hid (r = i % 64) := ⟨i % 64, by omega, Lib.hid rfl⟩
    have hr64 : r < 64 := by rw [hrn.out]; omega
    obtain ⟨n', hn', hn1, hn2, hn3, hn4, hn5⟩ : ∃ n' : Nat, Hid (n' = max (len2 64 M) (i / 64 + 1)) ∧ n' ≤ 64 ∧ n ≤ n' ∧ max (n : Int) ((q : Int) + 1) = (n' : Int) ∧ (q : Int) < (n' : Int) ∧ q < n' := by
      have := hqn.out
      exact ⟨max n (q + 1), Lib.hid (by rw [H4.out, hqn.out]), by omega, by omega, by omega, by omega, by omega⟩
    obtain ⟨x, hxv, hx⟩ : ∃ x : Nat, Hid (x = M / 2 ^ (64 * q) % 2 ^ 64) ∧ x < 18446744073709551616 := ⟨_, Lib.hid rfl, Nat.mod_lt _ (by omega)⟩
    obtain ⟨p, hp1, hp2, hp3⟩ := bit_u64 hr64
    go_enter Tryd.func33, Tryd.ntmps33
    go_wp2_with fail
    refine (hhas _ (hs.on (((Below.refl _ _).alloc (Nat.le_refl _) _).alloc (by simp) _))).mono ?_
    rintro e w1 ⟨rfl, bw⟩
    have b0 := ((Blk.new w 63 #[.slice A n c]).alloc (.cells #[.slice none 0 0] 63)).on bw
    have b1 := (Blk.new (w.alloc (.cells #[.slice A n c] 63)) 63 #[.slice none 0 0]).on bw
    have c0 := b0.cell 0
    have c1 := b1.cell 0
    have f1 := b1.frozen 0
    simp at c0 c1 f1
    have B0 := Lib.hid b0
    have B1 := Lib.hid b1
    clear b0 b1
    have bw' : Below w.heap.size w w1 := (((Below.refl _ _).alloc (Nat.le_refl _) _).alloc (by simp) _).trans (bw.mono (by simp; omega))
    have hg2 := bw.size
    simp at hg2
    go_wp2_with (first
      | (refine wpL_mkW _ rfl _ _ rfl _ _ n' rfl rfl (by omega) (by omega) (by omega) ?_
         intro w2 G2 bw2 z2
         have c0' := (bw2.cell (p := ⟨w.heap.size, 0, none⟩) (by show w.heap.size < _; omega)).trans c0
         have s2 := s.on (bw'.trans (bw2.mono bw'.size)))
      | (refine wpL_copyW _ rfl _ _ rfl w1.heap.size n' n' n c A (dg 64 M) rfl rfl (by rw [dg_length, H4.out]) hn2 G2.out _ s2 w1.heap.size w1 bw2 (Nat.le_refl _) ?_
         intro w3 G3 bw3
         have G3' : Hid (Blk w3 w1.heap.size 112 ((fx 64 n' M).map wv).toArray) := by rw [fx_pad (by omega) (by rw [H4.out]; exact hn2), H4.out]; exact G3
         clear G3
         have hc3 := G3'.out.wcell (fx_get (k := q) hn5)
         rw [← hxv.out] at hc3
         have hf3 := G3'.out.frozen q))
    have hqw : IntKind.i64.wrap (q : Int) = (q : Int) := by rw [IntKind.wrap_i64]; omega
    have hrw : IntKind.i64.wrap (r : Int) = (r : Int) := by rw [IntKind.wrap_i64]; omega
    have hqw1 : 0 ≤ IntKind.i64.wrap (q : Int) ∧ IntKind.i64.wrap (q : Int) < (n' : Int) := by rw [hqw]; omega
    have hrt : (i : Int).tmod 64 = (r : Int) := by rw [Int.tmod_eq_emod_of_nonneg hi0]; exact hr
    have hqt : (i : Int).tdiv 64 = (q : Int) := by rw [Int.tdiv_eq_ediv_of_nonneg hi0]; exact hq
    simp only [Act.put, goInt]
    go_region
    have hor : bits BinOp.or IntKind.u64 (x : Int) (p : Int) = ((x ||| p : Nat) : Int) := bits_or_u64_nat x p hx hp2
    have b1' := (B1.out.on bw3).far (p := ⟨w1.heap.size, q, none⟩) (by simp; omega) (Value.int IntKind.u64 (bits BinOp.or IntKind.u64 (x : Int) (p : Int)))
    have bw4 : Below w.heap.size w ((w3.setCell ⟨w1.heap.size, q, none⟩ (Value.int IntKind.u64 (bits BinOp.or IntKind.u64 (x : Int) (p : Int)))).drew) := ((bw'.trans (bw3.mono bw'.size)).setCell (by show w.heap.size ≤ w1.heap.size; omega) _).drew
    have hL : (fx 64 n' M).set q (x ||| p) = fx 64 n' (M ||| 1 <<< i) := by
      rw [hxv.out, hp1.out, hqn.out, hrn.out, ← fx_bit]
    have hb4 := G3'.out.wset q (x ||| p)
    rw [← hor, hL] at hb4
    have hb4 := hb4.drewN 1
    generalize hW4 : (w3.setCell ⟨w1.heap.size, q, none⟩ (Value.int IntKind.u64 (bits BinOp.or IntKind.u64 (x : Int) (p : Int)))).drew = w4
    rw [hW4] at bw4
    have b4 : Blk w4 w1.heap.size 112 ((fx 64 n' (M ||| 1 <<< i)).map wv).toArray := by rw [← hW4]; exact hb4
    have b4' : Blk w4 (w.alloc (Obj.cells #[Value.slice A n c] 63)).heap.size 63 #[Value.slice none 0 0] := by rw [← hW4]; exact b1'.drewN 1
    have c4 := b4'.cell 0
    have f4 := b4'.frozen 0
    simp at c4 f4
    have hne : w1.heap.size ≠ w.heap.size + 1 := by omega
    have B4 := Lib.hid b4
    have B4' := Lib.hid b4'
    clear b4 b4' hb4 b1'
    go_wp2_with fail
    refine ret_set rfl (w.heap.size + 1) (.slice (some ⟨w1.heap.size, 0, none⟩) n' n') rfl ?_ rfl ?_
    · have := B4'.out.put 0 (.slice (some ⟨w1.heap.size, 0, none⟩) n' n')
      simpa using this
    have b5 := B4.out.far (p := ⟨w.heap.size + 1, 0, none⟩) hne (.slice (some ⟨w1.heap.size, 0, none⟩) n' n')
    exact ⟨_, rfl, SetAt.blk b5 (by rw [or_len, hn'.out]) hn1, bw4.setCell (by show w.heap.size ≤ w.heap.size + 1; omega) _⟩
end Go.Proofs.YtfnhaoindehjdaaDoor
