/- The walk of the laws' examples. -/
import Derived.Test.YtfbdfpnmopgkoaaDoorWireG
import Derived.Test.YtfbdfpnmopgkoaaDoorSrec
import Derived.Test.YtfbdfpnmopgkoaaDoorBitsE
import Derived.Test.YtfbdfpnmopgkoaaDoorRefA
namespace Go.Proofs.YtfbdfpnmopgkoaaDoor
open Go.RowKit
set_option linter.unusedVariables false
set_option linter.unusedSimpArgs false

theorem enc300 : enc 300 = [130, 44] := by
  unfold enc encR
  rw [show 300 / 128 = 2 from rfl, low_pos (by omega), show 2 / 128 = 0 from rfl, low_zero]; rfl
theorem enc_small {v : Nat} (h : v < 128) : enc v = [UInt8.ofNat v] := by
  unfold enc encR
  rw [show v / 128 = 0 by omega, low_zero, Nat.mod_eq_of_lt h]; rfl
theorem sb514 : sbytes (ofL [1, 9]) = [2, 2] := by
  have e : ofL [1, 9] = 514 := by decide +kernel
  rw [e]
  decide +kernel

/-- A writer is kept by what turns only a reader. -/
theorem WrAt.only {w w' : World} {base g gr : Nat} {v : Value} {l : List UInt8} (h : WrAt w base g v l) (ho : Only w w' gr) (hg : g ≠ gr) (hr : v.ownBlock ≠ some gr) : WrAt w' base g v l :=
  have hgb : w.grownBy w' (some gr) := ⟨ho.os, ho.tape, ho.output, ho.size, fun k hk hne => ho.block k hk (fun e => hne (by rw [e])) (by simp)⟩
  ⟨h.blk.only ho hg, h.own.kept hgb (.inr hr), Nat.le_trans h.base ho.size⟩
/-- A reader is kept by what turns only a writer made behind it. -/
theorem RdAt.moved {w w' : World} {gr g : Nat} {p : List UInt8} {e : Int} {r : Option Nat} (h : RdAt w gr p e) (hm : Mvd w w' g r) (hg : gr < g) (hr : ∀ k, r = some k → gr < k) : RdAt w' gr p e := by
  obtain ⟨A, n, c, h⟩ := h
  refine ⟨A, n, c, (hm.block gr h.blk.lt (by omega) (fun e => by have := hr gr e; omega)).trans h.blk, fun hn => ?_, h.len, h.room, h.big, h.low⟩
  obtain ⟨b, o, e, hb, hc⟩ := h.sees hn
  have hl : b < gr := h.low _ e
  exact ⟨b, o, e, Nat.lt_of_lt_of_le hb hm.size, fun j u hu => (World.cell?_of_block (a := ⟨b, o + j, none⟩) (hm.block b hb (by omega) (fun e => by have := hr b e; omega))).trans (hc j u hu)⟩

set_option maxRecDepth 100000 in
/-- awake. -/
theorem awake_any (w : World) : Calls Tryd.prog 5 #[] w fun e w' => e = .returned (.bool true) ∧ Below w.heap.size w w' := by
  go_enter Tryd.func5, Tryd.ntmps5
  go_wp2_with fail
  refine (newWriter_any w).mono ?_
  rintro e w1 ⟨rfl, h1, b1⟩
  go_wp2_with fail
  refine (wUint_any w.heap.size w.heap.size _ _ 300 w1 h1 (by omega) (by simp)).mono ?_
  rintro e w2 ⟨rfl, v2, h2, m2, r2⟩
  rw [List.nil_append, enc300] at h2
  have b2 : Below w.heap.size w w2 := b1.trans (m2.below h1.base (Nat.le_refl _) (fun k hk => by cases hk))
  go_wp2_with fail
  refine (wInt_any w.heap.size w.heap.size v2 _ (-3) w2 h2 (by omega) (by omega) (by simp)).mono ?_
  rintro e w3 ⟨rfl, v3, h3, m3, r3⟩
  rw [show zig (-3) = 5 from rfl, enc_small (by omega)] at h3
  have b3 : Below w.heap.size w w3 := b2.trans (m3.below h2.base (Nat.le_refl _) (fun k hk => (h2.own.lt k hk).1))
  go_wp2_with fail
  refine (wString_any w.heap.size w.heap.size v3 _ [97, 98] w3 h3 (by simp)).mono ?_
  rintro e w4 ⟨rfl, v4, h4, m4, r4⟩
  rw [show ([97, 98] : List UInt8).length = 2 from rfl, enc_small (by omega)] at h4
  have b4 : Below w.heap.size w w4 := b3.trans (m4.below h3.base (Nat.le_refl _) (fun k hk => (h3.own.lt k hk).1))
  have hs4 := b4.size
  have ba : Below w4.heap.size w4 (w4.alloc (.cells #[.int .i64 1, .int .i64 9] 3)) := (Below.refl _ _).alloc (Nat.le_refl _) _
  have sa : Sees (w4.alloc (.cells #[.int .i64 1, .int .i64 9] 3)) (w4.alloc (.cells #[.int .i64 1, .int .i64 9] 3)).heap.size (some ⟨w4.heap.size, 0, none⟩) (niv [1, 9]) := Sees.laid w4 _ _ _ _ rfl _ rfl
  go_wp2_with fail
  refine (of_any (some ⟨w4.heap.size, 0, none⟩) 2 2 [1, 9] _ sa rfl (by simp) (by omega)).mono ?_
  rintro e w5 ⟨v5, rfl, hs5, b5⟩
  have b45 : Below w4.heap.size w4 w5 := ba.trans (b5.mono (by simp))
  have h5 := h4.on b45
  go_wp2_with fail
  refine (wSet_any w.heap.size w.heap.size v4 v5 _ _ w5 h5 hs5 (by simp)).mono ?_
  rintro e w6 ⟨rfl, v6, h6, m6, r6⟩
  rw [sb514, show ([2, 2] : List UInt8).length = 2 from rfl, enc_small (by omega)] at h6
  have b6 : Below w.heap.size w w6 := (b4.trans (b45.mono hs4)).trans (m6.below h5.base (Nat.le_refl _) (fun k hk => (h5.own.lt k hk).1))
  have hs6 := b6.size
  have bb : Below w6.heap.size w6 (w6.alloc (.cells #[.int .u8 128, .int .u8 5] 5)) := (Below.refl _ _).alloc (Nat.le_refl _) _
  have sb : Sees (w6.alloc (.cells #[.int .u8 128, .int .u8 5] 5)) (w6.alloc (.cells #[.int .u8 128, .int .u8 5] 5)).heap.size (some ⟨w6.heap.size, 0, none⟩) (([128, 5] : List UInt8).map bv) := Sees.laid w6 _ _ _ _ rfl _ rfl
  go_wp2_with fail
  refine (newReader_any (some ⟨w6.heap.size, 0, none⟩) 2 2 [128, 5] _ sb rfl (by omega)).mono ?_
  rintro e w7 ⟨gr, rfl, hgr, hr7, b7⟩
  have b67 : Below w6.heap.size w6 w7 := bb.trans (b7.mono (by simp))
  have h7 := h6.on b67
  rw [World.size_alloc] at hgr
  go_wp2_with fail
  refine (rUint_any gr [128, 5] 1000 w7 hr7).mono ?_
  rintro e w8 ⟨rfl, hr8, m8⟩
  rw [show rdU 1000 [128, 5] = (0, [128, 5], 6) from by decide +kernel] at hr8 ⊢
  have hl6 := h6.blk.lt
  have h8 : WrAt w8 w.heap.size w.heap.size v6 _ := h7.only m8 (by omega) (fun e => by have := (h6.own.lt gr e).2; omega)
  have b8 : Below w.heap.size w w8 := (b6.trans (b67.mono hs6)).trans (m8.below h7.base (by omega) (fun k hk => by cases hk))
  go_wp2_with fail
  refine (out_any w.heap.size w.heap.size v6 _ w8 h8 (by simp)).mono ?_
  rintro e w9 ⟨A9, c9, rfl, o9, b9⟩
  have hbl : ([130, 44] ++ [UInt8.ofNat 5] ++ ([UInt8.ofNat 2] ++ [97, 98]) ++ ([UInt8.ofNat 2] ++ [2, 2]) : List UInt8) = [130, 44, 5, 2, 97, 98, 2, 2, 2] := rfl
  rw [hbl] at o9 ⊢
  have b89 : Below w.heap.size w w9 := b8.trans (b9.mono b8.size)
  have hr9 := hr8.on b9
  have sl : ∀ (cs : Array Value), cs.toList = ([130, 44, 5, 2, 97, 98, 2, 2, 2] : List UInt8).map bv → Sees (w9.alloc (.cells cs 5)) (w9.alloc (.cells cs 5)).heap.size (some ⟨w9.heap.size, 0, none⟩) (([130, 44, 5, 2, 97, 98, 2, 2, 2] : List UInt8).map bv) := fun cs hcs => Sees.laid w9 _ _ _ _ hcs _ rfl
  have bl : ∀ (cs : Array Value), Below w9.heap.size w9 (w9.alloc (.cells cs 5)) := fun cs => (Below.refl _ _).alloc (Nat.le_refl _) _
  go_wp2_with fail
  refine (same_any A9 (some ⟨w9.heap.size, 0, none⟩) 9 c9 9 9 _ _ _ (o9.on (bl _)).sees (sl _ rfl) rfl rfl).mono ?_
  rintro e w10 ⟨rfl, rfl⟩
  rw [decide_eq_true rfl]
  go_wp2_with fail
  refine (err_any gr _ 6 _ (hr9.on (bl _))).mono ?_
  rintro e w10 ⟨rfl, rfl⟩
  go_wp2_with fail
  refine (left_any gr _ 6 _ (hr9.on (bl _))).mono ?_
  rintro e w10 ⟨rfl, rfl⟩
  go_wp2_with fail
  go_ret
  exact ⟨rfl, b89.alloc b89.size _⟩
end Go.Proofs.YtfbdfpnmopgkoaaDoor
