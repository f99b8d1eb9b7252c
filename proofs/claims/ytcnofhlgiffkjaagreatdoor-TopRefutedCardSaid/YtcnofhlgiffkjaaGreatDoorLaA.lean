/- Matrices of one element, a one: what the awake check meets. (genla.py) -/
import Derived.Test.YtcnofhlgiffkjaaGreatDoorPb
import Derived.Test.YtcnofhlgiffkjaaGreatDoorPc
import Derived.Test.YtcnofhlgiffkjaaGreatDoorPk
import Derived.Deep.CutBlock
namespace Go.Proofs.YtcnofhlgiffkjaaGreatDoor
open Go.RowKit
set_option linter.unusedVariables false
set_option linter.unusedSimpArgs false

/-- The matrix in block g has one row and one column, and a one there. -/
structure MxAt (w : World) (g : Nat) : Prop where
  ex : ∃ b o c A n k, w.cell? ⟨g, 0, none⟩ = some (.int .i64 1) ∧ w.cell? ⟨g, 1, none⟩ = some (.slice (some ⟨b, o, none⟩) 1 c) ∧ w.cell? ⟨b, o, none⟩ = some (.slice A n k) ∧ SetAt w w.heap.size (.agg #[.slice A n k]) 1
theorem MxAt.on {w w' : World} {g : Nat} (h : MxAt w g) (hb : Below w.heap.size w w') : MxAt w' g := by
  obtain ⟨b, o, c, A, n, k, h1, h2, h3, h4⟩ := h.ex
  exact ⟨b, o, c, A, n, k, (hb.cell (p := ⟨g, 0, none⟩) (World.block_lt_of_cell? w _ h1)).trans h1, (hb.cell (p := ⟨g, 1, none⟩) (World.block_lt_of_cell? w _ h2)).trans h2, (hb.cell (p := ⟨b, o, none⟩) (World.block_lt_of_cell? w _ h3)).trans h3, h4.on hb⟩
theorem rows1 (g : Nat) (w : World) (h : MxAt w g) : Calls Tryz.prog 101 #[.pointer (some ⟨g, 0, none⟩)] w fun e w' => e = .returned (.int .i64 1) ∧ w = w' := by
  obtain ⟨b, o, c, A, n, k, h1, h2, h3, h4⟩ := h.ex
  clear h h4
  go_enter Tryz.func101, Tryz.ntmps101
  go_wp2_with fail
  go_ret
  exact ⟨rfl, rfl⟩
theorem cols1 (g : Nat) (w : World) (h : MxAt w g) : Calls Tryz.prog 88 #[.pointer (some ⟨g, 0, none⟩)] w fun e w' => e = .returned (.int .i64 1) ∧ w = w' := by
  obtain ⟨b, o, c, A, n, k, h1, h2, h3, h4⟩ := h.ex
  clear h h4
  go_enter Tryz.func88, Tryz.ntmps88
  go_wp2_with fail
  go_ret
  exact ⟨rfl, rfl⟩
theorem inside1 (g i j : Nat) (w : World) (h : MxAt w g) (hi : i < 1) (hj : j < 1) : Calls Tryz.prog 107 #[.pointer (some ⟨g, 0, none⟩), .int .i64 (i : Int), .int .i64 (j : Int)] w fun e w' => e = .returned (.bool true) ∧ w = w' := by
  have hr := rows1 g w h
  have hc := cols1 g w h
  have i0 : (0 : Int) ≤ (i : Int) := by omega
  have i1 : (i : Int) < 1 := by omega
  have j0 : (0 : Int) ≤ (j : Int) := by omega
  have j1 : (j : Int) < 1 := by omega
  clear h
  go_enter Tryz.func107, Tryz.ntmps107
  go_wp2_with fail
  refine hr.mono ?_
  rintro e w1 ⟨rfl, rfl⟩
  go_wp2_with fail
  refine hc.mono ?_
  rintro e w1 ⟨rfl, rfl⟩
  go_wp2_with fail
  go_ret
  exact ⟨rfl, rfl⟩
theorem mhas1 (g i j : Nat) (w : World) (h : MxAt w g) (hi : i < 1) (hj : j < 1) : Calls Tryz.prog 106 #[.pointer (some ⟨g, 0, none⟩), .int .i64 (i : Int), .int .i64 (j : Int)] w fun e w' => e = .returned (.bool true) ∧ Below w.heap.size w w' := by
  have hin := inside1 g i j w h hi hj
  obtain ⟨b, o, c, A, n, k, h1, h2, h3, h4⟩ := h.ex
  have hh := has_any _ 1 j w h4 (by omega)
  rw [show (1 : Nat).testBit j = true by obtain rfl : j = 0 := by omega
                                         rfl] at hh
  have i1 : (i : Int) < 1 := by omega
  have h3i : w.cell? ⟨b, o + i, none⟩ = some (.slice A n k) := by obtain rfl : i = 0 := by omega
                                                                  exact h3
  clear h h4 h3
  go_enter Tryz.func106, Tryz.ntmps106
  go_wp2_with fail
  refine hin.mono ?_
  rintro e w1 ⟨rfl, rfl⟩
  go_wp2_with fail
  refine hh.mono ?_
  rintro e w1 ⟨rfl, hb⟩
  go_wp2_with fail
  go_ret
  exact ⟨rfl, hb⟩
theorem row1 (g i : Nat) (w : World) (h : MxAt w g) (hi : i < 1) : Calls Tryz.prog 103 #[.pointer (some ⟨g, 0, none⟩), .int .i64 (i : Int)] w fun e w' => ∃ v', e = .returned v' ∧ SetAt w' w'.heap.size v' 1 ∧ Below w.heap.size w w' := by
  have i0 : ¬ (i : Int) < 0 := by omega
  have i1 : (i : Int) < 1 := by omega
  have i2 : ¬ (1 : Int) ≤ (i : Int) := by omega
  have bR : Below w.heap.size w (w.alloc (.cells #[.slice none 0 0] 63)) := bAl (Below.refl _ _) _
  have kR := Blk.new w 63 #[.slice none 0 0]
  have hr := rows1 g _ (h.on bR)
  obtain ⟨b, o, c, A, n, k, h1, h2, h3, h4⟩ := h.ex
  have h3i : w.cell? ⟨b, o + i, none⟩ = some (.slice A n k) := by obtain rfl : i = 0 := by omega
                                                                  exact h3
  have hl1 := World.block_lt_of_cell? w _ h1
  have hl2 := World.block_lt_of_cell? w _ h3
  clear h h3
  go_enter Tryz.func103, Tryz.ntmps103
  go_wp2_with fail
  refine hr.mono ?_
  rintro e w1 ⟨rfl, rfl⟩
  go_wp2_with fail
  refine ret_set rfl w.heap.size (.slice A n k) rfl (Blk.new w 63 #[.slice A n k]) rfl ?_
  have bS := bAl (Below.refl w.heap.size w) (.cells #[.slice A n k] 63)
  exact ⟨_, rfl, h4.on bS, bS⟩
set_option maxHeartbeats 4000000 in
set_option maxRecDepth 100000 in
theorem column1 (g j : Nat) (w : World) (h : MxAt w g) (hj : j < 1) : Calls Tryz.prog 104 #[.pointer (some ⟨g, 0, none⟩), .int .i64 (j : Int)] w fun e w' => ∃ v', e = .returned v' ∧ SetAt w' w'.heap.size v' 1 ∧ Below w.heap.size w w' := by
  have bR : Below w.heap.size w (w.alloc (.cells #[.slice none 0 0] 63)) := bAl (Below.refl _ _) _
  have kR := Blk.new w 63 #[.slice none 0 0]
  have h2 := h.on bR
  have zR : (w.alloc (.cells #[.slice none 0 0] 63)).heap.size = w.heap.size + 1 := by simp
  clear h
  go_enter Tryz.func104, Tryz.ntmps104
  go_upto_region 1 with fail
  generalize (w.alloc (.cells #[.slice none 0 0] 63)) = w1 at bR kR h2 zR ⊢
  have hr := rows1 g w1 h2
  have hgw : w.heap.size ≤ w1.heap.size := by omega
  have hlt0 : w.heap.size < w1.heap.size := by omega
  clear zR
  go_wp2_with fail
  refine hr.mono ?_
  rintro e w1' ⟨rfl, rfl⟩
  go_wp2_with fail
  go_loopw [5, 9] (fun v5 v9 wr => ∃ (k : Nat) (A : Option Addr) (c : Nat), k ≤ 1 ∧ v9 = .int .i64 (k : Int) ∧ v5 = .slice A k c ∧ OwnI wr w1.heap.size (.slice A k c) k ((List.range k).map fun x : Nat => (x : Int)) ∧ Below w1.heap.size w1 wr) (fun _ v9 _ => 1 - (intOf v9).toNat)
  case atStart => exact ⟨0, none, 0, Nat.zero_le _, rfl, rfl, OwnI.nil _ _, Below.refl _ _⟩
  case round =>
    obtain ⟨k, A, c, hk, rfl, rfl, ho, hB⟩ := hrel
    by_cases hlt : k < 1
    · have hlt' : (k : Int) < 1 := by omega
      have hh := mhas1 g k j wr (h2.on hB) hlt hj
      go_wp2_with fail
      refine hh.mono ?_
      rintro e w3 ⟨rfl, b3⟩
      have b4 := hB.trans (b3.mono hB.size)
      have o4 : OwnI w3 w1.heap.size (.slice A k c) k ((List.range k).map fun x : Nat => (x : Int)) := OwnI.on ho b3
      have hz4 := b4.size
      have o4' : w3.ownsRow w1.heap.size 3 1 (.slice A k c) k (((List.range k).map fun x : Nat => (x : Int)).map iv) := o4
      go_wp2_with (at_builtin; refine wpL_row1 3 30 _ 1 8 int_info Tryz.underlying30 rfl (by omega) (by omega) _ rfl (.tmp 16) (.tmp 18) rfl w3 w1.heap.size _ k _ rfl o4' #[.int .i64 (k : Int)] rfl _ rfl rfl rfl (by simp [Value.oneCell']) (by omega) hz4 (k + 1) rfl ?_; intro A9 c9 w9 o9 g9 b9 _)
      go_roundw
      case rel => exact ⟨k + 1, A9, c9, by omega, by go_num, rfl, (by show World.ownsRow _ _ _ _ _ _ _; rw [List.range_succ, List.map_append, List.map_append]; exact o9), b4.trans b9⟩
      case measure => simp [intOf]; omega
    · obtain rfl : k = 1 := by omega
      have hof := of_any A 1 c [0] wr (OwnI.sees ho) rfl (by simp) (by omega)
      have kR2 := kR.below hB hlt0
      have c2 := kR2.cell 0
      have f2 := kR2.frozen 0
      go_wp2_with fail
      refine hof.mono ?_
      rintro e w3 ⟨v', rfl, hS, b3⟩
      have kR3 := kR2.on b3
      obtain ⟨A3, n3, c3, rfl, _⟩ := id hS
      have c3' := kR3.cell 0
      have f3 := kR3.frozen 0
      go_wp2_with fail
      have kS := kR3.put 0 (.slice A3 n3 c3)
      refine ret_set rfl w.heap.size (.slice A3 n3 c3) rfl (by simpa using kS) rfl ?_
      have b5 := (bR.trans (hB.mono hgw)).trans (b3.mono (Nat.le_trans hgw hB.size))
      exact ⟨_, rfl, hS.off kR3 _, b5.setCell (p := ⟨w.heap.size, 0, none⟩) (Nat.le_refl _) _⟩
theorem one_len : len2 64 1 = 1 := by decide
theorem one_dg : dg 64 1 = [1] := by decide
set_option maxHeartbeats 8000000 in
set_option maxRecDepth 100000 in
/-- And of two sets that hold 0 alone. -/
theorem and1 (v o : Value) (w : World) (h : SetAt w w.heap.size v 1) (ho : SetAt w w.heap.size o 1) :
    Calls Tryz.prog 102 #[v, o] w fun e w' => ∃ v', e = .returned v' ∧ SetAt w' w'.heap.size v' 1 ∧ Below w.heap.size w w' := by
  obtain ⟨A, n, c, rfl, hnc, hn, hl, hs, _⟩ := h
  obtain ⟨A2, n2, c2, rfl, _, hn2, hl2, hs2, _⟩ := ho
  obtain rfl : n = 1 := by rw [← hl, one_len]
  obtain rfl : n2 = 1 := by rw [← hl2, one_len]
  rw [one_dg] at hs hs2
  obtain ⟨b, o, rfl, hb, hcb⟩ := hs (by simp)
  obtain ⟨b2, o2, rfl, hb2, hcb2⟩ := hs2 (by simp)
  replace hcb := hcb 0 (.int .u64 1) rfl
  replace hcb2 := hcb2 0 (.int .u64 1) rfl
  clear hs hs2 hl hl2
  have bA : Below w.heap.size w (w.alloc (.cells #[.slice (some ⟨b, o, none⟩) 1 c] 63)) := bAl (Below.refl _ _) _
  have bB := bAl bA (.cells #[.slice (some ⟨b2, o2, none⟩) 1 c2] 63)
  have bC := bAl bB (.cells #[.slice none 0 0] 63)
  have kA := ((Blk.new w 63 #[.slice (some ⟨b, o, none⟩) 1 c]).alloc (.cells #[.slice (some ⟨b2, o2, none⟩) 1 c2] 63)).alloc (.cells #[.slice none 0 0] 63)
  have kB := (Blk.new (w.alloc (.cells #[.slice (some ⟨b, o, none⟩) 1 c] 63)) 63 #[.slice (some ⟨b2, o2, none⟩) 1 c2]).alloc (.cells #[.slice none 0 0] 63)
  have kC := Blk.new ((w.alloc (.cells #[.slice (some ⟨b, o, none⟩) 1 c] 63)).alloc (.cells #[.slice (some ⟨b2, o2, none⟩) 1 c2] 63)) 63 #[.slice none 0 0]
  have z2 : ((w.alloc (.cells #[.slice (some ⟨b, o, none⟩) 1 c] 63)).alloc (.cells #[.slice (some ⟨b2, o2, none⟩) 1 c2] 63)).heap.size = w.heap.size + 2 := by simp
  rw [World.size_alloc] at kB
  rw [z2] at kC
  have z3 : (((w.alloc (.cells #[.slice (some ⟨b, o, none⟩) 1 c] 63)).alloc (.cells #[.slice (some ⟨b2, o2, none⟩) 1 c2] 63)).alloc (.cells #[.slice none 0 0] 63)).heap.size = w.heap.size + 3 := by simp
  go_enter Tryz.func102, Tryz.ntmps102
  go_upto_region 1 with fail
  generalize (((w.alloc (.cells #[.slice (some ⟨b, o, none⟩) 1 c] 63)).alloc (.cells #[.slice (some ⟨b2, o2, none⟩) 1 c2] 63)).alloc (.cells #[.slice none 0 0] 63)) = W3 at bC kA kB kC z3 ⊢
  clear bA bB z2
  have xA := kA.cell 0
  have xB := kB.cell 0
  replace xA : W3.cell? ⟨w.heap.size, 0, none⟩ = some (.slice (some ⟨b, o, none⟩) 1 c) := xA
  replace xB : W3.cell? ⟨w.heap.size + 1, 0, none⟩ = some (.slice (some ⟨b2, o2, none⟩) 1 c2) := xB
  have hmin : min (1 : Int) 1 = 1 := by omega
  go_wp2_with (refine wpL_mkW _ rfl _ _ rfl _ _ 1 rfl rfl (by first | rfl | omega) (by first | rfl | omega) (by omega) ?_; intro w4 G4 bw4 hz4)
  have G4 := G4.out
  have hz4 := hz4.out
  have bw := bC.trans (bw4.mono bC.size)
  obtain ⟨gw, hgw⟩ : ∃ gw, gw = w.heap.size + 3 := ⟨_, rfl⟩
  rw [z3, ← hgw] at G4
  rw [← hgw]
  have hg3 : W3.heap.size ≤ gw := by omega
  have hg2 : w.heap.size + 2 < W3.heap.size := by omega
  clear hgw z3 hz4
  have kC4 := kC.on bw4
  have kA4 := kA.on bw4
  have kB4 := kB.on bw4
  go_loopw [17] (fun i wr => ∃ k : Nat, k ≤ 1 ∧ i = .int .i64 (k : Int) ∧ Hid (Blk wr gw 70 ((fx 64 1 (1 % 2 ^ (64 * k))).map wv).toArray) ∧ Below W3.heap.size W3 wr) (fun i _ => 1 - (intOf i).toNat)
  case atStart => exact ⟨0, Nat.zero_le _, rfl, Lib.hid G4, bw4⟩
  case round =>
    obtain ⟨k, hk, rfl, G, hB⟩ := hrel
    by_cases hlt : k < 1
    · have hlt' : (k : Int) < 1 := by omega
      have y1 : wr.cell? ⟨w.heap.size, 0, none⟩ = some (.slice (some ⟨b, o, none⟩) 1 c) := ((kA.on hB).cell 0).trans rfl
      have y2 : wr.cell? ⟨w.heap.size + 1, 0, none⟩ = some (.slice (some ⟨b2, o2, none⟩) 1 c2) := ((kB.on hB).cell 0).trans rfl
      have bwr := bC.trans (hB.mono bC.size)
      have y3 : wr.cell? ⟨b, o + k, none⟩ = some (.int .u64 1) := by obtain rfl : k = 0 := by omega
                                                                     exact (bwr.cell (p := ⟨b, o + 0, none⟩) hb).trans hcb
      have y4 : wr.cell? ⟨b2, o2 + k, none⟩ = some (.int .u64 1) := by obtain rfl : k = 0 := by omega
                                                                       exact (bwr.cell (p := ⟨b2, o2 + 0, none⟩) hb2).trans hcb2
      have G' := G.out
      have y5 : wr.cell? ⟨gw, k, none⟩ = some (.int .u64 0) := by obtain rfl : k = 0 := by omega
                                                                  exact (G'.cell 0).trans rfl
      have y6 := G'.frozen k
      have hand : bits .and .u64 1 1 = 1 := by decide
      go_upto_region 5 with fail
      obtain ⟨SS, hSS⟩ : ∃ S : World → Prop, S = (fun W => W.cell? ⟨w.heap.size, 0, none⟩ = some (.slice (some ⟨b, o, none⟩) 1 c) ∧ W.cell? ⟨w.heap.size + 1, 0, none⟩ = some (.slice (some ⟨b2, o2, none⟩) 1 c2) ∧ W.cell? ⟨b, o + k, none⟩ = some (.int .u64 1) ∧ W.cell? ⟨b2, o2 + k, none⟩ = some (.int .u64 1)) := ⟨_, rfl⟩
      refine wp_region_F (fun i => decide (14 ≤ i)) SS (by kernel_rfl) (by rw [hSS]; exact ⟨y1, y2, y3, y4⟩) (fun hHeld => ?_)
      have G' : Blk wr.drew gw 70 _ := G'
      have y5 : wr.drew.cell? ⟨gw, k, none⟩ = some (.int .u64 0) := y5
      have y6 : wr.drew.frozen? ⟨gw, k, none⟩ = false := y6
      have hB := hB.drew
      clear y1 y2 y3 y4 G
      generalize wr.drew = u1 at G' y5 y6 hB hHeld ⊢
      refine wpAnyF_take (i := 0) (v := ?_) rfl (by kernel_rfl) (by kernel_rfl) (by kernel_rfl) (by kernel_rfl) (fun _ _ _ h => h) hHeld (Or.inl ⟨by rfl, ?_⟩) ?_
      rotate_left
      · (intro w hSw; (try rw [hSS] at hSw); (try dsimp only at hSw); go_simp; try with_reducible rfl)
      try simp only [Act.put, List.getElem_toArray, List.getElem_cons_zero, List.getElem_cons_succ, List.setIfInBounds_toArray, List.set_cons_zero, List.set_cons_succ]
      refine wpAnyF_take (i := 1) (v := ?_) rfl (by kernel_rfl) (by kernel_rfl) (by kernel_rfl) (by kernel_rfl) (fun _ _ _ h => h) hHeld (Or.inl ⟨by rfl, ?_⟩) ?_
      rotate_left
      · (intro w hSw; (try rw [hSS] at hSw); (try dsimp only at hSw); go_simp; try with_reducible rfl)
      try simp only [Act.put, List.getElem_toArray, List.getElem_cons_zero, List.getElem_cons_succ, List.setIfInBounds_toArray, List.set_cons_zero, List.set_cons_succ]
      refine wpAnyF_take (i := 2) (v := ?_) rfl (by kernel_rfl) (by kernel_rfl) (by kernel_rfl) (by kernel_rfl) (fun _ _ _ h => h) hHeld (Or.inl ⟨by rfl, ?_⟩) ?_
      rotate_left
      · (intro w hSw; (try rw [hSS] at hSw); (try dsimp only at hSw); go_simp; try with_reducible rfl)
      try simp only [Act.put, List.getElem_toArray, List.getElem_cons_zero, List.getElem_cons_succ, List.setIfInBounds_toArray, List.set_cons_zero, List.set_cons_succ]
      refine wpAnyF_take (i := 3) (v := ?_) rfl (by kernel_rfl) (by kernel_rfl) (by kernel_rfl) (by kernel_rfl) (fun _ _ _ h => h) hHeld (Or.inl ⟨by rfl, ?_⟩) ?_
      rotate_left
      · (intro w hSw; (try rw [hSS] at hSw); (try dsimp only at hSw); go_simp; try with_reducible rfl)
      try simp only [Act.put, List.getElem_toArray, List.getElem_cons_zero, List.getElem_cons_succ, List.setIfInBounds_toArray, List.set_cons_zero, List.set_cons_succ]
      refine wpAnyF_take (i := 4) (v := ?_) rfl (by kernel_rfl) (by kernel_rfl) (by kernel_rfl) (by kernel_rfl) (fun _ _ _ h => h) hHeld (Or.inl ⟨by rfl, ?_⟩) ?_
      rotate_left
      · (intro w hSw; (try rw [hSS] at hSw); (try dsimp only at hSw); go_simp; try with_reducible rfl)
      try simp only [Act.put, List.getElem_toArray, List.getElem_cons_zero, List.getElem_cons_succ, List.setIfInBounds_toArray, List.set_cons_zero, List.set_cons_succ]
      refine wpAnyF_take (i := 5) (v := ?_) rfl (by kernel_rfl) (by kernel_rfl) (by kernel_rfl) (by kernel_rfl) (fun _ _ _ h => h) hHeld (Or.inl ⟨by rfl, ?_⟩) ?_
      rotate_left
      · (intro w hSw; (try rw [hSS] at hSw); (try dsimp only at hSw); go_simp; try with_reducible rfl)
      try simp only [Act.put, List.getElem_toArray, List.getElem_cons_zero, List.getElem_cons_succ, List.setIfInBounds_toArray, List.set_cons_zero, List.set_cons_succ]
      refine wpAnyF_take (i := 6) (v := ?_) rfl (by kernel_rfl) (by kernel_rfl) (by kernel_rfl) (by kernel_rfl) (fun _ _ _ h => h) hHeld (Or.inl ⟨by rfl, ?_⟩) ?_
      rotate_left
      · (intro w hSw; (try rw [hSS] at hSw); (try dsimp only at hSw); go_simp; try with_reducible rfl)
      try simp only [Act.put, List.getElem_toArray, List.getElem_cons_zero, List.getElem_cons_succ, List.setIfInBounds_toArray, List.set_cons_zero, List.set_cons_succ]
      refine wpAnyF_take (i := 7) (v := ?_) rfl (by kernel_rfl) (by kernel_rfl) (by kernel_rfl) (by kernel_rfl) (fun _ _ _ h => h) hHeld (Or.inl ⟨by rfl, ?_⟩) ?_
      rotate_left
      · (intro w hSw; (try rw [hSS] at hSw); (try dsimp only at hSw); go_simp; try with_reducible rfl)
      try simp only [Act.put, List.getElem_toArray, List.getElem_cons_zero, List.getElem_cons_succ, List.setIfInBounds_toArray, List.set_cons_zero, List.set_cons_succ]
      refine wpAnyF_take (i := 8) (v := ?_) rfl (by kernel_rfl) (by kernel_rfl) (by kernel_rfl) (by kernel_rfl) (fun _ _ _ h => h) hHeld (Or.inl ⟨by rfl, ?_⟩) ?_
      rotate_left
      · (intro w hSw; (try rw [hSS] at hSw); (try dsimp only at hSw); go_simp; try with_reducible rfl)
      try simp only [Act.put, List.getElem_toArray, List.getElem_cons_zero, List.getElem_cons_succ, List.setIfInBounds_toArray, List.set_cons_zero, List.set_cons_succ]
      refine wpAnyF_take (i := 9) (v := ?_) rfl (by kernel_rfl) (by kernel_rfl) (by kernel_rfl) (by kernel_rfl) (fun _ _ _ h => h) hHeld (Or.inl ⟨by rfl, ?_⟩) ?_
      rotate_left
      · (intro w hSw; (try rw [hSS] at hSw); (try dsimp only at hSw); go_simp; try with_reducible rfl)
      try simp only [Act.put, List.getElem_toArray, List.getElem_cons_zero, List.getElem_cons_succ, List.setIfInBounds_toArray, List.set_cons_zero, List.set_cons_succ]
      refine wpAnyF_take (i := 10) (v := ?_) rfl (by kernel_rfl) (by kernel_rfl) (by kernel_rfl) (by kernel_rfl) (fun _ _ _ h => h) hHeld (Or.inl ⟨by rfl, ?_⟩) ?_
      rotate_left
      · (intro w hSw; (try rw [hSS] at hSw); (try dsimp only at hSw); go_simp; try with_reducible rfl)
      try simp only [Act.put, List.getElem_toArray, List.getElem_cons_zero, List.getElem_cons_succ, List.setIfInBounds_toArray, List.set_cons_zero, List.set_cons_succ]
      refine wpAnyF_take (i := 11) (v := ?_) rfl (by kernel_rfl) (by kernel_rfl) (by kernel_rfl) (by kernel_rfl) (fun _ _ _ h => h) hHeld (Or.inl ⟨by rfl, ?_⟩) ?_
      rotate_left
      · (intro w hSw; (try rw [hSS] at hSw); (try dsimp only at hSw); go_simp; try with_reducible rfl)
      try simp only [Act.put, List.getElem_toArray, List.getElem_cons_zero, List.getElem_cons_succ, List.setIfInBounds_toArray, List.set_cons_zero, List.set_cons_succ]
      refine wpAnyF_take (i := 12) (v := ?_) rfl (by kernel_rfl) (by kernel_rfl) (by kernel_rfl) (by kernel_rfl) (fun _ _ _ h => h) hHeld (Or.inl ⟨by rfl, ?_⟩) ?_
      rotate_left
      · (intro w hSw; (try rw [hSS] at hSw); (try dsimp only at hSw); go_simp; try with_reducible rfl)
      try simp only [Act.put, List.getElem_toArray, List.getElem_cons_zero, List.getElem_cons_succ, List.setIfInBounds_toArray, List.set_cons_zero, List.set_cons_succ]
      refine wpAnyF_take (i := 13) (v := ?_) rfl (by kernel_rfl) (by kernel_rfl) (by kernel_rfl) (by kernel_rfl) (fun _ _ _ h => h) hHeld (Or.inl ⟨by rfl, ?_⟩) ?_
      rotate_left
      · (intro w hSw; (try rw [hSS] at hSw); (try dsimp only at hSw); go_simp; try with_reducible rfl)
      try simp only [Act.put, List.getElem_toArray, List.getElem_cons_zero, List.getElem_cons_succ, List.setIfInBounds_toArray, List.set_cons_zero, List.set_cons_succ]
      refine wpAnyF_one (i := 14) (by kernel_rfl) rfl (fun K hK => ?_)
      go_simp
      refine hK.out _ _ (Or.inl rfl) ?_
      clear hK K
      try simp only [Act.put, List.getElem_toArray, List.getElem_cons_zero, List.getElem_cons_succ, List.setIfInBounds_toArray, List.set_cons_zero, List.set_cons_succ]
      refine wpAnyF_done (by kernel_rfl) ?_ _
      have hset := G'.put k (.int .u64 1)
      have hE : ((fx 64 1 (1 % 2 ^ (64 * k))).map wv).toArray.setIfInBounds k (.int .u64 1) = ((fx 64 1 (1 % 2 ^ (64 * (k + 1)))).map wv).toArray := by
        obtain rfl : k = 0 := by omega
        rfl
      rw [hE] at hset
      have Hset := Lib.hid hset
      have hB2 := hB.setCell (p := ⟨gw, k, none⟩) hg3 (.int .u64 1)
      clear hset hE G' y5 y6 hB
      generalize (u1.setCell ⟨gw, k, none⟩ (.int .u64 1)) = w9 at Hset hB2 ⊢
      go_wp2_with fail
      go_roundw
      case rel => exact ⟨k + 1, by omega, by go_num, Hset, hB2⟩
      case measure => simp [intOf]; omega
    · obtain rfl : k = 1 := by omega
      have htr := trim_any gw 1 1 wr G.out (by omega) (by decide)
      have kC5 := kC.on hB
      have cC := kC5.cell 0
      have fC := kC5.frozen 0
      go_wp2_with fail
      refine htr.mono ?_
      rintro e w5 ⟨v', rfl, hS, b5⟩
      have kC6 := kC5.on b5
      obtain ⟨A3, n3, c3, rfl, _⟩ := id hS
      have c6 := kC6.cell 0
      have f6 := kC6.frozen 0
      go_wp2_with fail
      have kS := kC6.put 0 (.slice A3 n3 c3)
      refine ret_set rfl (w.heap.size + 2) (.slice A3 n3 c3) rfl (by simpa using kS) rfl ?_
      have b6 := (bC.trans (hB.mono bC.size)).trans (b5.mono (Nat.le_trans bC.size hB.size))
      exact ⟨_, rfl, hS.off kC6 _, b6.setCell (p := ⟨w.heap.size + 2, 0, none⟩) (by simp) _⟩
end Go.Proofs.YtcnofhlgiffkjaaGreatDoor
