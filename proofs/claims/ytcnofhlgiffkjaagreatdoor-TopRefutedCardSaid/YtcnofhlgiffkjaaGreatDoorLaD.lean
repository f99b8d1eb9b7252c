/- lattice.New at a matrix of one element; awake23. (genld.py) -/
import Derived.Test.YtcnofhlgiffkjaaGreatDoorLaC
import Derived.Test.YtcnofhlgiffkjaaGreatDoorSd
import Derived.Test.YtcnofhlgiffkjaaGreatDoorSc
import Derived.Test.YtcnofhlgiffkjaaGreatDoorAw
import Derived.Deep.CutBlock
namespace Go.Proofs.YtcnofhlgiffkjaaGreatDoor
open Go.RowKit
set_option linter.unusedVariables false
set_option linter.unusedSimpArgs false

/-- Whether a loop goes on. -/
def goOn : Value → Nat
  | .bool true => 1
  | _ => 0
set_option maxHeartbeats 16000000 in
set_option maxRecDepth 100000 in
theorem lnew1 (g : Nat) (w : World) (hM : MxAt w g) (hT : Tab w) :
    Calls Tryz.prog 18 #[.pointer (some ⟨g, 0, none⟩), .int .i64 1] w fun e w' => ∃ gl A c, e = .returned (.tuple #[.pointer (some ⟨gl, 0, none⟩), .int .i64 0]) ∧ w'.cell? ⟨gl, 1, none⟩ = some (.slice A 1 c) ∧ Below w.heap.size w w' := by
  have hg0 : 0 < w.heap.size := World.block_lt_of_cell? w _ (hT 0 (by omega))
  have bL : Below w.heap.size w (w.alloc (.cells #[.pointer (some ⟨g, 0, none⟩), .slice none 0 0] 117)) := bAl (Below.refl _ _) _
  have kL := Blk.new w 117 #[.pointer (some ⟨g, 0, none⟩), .slice none 0 0]
  go_enter Tryz.func18, Tryz.ntmps18
  go_upto_region 4 with fail
  obtain ⟨gl, hgl⟩ : ∃ gl, gl = w.heap.size := ⟨_, rfl⟩
  rw [← hgl] at kL ⊢
  have hgl1 : w.heap.size ≤ gl := Nat.le_of_eq hgl.symm
  clear hgl
  generalize (w.alloc (.cells #[.pointer (some ⟨g, 0, none⟩), .slice none 0 0] 117)) = W1 at bL kL ⊢
  have hcl := close1 g 0 (.agg #[.slice none 0 0]) W1 (hM.on bL) (by omega) (SetAt.zero _ _ _ _) (hT.below bL hg0)
  go_wp2_with fail
  refine hcl.mono ?_
  rintro e w2 ⟨v2, rfl, s2, b2⟩
  obtain ⟨A2, n2, c2, rfl, s2⟩ := set_agg s2
  have kL2 := kL.on b2
  have bL2 := bL.trans (b2.mono bL.size)
  go_upto_block 0 with fail
  have bA := bAl (Below.refl w2.heap.size w2) (.cells #[.slice A2 n2 c2] 63)
  have kA := Blk.new w2 63 #[.slice A2 n2 c2]
  have kL3 := kL2.on bA
  have s3 := s2.on bA
  have bL3 := bL2.trans (bA.mono bL2.size)
  obtain ⟨ga, hga⟩ : ∃ ga, ga = w2.heap.size := ⟨_, rfl⟩
  rw [← hga] at kA ⊢
  have hga1 : w.heap.size ≤ ga := by rw [hga]; exact bL2.size
  have hgla : gl < ga := by rw [hga]; exact kL2.lt
  clear hga
  generalize (w2.alloc (.cells #[.slice A2 n2 c2] 63)) = W3 at kA kL3 s3 bL3 ⊢
  clear bA kL kL2 s2 bL bL2 b2 hcl
  go_wp2_with fail
  go_loopw [8] (fun v8 wr => ((v8 = .bool true ∧ (∃ A n c, Blk wr ga 63 #[.slice A n c] ∧ SetAt wr wr.heap.size (.agg #[.slice A n c]) 1) ∧ Blk wr gl 117 #[.pointer (some ⟨g, 0, none⟩), .slice none 0 0]) ∨ (v8 = .bool false ∧ ∃ A c, Blk wr gl 117 #[.pointer (some ⟨g, 0, none⟩), .slice A 1 c])) ∧ Below w.heap.size w wr) (fun v8 _ => goOn v8)
  case atStart => exact ⟨Or.inl ⟨rfl, ⟨A2, n2, c2, kA, s3⟩, kL3⟩, bL3⟩
  case round =>
    clear kA kL3 s3 bL3
    obtain ⟨hrel, hB⟩ := hrel
    rcases hrel with ⟨rfl, ⟨A, n, c, kA, hS⟩, kL⟩ | ⟨rfl, A, c, kL⟩
    · have y1 : wr.cell? ⟨gl, 1, none⟩ = some (.slice none 0 0) := (kL.cell 1).trans rfl
      go_upto_region 8 with fail
      have y2 : wr.cell? ⟨ga, 0, none⟩ = some (.slice A n c) := (kA.cell 0).trans rfl
      obtain ⟨SS, hSS⟩ : ∃ S : World → Prop, S = (fun W => W.cell? ⟨gl, 1, none⟩ = some (.slice none 0 0) ∧ W.cell? ⟨ga, 0, none⟩ = some (.slice A n c)) := ⟨_, rfl⟩
      refine wp_region_F (fun i => decide (12 ≤ i)) SS (by kernel_rfl) (by rw [hSS]; exact ⟨y1, y2⟩) (fun hHeld => ?_)
      have bd : Below wr.heap.size wr wr.drew := (Below.refl _ _).drew
      have kA := kA.on bd
      have kL := kL.on bd
      have hS := hS.on bd
      have hB := hB.trans (bd.mono hB.size)
      clear y1 y2 bd
      generalize wr.drew = u1 at kA kL hS hB hHeld ⊢
      refine wpAnyF_take (i := 0) (v := ?_) rfl (by kernel_rfl) (by kernel_rfl) (by kernel_rfl) (by kernel_rfl) (fun _ _ _ h => h) hHeld (Or.inl ⟨by rfl, ?_⟩) ?_
      rotate_left
      · (intro w hSw; (try rw [hSS] at hSw); (try dsimp only at hSw); go_simp; try with_reducible rfl)
      try simp only [Act.put, List.getElem_toArray, List.getElem_cons_zero, List.getElem_cons_succ, List.setIfInBounds_toArray, List.set_cons_zero, List.set_cons_succ]
      refine wpAnyF_take (i := 1) (v := ?_) rfl (by kernel_rfl) (by kernel_rfl) (by kernel_rfl) (by kernel_rfl) (fun _ _ _ h => h) hHeld (Or.inl ⟨by rfl, ?_⟩) ?_
      rotate_left
      · (intro w hSw; (try rw [hSS] at hSw); (try dsimp only at hSw); go_simp; try with_reducible rfl)
      try simp only [Act.put, List.getElem_toArray, List.getElem_cons_zero, List.getElem_cons_succ, List.setIfInBounds_toArray, List.set_cons_zero, List.set_cons_succ]
      refine wpAnyF_take (i := 2) (v := ?_) rfl (by kernel_rfl) (by kernel_rfl) (by kernel_rfl) (by kernel_rfl) (fun _ _ _ h => h) hHeld (Or.inl ⟨by rfl, ?_⟩) ?_
      rotate_left
      · (intro w hSw; (try rw [hSS] at hSw); (try dsimp only at hSw); go_simp; try with_reducible rfl)
      try simp only [Act.put, List.getElem_toArray, List.getElem_cons_zero, List.getElem_cons_succ, List.setIfInBounds_toArray, List.set_cons_zero, List.set_cons_succ]
      refine wpAnyF_take (i := 3) (v := ?_) rfl (by kernel_rfl) (by kernel_rfl) (by kernel_rfl) (by kernel_rfl) (fun _ _ _ h => h) hHeld (Or.inl ⟨by rfl, ?_⟩) ?_
      rotate_left
      · (intro w hSw; (try rw [hSS] at hSw); (try dsimp only at hSw); go_simp; try with_reducible rfl)
      try simp only [Act.put, List.getElem_toArray, List.getElem_cons_zero, List.getElem_cons_succ, List.setIfInBounds_toArray, List.set_cons_zero, List.set_cons_succ]
      refine wpAnyF_take (i := 4) (v := ?_) rfl (by kernel_rfl) (by kernel_rfl) (by kernel_rfl) (by kernel_rfl) (fun _ _ _ h => h) hHeld (Or.inl ⟨by rfl, ?_⟩) ?_
      rotate_left
      · (intro w hSw; (try rw [hSS] at hSw); (try dsimp only at hSw); go_simp; try with_reducible rfl)
      try simp only [Act.put, List.getElem_toArray, List.getElem_cons_zero, List.getElem_cons_succ, List.setIfInBounds_toArray, List.set_cons_zero, List.set_cons_succ]
      refine wpAnyF_take (i := 5) (v := ?_) rfl (by kernel_rfl) (by kernel_rfl) (by kernel_rfl) (by kernel_rfl) (fun _ _ _ h => h) hHeld (Or.inl ⟨by rfl, ?_⟩) ?_
      rotate_left
      · (intro w hSw; (try rw [hSS] at hSw); (try dsimp only at hSw); go_simp; try with_reducible rfl)
      try simp only [Act.put, List.getElem_toArray, List.getElem_cons_zero, List.getElem_cons_succ, List.setIfInBounds_toArray, List.set_cons_zero, List.set_cons_succ]
      refine wpAnyF_take (i := 6) (v := ?_) rfl (by kernel_rfl) (by kernel_rfl) (by kernel_rfl) (by kernel_rfl) (fun _ _ _ h => h) hHeld (Or.inl ⟨by rfl, ?_⟩) ?_
      rotate_left
      · (intro w hSw; (try rw [hSS] at hSw); (try dsimp only at hSw); go_simp; try with_reducible rfl)
      try simp only [Act.put, List.getElem_toArray, List.getElem_cons_zero, List.getElem_cons_succ, List.setIfInBounds_toArray, List.set_cons_zero, List.set_cons_succ]
      have hco := cof1 g _ u1 (hM.on hB) hS (hT.below hB hg0)
      refine wpAnyF_one (i := 7) (by kernel_rfl) rfl (fun K hK => ?_)
      go_simp
      go_at_call 56
      refine hco.mono ?_
      rintro e u2 ⟨A3, n3, c3, A4, n4, c4, rfl, b2⟩
      try simp only []
      have kA2 := kA.on b2
      have kL2 := kL.on b2
      have hS2 := hS.on b2
      have hB2 := hB.trans (b2.mono hB.size)
      refine hK.out _ _ (Or.inr (by rw [hSS]; exact ⟨kL2.cell 1, kA2.cell 0⟩)) ?_
      clear hK K
      try simp only [Act.put, List.getElem_toArray, List.getElem_cons_zero, List.getElem_cons_succ, List.setIfInBounds_toArray, List.set_cons_zero, List.set_cons_succ]
      clear hco kA kL hS hB b2
      have bN := bAl (Below.refl u2.heap.size u2) (.cells #[.slice A3 n3 c3, .slice A4 n4 c4] 120)
      refine wpAnyF_one (i := 8) (by kernel_rfl) rfl (fun K hK => ?_)
      go_simp
      refine hK.out _ _ (Or.inr (by rw [hSS]; exact ⟨(kL2.on bN).cell 1, (kA2.on bN).cell 0⟩)) ?_
      clear hK K
      try simp only [Act.put, List.getElem_toArray, List.getElem_cons_zero, List.getElem_cons_succ, List.setIfInBounds_toArray, List.set_cons_zero, List.set_cons_succ]
      have hzB := hB2.size
      refine wpAnyF_one (i := 9) (by kernel_rfl) rfl (fun K hK => ?_)
      refine step_row1 120 115 _ 2 48 concept_info Tryz.underlying115 rfl (by omega) (by omega) _ rfl (.tmp 33) (.tmp 37) rfl u2 w.heap.size _ 0 _ rfl (World.ownsRow_nil _ _ _ _) #[.slice A3 n3 c3, .slice A4 n4 c4] rfl _ rfl rfl rfl (by simp [Value.oneCell']) (by omega) hzB 1 rfl ?_
      intro A9 c9 w9 o9 g9 b9 k9
      have g9 : u2.grownBy w9 none := ⟨g9.os, g9.tape, g9.output, g9.size, g9.block⟩
      have kA9 := kA2.grown g9 (by simp)
      have kL9 := kL2.grown g9 (by simp)
      have hS9 := hS2.keepNC g9 (fun j t cs hk e => by cases e)
      have hB9 := hB2.trans b9
      clear kA2 kL2 hS2 hB2 bN b9 g9 k9 o9
      refine hK.out _ _ (Or.inr (by rw [hSS]; exact ⟨kL9.cell 1, kA9.cell 0⟩)) ?_
      clear hK K
      try simp only [Act.put, List.getElem_toArray, List.getElem_cons_zero, List.getElem_cons_succ, List.setIfInBounds_toArray, List.set_cons_zero, List.set_cons_succ]
      refine wpAnyF_one (i := 10) (by kernel_rfl) rfl (fun K hK => ?_)
      go_simp
      refine hK.out _ _ (Or.inr (by rw [hSS]; exact ⟨kL9.cell 1, kA9.cell 0⟩)) ?_
      clear hK K
      try simp only [Act.put, List.getElem_toArray, List.getElem_cons_zero, List.getElem_cons_succ, List.setIfInBounds_toArray, List.set_cons_zero, List.set_cons_succ]
      refine wpAnyF_one (i := 11) (by kernel_rfl) rfl (fun K hK => ?_)
      go_simp
      refine hK.out _ _ (Or.inr (by rw [hSS]; exact ⟨kL9.cell 1, kA9.cell 0⟩)) ?_
      clear hK K
      try simp only [Act.put, List.getElem_toArray, List.getElem_cons_zero, List.getElem_cons_succ, List.setIfInBounds_toArray, List.set_cons_zero, List.set_cons_succ]
      have y9 : w9.cell? ⟨gl, 1, none⟩ = some (.slice none 0 0) := (kL9.cell 1).trans rfl
      have f9 := kL9.frozen 1
      refine wpAnyF_one (i := 12) (by kernel_rfl) rfl (fun K hK => ?_)
      go_simp
      refine hK.out _ _ (Or.inl rfl) ?_
      clear hK K
      try simp only [Act.put, List.getElem_toArray, List.getElem_cons_zero, List.getElem_cons_succ, List.setIfInBounds_toArray, List.set_cons_zero, List.set_cons_succ]
      refine wpAnyF_done (by kernel_rfl) ?_ _
      have kL10 : Blk (w9.setCell ⟨gl, 1, none⟩ (.slice A9 1 c9)) gl 117 #[.pointer (some ⟨g, 0, none⟩), .slice A9 1 c9] := by simpa using kL9.put 1 (.slice A9 1 c9)
      have kA10 : Blk (w9.setCell ⟨gl, 1, none⟩ (.slice A9 1 c9)) ga 63 #[.slice A n c] := kA9.far (p := ⟨gl, 1, none⟩) (by simp only []; omega) _
      have hS10 : SetAt (w9.setCell ⟨gl, 1, none⟩ (.slice A9 1 c9)) (w9.setCell ⟨gl, 1, none⟩ (.slice A9 1 c9)).heap.size (.agg #[.slice A n c]) 1 := by rw [setCell_size]; exact hS9.far kL9 (by decide)
      have hB10 := hB9.setCell (p := ⟨gl, 1, none⟩) hgl1 (.slice A9 1 c9)
      generalize (w9.setCell ⟨gl, 1, none⟩ (.slice A9 1 c9)) = w10 at kL10 kA10 hS10 hB10 ⊢
      clear kA9 kL9 hS9 hB9 y9 f9 hHeld hSS SS
      have x10 : w10.cell? ⟨ga, 0, none⟩ = some (.slice A n c) := (kA10.cell 0).trans rfl
      have hnx := next1 g _ w10 (hM.on hB10) hS10
      go_wp2_with fail
      refine hnx.mono ?_
      rintro e w11 ⟨rfl, b11⟩
      have kL11 := kL10.on b11
      have kA11 := kA10.on b11
      have hB11 := hB10.trans (b11.mono hB10.size)
      have x11 : w11.cell? ⟨ga, 0, none⟩ = some (.slice A n c) := (kA11.cell 0).trans rfl
      have f11 := kA11.frozen 0
      have kL12 : Blk (w11.setCell ⟨ga, 0, none⟩ (.slice none 0 0)) gl 117 #[.pointer (some ⟨g, 0, none⟩), .slice A9 1 c9] := kL11.far (p := ⟨ga, 0, none⟩) (by simp only []; omega) _
      have hB12 := hB11.setCell (p := ⟨ga, 0, none⟩) hga1 (.slice none 0 0)
      clear kL10 kA10 hS10 hB10 x10 hnx
      go_wp2_with fail
      go_roundw
      case rel => exact ⟨Or.inr ⟨rfl, A9, c9, kL12⟩, hB12⟩
      case measure => simp [goOn]
    · have y1 : wr.cell? ⟨gl, 1, none⟩ = some (.slice A 1 c) := (kL.cell 1).trans rfl
      go_wp2_with fail
      go_ret2
      exact ⟨gl, A, c, rfl, y1, hB⟩
theorem llen1 (gl : Nat) (A : Option Addr) (c : Nat) (w : World) (h : w.cell? ⟨gl, 1, none⟩ = some (.slice A 1 c)) : Calls Tryz.prog 19 #[.pointer (some ⟨gl, 0, none⟩)] w fun e w' => e = .returned (.int .i64 1) ∧ w = w' := by
  go_enter Tryz.func19, Tryz.ntmps19
  go_wp2_with fail
  go_ret
  exact ⟨rfl, rfl⟩
/-- The problem of the awake check: nobody can do its one step. -/
def aw23P : Pr := ⟨[0], [], [], [], [0]⟩
theorem aw23_chk : chkP aw23P = 0 := by decide +kernel
theorem aw23_solve : (solveR aw23P 0).1 = none ∧ (solveR aw23P 0).2.2 = 0 ∧ 0 < (solveR aw23P 0).2.1.length ∧ (solveR aw23P 0).2.1.length ≤ 1000 := by decide +kernel
theorem aw23_sm : SmP aw23P := ⟨by decide, fun z => by
  unfold eligA aw23P
  rcases Nat.eq_zero_or_pos z with rfl | h
  · decide
  · rw [show ([0] : List Nat)[(z : Int).toNat]? = none from List.getElem?_eq_none (by simp; omega)]
    decide⟩
theorem pr23 {w : World} {u f : Nat} (k1 : Blk w u 63 #[.slice none 0 0]) (k2 : Blk w f 3 #[.int .i64 0]) : PrAt w w.heap.size ⟨⟨some ⟨u, 0, none⟩, 1, 1⟩, ⟨none, 0, 0⟩, ⟨none, 0, 0⟩, ⟨none, 0, 0⟩, ⟨some ⟨f, 0, none⟩, 1, 1⟩⟩ aw23P := by
  refine ⟨rfl, rfl, rfl, rfl, rfl, fun i M hi => ?_, fun i x hi => (by cases hi), fun i x hi => (by cases hi), fun i x hi => (by cases hi), fun _ => ⟨f, 0, rfl, k2.lt, fun j v hv => ?_⟩, by simp, by simp, by simp, by simp, by simp, Nat.le_refl _⟩
  · have hi : ([0] : List Nat)[i]? = some M := hi
    obtain ⟨h1, h2⟩ := List.getElem?_eq_some_iff.1 hi
    obtain rfl : i = 0 := by simpa using h1
    obtain rfl : M = 0 := by simpa using h2.symm
    exact ⟨u, 0, .slice none 0 0, rfl, k1.lt, (k1.cell 0).trans rfl, SetAt.zero _ _ _ _⟩
  · have hv : [Value.int .i64 0][j]? = some v := hv
    obtain ⟨h1, h2⟩ := List.getElem?_eq_some_iff.1 hv
    obtain rfl : j = 0 := by simpa using h1
    obtain rfl : v = .int .i64 0 := by simpa using h2.symm
    exact (k2.cell 0).trans rfl
set_option maxHeartbeats 16000000 in
set_option maxRecDepth 100000 in
/-- awake23. -/
theorem awake23_any (w : World) (hT : Tab w) : Calls Tryz.prog 4 #[] w fun e w' => e = .returned (.bool true) ∧ Below w.heap.size w w' := by
  have hg0 : 0 < w.heap.size := World.block_lt_of_cell? w _ (hT 0 (by omega))
  obtain ⟨q1, q2, q3, q4⟩ := aw23_solve
  obtain ⟨sr, hsr⟩ : ∃ sr, Hid (sr = solveR aw23P 0) := ⟨_, Lib.hid rfl⟩
  have hsv := fun p W (hW : Below w.heap.size w W) (h1 : PrAt W W.heap.size p aw23P) => solve_any p aw23P 0 W h1 (hT.below hW hg0) (fun _ => aw23_sm)
  rw [← hsr.out] at hsv q1 q2 q3 q4
  unfold SolvePost at hsv
  go_enter Tryz.func4, Tryz.ntmps4
  go_wp2_with fail
  refine (ofLit w [0] _ 1 _ rfl rfl (by simp) (by omega) rfl).mono ?_
  rintro e w1 ⟨Aa, na, ca, rfl, sa, b1⟩
  have sa : SetAt w1 w1.heap.size (.agg #[.slice Aa na ca]) 1 := sa
  have bX := bAl (Below.refl w1.heap.size w1) (.cells #[.slice Aa na ca] 63)
  have hmo := mof1 (some ⟨w1.heap.size, 0, none⟩) 1 (.slice Aa na ca) (w1.alloc (.cells #[.slice Aa na ca] 63)) ⟨_, _, rfl, ((Blk.new w1 63 #[.slice Aa na ca]).cell 0).trans rfl⟩ (sa.on bX)
  go_wp2_with fail
  refine hmo.mono ?_
  rintro e w2 ⟨g, rfl, hM, b2⟩
  have B2 := bJoin (bJoin b1 bX) b2
  clear hmo bX sa b1 b2
  have hln := lnew1 g w2 hM (hT.below B2 hg0)
  go_wp2_with fail
  refine hln.mono ?_
  rintro e w3 ⟨gl, Al, cl, rfl, hL, b3⟩
  have B3 := bJoin B2 b3
  clear hln hM B2 b3
  have k1 := (Blk.new w3 63 #[.slice none 0 0]).alloc (.cells #[.int .i64 0] 3)
  have k2 := Blk.new (w3.alloc (.cells #[.slice none 0 0] 63)) 3 #[.int .i64 0]
  rw [World.size_alloc] at k2
  have bP := bAl (bAl (Below.refl w3.heap.size w3) (.cells #[.slice none 0 0] 63)) (.cells #[.int .i64 0] 3)
  have hs := hsv _ _ (bJoin B3 bP) (pr23 k1 k2)
  unfold PrV.v Sl.v at hs
  simp only [] at hs
  rw [q1, q2] at hs
  simp only [Option.isSome_none, Option.getD_none] at hs
  go_wp2_with fail
  refine hs.mono ?_
  rintro e w4 ⟨A5, n5, c5, An, nn, cn, rfl, ol, ⟨ys, hys, oN⟩, b4⟩
  have hnn : sr.2.1.length = nn := by rw [← hys, List.length_map]; exact oN.len
  have h0n : 0 < nn := by omega
  have h0n' : (0 : Int) < (nn : Int) := by omega
  have h0d : decide (0 < nn) = true := by simpa using h0n
  have bQ := bJoin bP b4
  have hL4 : w4.cell? ⟨gl, 1, none⟩ = some (.slice Al 1 cl) := (bQ.cell (p := ⟨gl, 1, none⟩) (World.block_lt_of_cell? w3 _ hL)).trans hL
  have B4 := bJoin B3 bQ
  clear hs hsv k1 k2 bP bQ hL B3 ol oN hys b4
  go_upto_region 6 with fail
  have bR := bAl (Below.refl w4.heap.size w4) (.cells #[.slice An nn cn] 41)
  have kR := Blk.new w4 41 #[.slice An nn cn]
  have hL5 := (bR.cell (p := ⟨gl, 1, none⟩) (World.block_lt_of_cell? w4 _ hL4)).trans hL4
  have B5 := bJoin B4 bR
  generalize (w4.alloc (.cells #[.slice An nn cn] 41)) = w5 at kR hL5 B5 ⊢
  have yR : w5.cell? ⟨w4.heap.size, 0, none⟩ = some (.slice An nn cn) := (kR.cell 0).trans rfl
  have hle := llen1 gl Al cl w5 hL5
  go_wp2_with fail
  refine hle.mono ?_
  rintro e w6 ⟨rfl, rfl⟩
  go_wp2_with fail
  go_ret
  exact ⟨rfl, B5⟩
end Go.Proofs.YtcnofhlgiffkjaaGreatDoor
