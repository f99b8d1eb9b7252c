/- matrix.Of, closure.Of, lattice.New at a matrix of one element. (genlc.py) -/
import Derived.Test.YtcnofhlgiffkjaaGreatDoorLaB
import Derived.Test.YtcnofhlgiffkjaaGreatDoorStO
import Derived.Deep.CutBlock
namespace Go.Proofs.YtcnofhlgiffkjaaGreatDoor
open Go.RowKit
set_option linter.unusedVariables false
set_option linter.unusedSimpArgs false

theorem set_agg {W : World} {B : Nat} {v : Value} {M : Nat} (s : SetAt W B v M) : ∃ A n c, v = .agg #[.slice A n c] ∧ SetAt W B (.agg #[.slice A n c]) M := by
  obtain ⟨A, n, c, e, h1, h2, h3, h4, h5⟩ := s
  exact ⟨A, n, c, e, ⟨A, n, c, rfl, h1, h2, h3, h4, h5⟩⟩
theorem set_info3 : (Tryz.prog.info? 63).map (fun i => (i.zero, i.size, i.bytes)) = some (some (.agg #[.slice none 0 0]), 1, 24) := by kernel_rfl
theorem concept_info : (Tryz.prog.info? 120).map (fun i => (i.zero, i.size, i.bytes)) = some (some (.agg #[.slice none 0 0, .slice none 0 0]), 2, 48) := by kernel_rfl
theorem mkS_run (W : World) : (Instr.makeSlice 34 (.int .i64 1) (.int .i64 1)).run Tryz.prog W = .ok (.slice (some ⟨W.heap.size, 0, none⟩) 1 1) (W.alloc (.cells #[.slice none 0 0] 63)) := by
  obtain ⟨i, hi, hz0, hz1, hz2⟩ := info_parts set_info3
  have h := run_make (P := Tryz.prog) W 34 63 i _ Tryz.underlying34 hi hz0 .i64 .i64 1 1 (by omega) (by omega) (by rw [hz2]; decide) (by omega)
  rw [hz1] at h
  refine h.trans ?_
  have e : madeCells (Value.agg #[.slice none 0 0]).cells (Int.toNat 1 * 1) = #[.slice none 0 0] := by kernel_rfl
  rw [e]
  rfl
theorem results_ctt {P : Program} {fn : Func} {p u : Tmp} {ty : TypeId} (h : fn.results = #[.cell p ty, .tmp u]) (tmps : Array Value) (w : World) (g : Nat) (t : TypeId) (cs : Array Value) (fr : Nat × Nat) (d : TypeDesc)
    (hp : tmps.getD p undef = .pointer (some ⟨g, 0, none⟩)) (hg : w.heap[g]? = some (.cells cs t fr)) (hu : P.underlying ty = some d) (hd : (match d with | .struct _ | .array _ _ => true | _ => false) = true) (hi : (P.info? ty).map (·.size) = some cs.size) :
    (results fn tmps).run P w = .ok (.tuple #[.agg cs, tmps.getD u undef]) w := by
  have e1 : tmps[p]?.getD undef = .pointer (some ⟨g, 0, none⟩) := by simpa using hp
  simp [results, h, e1, asAddr, Sem.run_bind, run_loadVar_row w g t ty cs fr d hg hu hd hi]
set_option maxHeartbeats 8000000 in
set_option maxRecDepth 100000 in
theorem mnew1 (w : World) : Calls Tryz.prog 51 #[.int .i64 1, .int .i64 1] w fun e w' => ∃ g b, e = .returned (.tuple #[.pointer (some ⟨g, 0, none⟩), .int .i64 0]) ∧ Blk w' g 113 #[.int .i64 1, .slice (some ⟨b, 0, none⟩) 1 1] ∧ Blk w' b 63 #[.slice none 0 0] ∧ w.heap.size ≤ g ∧ w.heap.size ≤ b ∧ Below w.heap.size w w' := by
  have hmk := mkS_run
  go_enter Tryz.func51, Tryz.ntmps51
  go_wp2_with fail
  go_ret2
  exact ⟨w.heap.size + 1, w.heap.size, rfl, Blk.mk' (by simp), (Blk.mk' rfl).alloc _, by omega, Nat.le_refl _, bAl (bAl (Below.refl _ _) _) _⟩
set_option maxHeartbeats 8000000 in
set_option maxRecDepth 100000 in
theorem mof1 (A : Option Addr) (c : Nat) (X : Value) (w : World) (hX : ∃ b o, A = some ⟨b, o, none⟩ ∧ w.cell? ⟨b, o, none⟩ = some X) (hS : SetAt w w.heap.size (.agg #[X]) 1) :
    Calls Tryz.prog 16 #[.int .i64 1, .slice A 1 c] w fun e w' => ∃ g, e = .returned (.tuple #[.pointer (some ⟨g, 0, none⟩), .int .i64 0]) ∧ MxAt w' g ∧ Below w.heap.size w w' := by
  obtain ⟨b, o, rfl, hcX⟩ := hX
  obtain ⟨Ax, nx, cx, hXe, hSx⟩ := set_agg hS
  obtain rfl : X = .slice Ax nx cx := by simpa using hXe
  have hnew := mnew1 w
  have hlX := World.block_lt_of_cell? w _ hcX
  clear hXe hS
  go_enter Tryz.func16, Tryz.ntmps16
  go_wp2_with fail
  refine hnew.mono ?_
  rintro e w1 ⟨g, r, rfl, kg, kr, hg, hr, b1⟩
  go_wp2_with fail
  go_loopw [22] (fun v22 wr => ∃ (k : Nat) (Y : Value), v22 = .int .i64 (k : Int) ∧ k ≤ 1 ∧ Blk wr g 113 #[.int .i64 1, .slice (some ⟨r, 0, none⟩) 1 1] ∧ Blk wr r 63 #[Y] ∧ Hid (k = 1 → Y = .slice Ax nx cx) ∧ Below w.heap.size w wr) (fun v22 _ => 1 - (intOf v22).toNat)
  case atStart => exact ⟨0, .slice none 0 0, rfl, by omega, kg, kr, Lib.hid (fun h => by omega), b1⟩
  case round =>
    clear kg kr b1
    obtain ⟨k, Y, rfl, hk, kg, kr, hY, hB⟩ := hrel
    by_cases hlt : k < 1
    · have hlt' : (k : Int) < 1 := by omega
      have y1 : wr.cell? ⟨b, o + k, none⟩ = some (.slice Ax nx cx) := by
        obtain rfl : k = 0 := by omega
        exact (hB.cell (p := ⟨b, o, none⟩) hlX).trans hcX
      go_upto_region 7 with fail
      have bX := bAl (Below.refl wr.heap.size wr) (.cells #[.slice Ax nx cx] 63)
      have kX := Blk.new wr 63 #[.slice Ax nx cx]
      have kg := kg.on bX
      have kr := kr.on bX
      have hB4 := hB.trans (bX.mono hB.size)
      obtain ⟨bx, hbx⟩ : ∃ bx, bx = wr.heap.size := ⟨_, rfl⟩
      rw [← hbx] at kX ⊢
      have hbx2 : w.heap.size ≤ bx := by rw [hbx]; exact hB.size
      clear hbx y1 hB
      generalize (wr.alloc (.cells #[.slice Ax nx cx] 63)) = W4 at bX kX kg kr hB4 ⊢
      clear bX
      have hSW := hSx.on hB4
      have cX := kX.cell 0
      replace cX : W4.cell? ⟨bx, 0, none⟩ = some (.slice Ax nx cx) := cX
      obtain ⟨SS, hSS⟩ : ∃ S : World → Prop, S = (fun W => W.cell? ⟨bx, 0, none⟩ = some (.slice Ax nx cx)) := ⟨_, rfl⟩
      refine wp_region_F (fun _ => false) SS (by kernel_rfl) (by rw [hSS]; exact cX) (fun hHeld => ?_)
      have bd : Below W4.heap.size W4 W4.drew := (Below.refl _ _).drew
      have kg := kg.on bd
      have kr := kr.on bd
      have kX := kX.on bd
      have hSW := hSW.on bd
      have hB5 := hB4.trans (bd.mono hB4.size)
      clear cX hB4 bd
      generalize W4.drew = u1 at kg kr kX hSW hB5 hHeld ⊢
      refine wpAnyF_take (i := 0) (v := ?_) rfl (by kernel_rfl) (by kernel_rfl) (by kernel_rfl) (by kernel_rfl) (fun _ _ _ h => h) hHeld (Or.inl ⟨by rfl, ?_⟩) ?_
      rotate_left
      · (intro w hSw; (try rw [hSS] at hSw); (try dsimp only at hSw); go_simp; try with_reducible rfl)
      try simp only [Act.put, List.getElem_toArray, List.getElem_cons_zero, List.getElem_cons_succ, List.setIfInBounds_toArray, List.set_cons_zero, List.set_cons_succ]
      refine wpAnyF_take (i := 1) (v := ?_) rfl (by kernel_rfl) (by kernel_rfl) (by kernel_rfl) (by kernel_rfl) (fun _ _ _ h => h) hHeld (Or.inl ⟨by rfl, ?_⟩) ?_
      rotate_left
      · (intro w hSw; (try rw [hSS] at hSw); (try dsimp only at hSw); go_simp; try with_reducible rfl)
      try simp only [Act.put, List.getElem_toArray, List.getElem_cons_zero, List.getElem_cons_succ, List.setIfInBounds_toArray, List.set_cons_zero, List.set_cons_succ]
      have hbl : Calls Tryz.prog 53 #[.int .i64 1] u1 fun e w' => ∃ v', e = .returned v' ∧ SetAt w' w'.heap.size v' 1 ∧ Below u1.heap.size u1 w' := below_any 1 u1 (by omega)
      refine wpAnyF_one (i := 2) (by kernel_rfl) rfl (fun K hK => ?_)
      go_simp
      go_at_call 53
      refine hbl.mono ?_
      rintro e u2 ⟨v2, rfl, s2, b2⟩
      try simp only []
      have kg2 := kg.on b2
      have kr2 := kr.on b2
      have kX2 := kX.on b2
      have hSW2 := hSW.on b2
      have hB6 := hB5.trans (b2.mono hB5.size)
      refine hK.out _ _ (Or.inr (by rw [hSS]; exact kX2.cell 0)) ?_
      clear hK K
      try simp only [Act.put, List.getElem_toArray, List.getElem_cons_zero, List.getElem_cons_succ, List.setIfInBounds_toArray, List.set_cons_zero, List.set_cons_succ]
      clear kg kr kX hSW hB5 b2 hbl
      refine wpAnyF_one (i := 3) (by kernel_rfl) rfl (fun K hK => ?_)
      go_simp
      go_at_call 52
      refine (within_any _ _ 1 1 u2 hSW2 s2).mono ?_
      rintro e u3 ⟨rfl, b3⟩
      try simp only []
      have kg3 := kg2.on b3
      have kr3 := kr2.on b3
      have kX3 := kX2.on b3
      have hB7 := hB6.trans (b3.mono hB6.size)
      refine hK.out _ _ (Or.inr (by rw [hSS]; exact kX3.cell 0)) ?_
      clear hK K
      try simp only [Act.put, List.getElem_toArray, List.getElem_cons_zero, List.getElem_cons_succ, List.setIfInBounds_toArray, List.set_cons_zero, List.set_cons_succ]
      clear kg2 kr2 kX2 hSW2 hB6 b3 s2
      have hw1 : withinB 1 1 = true := by decide
      rw [hw1]
      refine wpAnyF_one (i := 4) (by kernel_rfl) rfl (fun K hK => ?_)
      go_simp
      refine hK.out _ _ (Or.inr (by rw [hSS]; exact kX3.cell 0)) ?_
      clear hK K
      try simp only [Act.put, List.getElem_toArray, List.getElem_cons_zero, List.getElem_cons_succ, List.setIfInBounds_toArray, List.set_cons_zero, List.set_cons_succ]
      refine wpAnyF_done (by kernel_rfl) ?_ _
      clear hHeld hSS SS
      go_upto_region 9 with fail
      obtain ⟨SS, hSS⟩ : ∃ S : World → Prop, S = (fun W => W.cell? ⟨bx, 0, none⟩ = some (.slice Ax nx cx) ∧ W.cell? ⟨g, 1, none⟩ = some (.slice (some ⟨r, 0, none⟩) 1 1)) := ⟨_, rfl⟩
      have c1 : u3.cell? ⟨bx, 0, none⟩ = some (.slice Ax nx cx) := (kX3.cell 0).trans rfl
      have c2 : u3.cell? ⟨g, 1, none⟩ = some (.slice (some ⟨r, 0, none⟩) 1 1) := (kg3.cell 1).trans rfl
      refine wp_region_F (fun i => decide (7 ≤ i)) SS (by kernel_rfl) (by rw [hSS]; exact ⟨c1, c2⟩) (fun hHeld => ?_)
      have bd : Below u3.heap.size u3 u3.drew := (Below.refl _ _).drew
      have kg := kg3.on bd
      have kr := kr3.on bd
      have hB8 := hB7.trans (bd.mono hB7.size)
      clear c1 c2 kg3 kr3 kX3 hB7 bd
      generalize u3.drew = u4 at kg kr hB8 hHeld ⊢
      have cY : u4.cell? ⟨r, k, none⟩ = some Y := by
        obtain rfl : k = 0 := by omega
        exact (kr.cell 0).trans rfl
      have fY := kr.frozen k
      refine wpAnyF_take (i := 0) (v := ?_) rfl (by kernel_rfl) (by kernel_rfl) (by kernel_rfl) (by kernel_rfl) (fun _ _ _ h => h) hHeld (Or.inl ⟨by rfl, ?_⟩) ?_
      rotate_left
      · (intro w hSw; (try rw [hSS] at hSw); (try dsimp only at hSw); go_simp; try with_reducible rfl)
      try simp only [Act.put, List.getElem_toArray, List.getElem_cons_zero, List.getElem_cons_succ, List.setIfInBounds_toArray, List.set_cons_zero, List.set_cons_succ]
      refine wpAnyF_take (i := 1) (v := ?_) rfl (by kernel_rfl) (by kernel_rfl) (by kernel_rfl) (by kernel_rfl) (fun _ _ _ h => h) hHeld (Or.inl ⟨by rfl, ?_⟩) ?_
      rotate_left
      · (intro w hSw; (try rw [hSS] at hSw); (try dsimp only at hSw); go_simp; try with_reducible rfl)
      try simp only [Act.put, List.getElem_toArray, List.getElem_cons_zero, List.getElem_cons_succ, List.setIfInBounds_toArray, List.set_cons_zero, List.set_cons_succ]
      refine wpAnyF_take (i := 2) (v := ?_) rfl (by kernel_rfl) (by kernel_rfl) (by kernel_rfl) (by kernel_rfl) (fun _ _ _ h => h) hHeld (Or.inl ⟨by rfl, ?_⟩) ?_
      rotate_left
      · (intro w hSw; (try rw [hSS] at hSw); (try dsimp only at hSw); go_simp; try with_reducible rfl)
      try simp only [Act.put, List.getElem_toArray, List.getElem_cons_zero, List.getElem_cons_succ, List.setIfInBounds_toArray, List.set_cons_zero, List.set_cons_succ]
      refine wpAnyF_take (i := 3) (v := ?_) rfl (by kernel_rfl) (by kernel_rfl) (by kernel_rfl) (by kernel_rfl) (fun _ _ _ h => h) hHeld (Or.inl ⟨by rfl, ?_⟩) ?_
      rotate_left
      · (intro w hSw; (try rw [hSS] at hSw); (try dsimp only at hSw); go_simp; try with_reducible rfl)
      try simp only [Act.put, List.getElem_toArray, List.getElem_cons_zero, List.getElem_cons_succ, List.setIfInBounds_toArray, List.set_cons_zero, List.set_cons_succ]
      refine wpAnyF_take (i := 4) (v := ?_) rfl (by kernel_rfl) (by kernel_rfl) (by kernel_rfl) (by kernel_rfl) (fun _ _ _ h => h) hHeld (Or.inl ⟨by rfl, ?_⟩) ?_
      rotate_left
      · (intro w hSw; (try rw [hSS] at hSw); (try dsimp only at hSw); go_simp; try with_reducible rfl)
      try simp only [Act.put, List.getElem_toArray, List.getElem_cons_zero, List.getElem_cons_succ, List.setIfInBounds_toArray, List.set_cons_zero, List.set_cons_succ]
      refine wpAnyF_take (i := 5) (v := ?_) rfl (by kernel_rfl) (by kernel_rfl) (by kernel_rfl) (by kernel_rfl) (fun _ _ _ h => h) hHeld (Or.inl ⟨by rfl, ?_⟩) ?_
      rotate_left
      · (intro w hSw; (try rw [hSS] at hSw); (try dsimp only at hSw); go_simp; try with_reducible rfl)
      try simp only [Act.put, List.getElem_toArray, List.getElem_cons_zero, List.getElem_cons_succ, List.setIfInBounds_toArray, List.set_cons_zero, List.set_cons_succ]
      refine wpAnyF_take (i := 6) (v := ?_) rfl (by kernel_rfl) (by kernel_rfl) (by kernel_rfl) (by kernel_rfl) (fun _ _ _ h => h) hHeld (Or.inl ⟨by rfl, ?_⟩) ?_
      rotate_left
      · (intro w hSw; (try rw [hSS] at hSw); (try dsimp only at hSw); go_simp; try with_reducible rfl)
      try simp only [Act.put, List.getElem_toArray, List.getElem_cons_zero, List.getElem_cons_succ, List.setIfInBounds_toArray, List.set_cons_zero, List.set_cons_succ]
      refine wpAnyF_one (i := 7) (by kernel_rfl) rfl (fun K hK => ?_)
      go_simp
      refine hK.out _ _ (Or.inl rfl) ?_
      clear hK K
      try simp only [Act.put, List.getElem_toArray, List.getElem_cons_zero, List.getElem_cons_succ, List.setIfInBounds_toArray, List.set_cons_zero, List.set_cons_succ]
      refine wpAnyF_done (by kernel_rfl) ?_ _
      have kr5 : Blk (u4.setCell ⟨r, k, none⟩ (.slice Ax nx cx)) r 63 #[.slice Ax nx cx] := by
        obtain rfl : k = 0 := by omega
        simpa using kr.put 0 (.slice Ax nx cx)
      have kg5 : Blk (u4.setCell ⟨r, k, none⟩ (.slice Ax nx cx)) g 113 #[.int .i64 1, .slice (some ⟨r, 0, none⟩) 1 1] := kg.far (p := ⟨r, k, none⟩) (kg.apart kr (by decide)) _
      have hB9 := hB8.setCell (p := ⟨r, k, none⟩) hr (.slice Ax nx cx)
      generalize (u4.setCell ⟨r, k, none⟩ (.slice Ax nx cx)) = u5 at kr5 kg5 hB9 ⊢
      clear kg kr hB8 cY fY hHeld
      go_wp2_with fail
      go_roundw
      case rel => exact ⟨k + 1, _, by go_num, by omega, kg5, kr5, Lib.hid (fun _ => rfl), hB9⟩
      case measure => simp [intOf]; omega
    · obtain rfl : k = 1 := by omega
      obtain rfl := hY.out rfl
      go_wp2_with fail
      go_ret2
      exact ⟨g, rfl, ⟨⟨r, 0, 1, Ax, nx, cx, (kg.cell 0).trans rfl, (kg.cell 1).trans rfl, (kr.cell 0).trans rfl, hSx.on hB⟩⟩, hB⟩
set_option maxHeartbeats 8000000 in
set_option maxRecDepth 100000 in
theorem close1 (g N : Nat) (v : Value) (w : World) (hM : MxAt w g) (hN : N ≤ 1) (h : SetAt w w.heap.size v N) (hT : Tab w) :
    Calls Tryz.prog 55 #[.pointer (some ⟨g, 0, none⟩), v] w fun e w' => ∃ v', e = .returned v' ∧ SetAt w' w'.heap.size v' 1 ∧ Below w.heap.size w w' := by
  have hg0 : 0 < w.heap.size := World.block_lt_of_cell? w _ (hT 0 (by omega))
  obtain ⟨A, n, c, rfl, h⟩ := set_agg h
  have b2 : Below w.heap.size w ((w.alloc (.cells #[.slice A n c] 63)).alloc (.cells #[.slice none 0 0] 63)) := bAl (bAl (Below.refl _ _) _) _
  have kB := (Blk.new w 63 #[.slice A n c]).alloc (.cells #[.slice none 0 0] 63)
  have kR := Blk.new (w.alloc (.cells #[.slice A n c] 63)) 63 #[.slice none 0 0]
  rw [World.size_alloc] at kR
  go_enter Tryz.func55, Tryz.ntmps55
  go_upto_region 1 with fail
  generalize ((w.alloc (.cells #[.slice A n c] 63)).alloc (.cells #[.slice none 0 0] 63)) = W2 at b2 kB kR ⊢
  have x0 : W2.cell? ⟨w.heap.size, 0, none⟩ = some (.slice A n c) := (kB.cell 0).trans rfl
  have hhv := having1 g N _ W2 (hM.on b2) hN (h.on b2) (hT.below b2 hg0)
  have hlt := kR.lt
  go_wp2_with fail
  refine hhv.mono ?_
  rintro e w3 ⟨v3, rfl, s3, b3⟩
  have b13 := b2.trans (b3.mono b2.size)
  have hcm := common1 g 1 v3 w3 (hM.on b13) (by omega) s3 (hT.below b13 hg0)
  have kR3 := kR.on b3
  go_wp2_with fail
  refine hcm.mono ?_
  rintro e w4 ⟨v4, rfl, s4, b4⟩
  obtain ⟨A4, n4, c4, rfl, s4⟩ := set_agg s4
  have kR4 := kR3.on b4
  have x4 : w4.cell? ⟨w.heap.size + 1, 0, none⟩ = some (.slice none 0 0) := (kR4.cell 0).trans rfl
  have f4 := kR4.frozen 0
  go_wp2_with fail
  have kS := kR4.put 0 (.slice A4 n4 c4)
  refine ret_set rfl (w.heap.size + 1) (.slice A4 n4 c4) rfl (by simpa using kS) rfl ?_
  have b14 := b13.trans (b4.mono b13.size)
  exact ⟨_, rfl, s4.off kR4 _, b14.setCell (p := ⟨w.heap.size + 1, 0, none⟩) (by simp) _⟩
set_option maxHeartbeats 8000000 in
set_option maxRecDepth 100000 in
theorem cof1 (g : Nat) (v : Value) (w : World) (hM : MxAt w g) (h : SetAt w w.heap.size v 1) (hT : Tab w) :
    Calls Tryz.prog 56 #[.pointer (some ⟨g, 0, none⟩), v] w fun e w' => ∃ A n c A2 n2 c2, e = .returned (.agg #[.slice A n c, .slice A2 n2 c2]) ∧ Below w.heap.size w w' := by
  have hg0 : 0 < w.heap.size := World.block_lt_of_cell? w _ (hT 0 (by omega))
  obtain ⟨A, n, c, rfl, h⟩ := set_agg h
  have b2 : Below w.heap.size w ((w.alloc (.cells #[.slice A n c] 63)).alloc (.cells #[.slice none 0 0, .slice none 0 0] 120)) := bAl (bAl (Below.refl _ _) _) _
  have kB := (Blk.new w 63 #[.slice A n c]).alloc (.cells #[.slice none 0 0, .slice none 0 0] 120)
  have kR := Blk.new (w.alloc (.cells #[.slice A n c] 63)) 120 #[.slice none 0 0, .slice none 0 0]
  rw [World.size_alloc] at kR
  go_enter Tryz.func56, Tryz.ntmps56
  go_upto_region 1 with fail
  generalize ((w.alloc (.cells #[.slice A n c] 63)).alloc (.cells #[.slice none 0 0, .slice none 0 0] 120)) = W2 at b2 kB kR ⊢
  have x0 : W2.cell? ⟨w.heap.size, 0, none⟩ = some (.slice A n c) := (kB.cell 0).trans rfl
  obtain ⟨SS, hSS⟩ : ∃ S : World → Prop, S = (fun W => W.cell? ⟨w.heap.size, 0, none⟩ = some (.slice A n c)) := ⟨_, rfl⟩
  refine wp_region_F (fun _ => false) SS (by kernel_rfl) (by rw [hSS]; exact x0) (fun hHeld => ?_)
  have bd : Below W2.heap.size W2 W2.drew := (Below.refl _ _).drew
  have kB := kB.on bd
  have kR := kR.on bd
  have b3 := b2.trans (bd.mono b2.size)
  clear x0 b2 bd
  generalize W2.drew = u1 at kB kR b3 hHeld ⊢
  refine wpAnyF_take (i := 0) (v := ?_) rfl (by kernel_rfl) (by kernel_rfl) (by kernel_rfl) (by kernel_rfl) (fun _ _ _ h => h) hHeld (Or.inl ⟨by rfl, ?_⟩) ?_
  rotate_left
  · (intro w hSw; (try rw [hSS] at hSw); (try dsimp only at hSw); go_simp; try with_reducible rfl)
  try simp only [Act.put, List.getElem_toArray, List.getElem_cons_zero, List.getElem_cons_succ, List.setIfInBounds_toArray, List.set_cons_zero, List.set_cons_succ]
  refine wpAnyF_take (i := 1) (v := ?_) rfl (by kernel_rfl) (by kernel_rfl) (by kernel_rfl) (by kernel_rfl) (fun _ _ _ h => h) hHeld (Or.inl ⟨by rfl, ?_⟩) ?_
  rotate_left
  · (intro w hSw; (try rw [hSS] at hSw); (try dsimp only at hSw); go_simp; try with_reducible rfl)
  try simp only [Act.put, List.getElem_toArray, List.getElem_cons_zero, List.getElem_cons_succ, List.setIfInBounds_toArray, List.set_cons_zero, List.set_cons_succ]
  refine wpAnyF_take (i := 3) (v := ?_) rfl (by kernel_rfl) (by kernel_rfl) (by kernel_rfl) (by kernel_rfl) (fun _ _ _ h => h) hHeld (Or.inl ⟨by rfl, ?_⟩) ?_
  rotate_left
  · (intro w hSw; (try rw [hSS] at hSw); (try dsimp only at hSw); go_simp; try with_reducible rfl)
  try simp only [Act.put, List.getElem_toArray, List.getElem_cons_zero, List.getElem_cons_succ, List.setIfInBounds_toArray, List.set_cons_zero, List.set_cons_succ]
  refine wpAnyF_take (i := 4) (v := ?_) rfl (by kernel_rfl) (by kernel_rfl) (by kernel_rfl) (by kernel_rfl) (fun _ _ _ h => h) hHeld (Or.inl ⟨by rfl, ?_⟩) ?_
  rotate_left
  · (intro w hSw; (try rw [hSS] at hSw); (try dsimp only at hSw); go_simp; try with_reducible rfl)
  try simp only [Act.put, List.getElem_toArray, List.getElem_cons_zero, List.getElem_cons_succ, List.setIfInBounds_toArray, List.set_cons_zero, List.set_cons_succ]
  have hhv := having1 g 1 _ u1 (hM.on b3) (by omega) (h.on b3) (hT.below b3 hg0)
  refine wpAnyF_one (i := 2) (by kernel_rfl) rfl (fun K hK => ?_)
  go_simp
  go_at_call 87
  refine hhv.mono ?_
  rintro e u2 ⟨v2, rfl, s2, b4⟩
  obtain ⟨A2, n2, c2, rfl, s2⟩ := set_agg s2
  try simp only []
  have kB2 := kB.on b4
  have kR2 := kR.on b4
  have b13 := b3.trans (b4.mono b3.size)
  refine hK.out _ _ (Or.inr (by rw [hSS]; exact kB2.cell 0)) ?_
  clear hK K
  try simp only [Act.put, List.getElem_toArray, List.getElem_cons_zero, List.getElem_cons_succ, List.setIfInBounds_toArray, List.set_cons_zero, List.set_cons_succ]
  clear hhv kB kR b3 b4
  have hcl := close1 g 1 _ u2 (hM.on b13) (by omega) (h.on b13) (hT.below b13 hg0)
  refine wpAnyF_one (i := 5) (by kernel_rfl) rfl (fun K hK => ?_)
  go_simp
  go_at_call 55
  refine hcl.mono ?_
  rintro e u3 ⟨v3, rfl, s3, b5⟩
  obtain ⟨A3, n3, c3, rfl, s3⟩ := set_agg s3
  try simp only []
  have kB3 := kB2.on b5
  have kR3 := kR2.on b5
  have b14 := b13.trans (b5.mono b13.size)
  refine hK.out _ _ (Or.inr (by rw [hSS]; exact kB3.cell 0)) ?_
  clear hK K
  try simp only [Act.put, List.getElem_toArray, List.getElem_cons_zero, List.getElem_cons_succ, List.setIfInBounds_toArray, List.set_cons_zero, List.set_cons_succ]
  clear hcl kB2 kR2 b13 b5
  refine wpAnyF_one (i := 6) (by kernel_rfl) rfl (fun K hK => ?_)
  go_simp
  refine hK.out _ _ (Or.inr (by rw [hSS]; exact kB3.cell 0)) ?_
  clear hK K
  try simp only [Act.put, List.getElem_toArray, List.getElem_cons_zero, List.getElem_cons_succ, List.setIfInBounds_toArray, List.set_cons_zero, List.set_cons_succ]
  have y0 : u3.cell? ⟨w.heap.size + 1, 0, none⟩ = some (.slice none 0 0) := (kR3.cell 0).trans rfl
  have y1 : u3.cell? ⟨w.heap.size + 1, 1, none⟩ = some (.slice none 0 0) := (kR3.cell 1).trans rfl
  have f0 := kR3.frozen 0
  have f1 := kR3.frozen 1
  have kR4 : Blk (u3.setCell ⟨w.heap.size + 1, 0, none⟩ (.slice A2 n2 c2)) (w.heap.size + 1) 120 #[.slice A2 n2 c2, .slice none 0 0] := by simpa using kR3.put 0 (.slice A2 n2 c2)
  have y2 : (u3.setCell ⟨w.heap.size + 1, 0, none⟩ (.slice A2 n2 c2)).cell? ⟨w.heap.size + 1, 1, none⟩ = some (.slice none 0 0) := (kR4.cell 1).trans rfl
  have kB5 : Blk ((u3.setCell ⟨w.heap.size + 1, 0, none⟩ (.slice A2 n2 c2)).setCell ⟨w.heap.size + 1, 1, none⟩ (.slice A3 n3 c3)) w.heap.size 63 #[.slice A n c] := (kB3.far (p := ⟨w.heap.size + 1, 0, none⟩) (by simp) _).far (p := ⟨w.heap.size + 1, 1, none⟩) (by simp) _
  refine wpAnyF_one (i := 7) (by kernel_rfl) rfl (fun K hK => ?_)
  go_simp
  refine hK.out _ _ (Or.inr (by rw [hSS]; exact kB5.cell 0)) ?_
  clear hK K
  try simp only [Act.put, List.getElem_toArray, List.getElem_cons_zero, List.getElem_cons_succ, List.setIfInBounds_toArray, List.set_cons_zero, List.set_cons_succ]
  refine wpAnyF_done (by kernel_rfl) ?_ _
  go_wp2_with fail
  have kS : Blk ((u3.setCell ⟨w.heap.size + 1, 0, none⟩ (.slice A2 n2 c2)).setCell ⟨w.heap.size + 1, 1, none⟩ (.slice A3 n3 c3)) (w.heap.size + 1) 120 #[.slice A2 n2 c2, .slice A3 n3 c3] := by simpa using kR4.put 1 (.slice A3 n3 c3)
  refine bodyPost_ret (results_cell_row (p := 4) (ty := 120) rfl _ _ (w.heap.size + 1) _ _ _ _ rfl kS Tryz.underlying120 rfl (by kernel_rfl)) rfl ?_
  exact ⟨A2, n2, c2, A3, n3, c3, rfl, (b14.setCell (p := ⟨w.heap.size + 1, 0, none⟩) (by simp) _).setCell (p := ⟨w.heap.size + 1, 1, none⟩) (by simp) _⟩
set_option maxHeartbeats 8000000 in
set_option maxRecDepth 100000 in
theorem next1 (g : Nat) (v : Value) (w : World) (hM : MxAt w g) (h : SetAt w w.heap.size v 1) :
    Calls Tryz.prog 57 #[.pointer (some ⟨g, 0, none⟩), v] w fun e w' => e = .returned (.tuple #[.agg #[.slice none 0 0], .bool false]) ∧ Below w.heap.size w w' := by
  obtain ⟨A, n, c, rfl, h⟩ := set_agg h
  have b2 : Below w.heap.size w ((w.alloc (.cells #[.slice A n c] 63)).alloc (.cells #[.slice none 0 0] 63)) := bAl (bAl (Below.refl _ _) _) _
  have kB := (Blk.new w 63 #[.slice A n c]).alloc (.cells #[.slice none 0 0] 63)
  have kR := Blk.new (w.alloc (.cells #[.slice A n c] 63)) 63 #[.slice none 0 0]
  rw [World.size_alloc] at kR
  go_enter Tryz.func57, Tryz.ntmps57
  go_upto_region 1 with fail
  generalize ((w.alloc (.cells #[.slice A n c] 63)).alloc (.cells #[.slice none 0 0] 63)) = W2 at b2 kB kR ⊢
  have hcl := cols1 g W2 (hM.on b2)
  have hS2 := h.on b2
  go_wp2_with fail
  refine hcl.mono ?_
  rintro e w3 ⟨rfl, rfl⟩
  go_wp2_with fail
  go_loopw [6] (fun v6 wr => ∃ z : Int, v6 = .int .i64 z ∧ (z = 0 ∨ z = -1) ∧ (∃ A n c, Blk wr w.heap.size 63 #[.slice A n c] ∧ (z = 0 → SetAt wr wr.heap.size (.agg #[.slice A n c]) 1)) ∧ Blk wr (w.heap.size + 1) 63 #[.slice none 0 0] ∧ Below w.heap.size w wr) (fun v6 _ => (intOf v6 + 1).toNat)
  case atStart => exact ⟨0, rfl, Or.inl rfl, ⟨A, n, c, kB, fun _ => hS2⟩, kR, b2⟩
  case round =>
    clear kB kR b2 hS2 hcl
    obtain ⟨z, rfl, hz, ⟨A1, n1, c1, kB, hS⟩, kR, hB⟩ := hrel
    by_cases h0 : z = 0
    · have hS1 := hS h0
      have z0 : ¬ z < 0 := by omega
      have z1 : (0 : Int) ≤ z := by omega
      have z2 : z ≤ 0 := by omega
      have hh : Calls Tryz.prog 59 #[.agg #[.slice A1 n1 c1], .int .i64 z] wr fun e w' => e = .returned (.bool true) ∧ Below wr.heap.size wr w' := by
        rw [h0]; exact has_any _ 1 0 wr hS1 (by omega)
      have x0 : wr.cell? ⟨w.heap.size, 0, none⟩ = some (.slice A1 n1 c1) := (kB.cell 0).trans rfl
      have hwo : ∀ W, Below wr.heap.size wr W → Calls Tryz.prog 89 #[.agg #[.slice A1 n1 c1], .int .i64 z] W fun e w' => ∃ v', e = .returned v' ∧ SetAt w' w'.heap.size v' (clrU 1 0) ∧ Below W.heap.size W w' := fun W hW => by
        rw [h0]; exact without_any _ 1 0 W (hS1.on hW) (by omega)
      have Z0 := Lib.hid h0
      clear h0 hS hz
      go_wp2_with fail
      refine hh.mono ?_
      rintro e w4 ⟨rfl, b4⟩
      have kB4 := kB.on b4
      have kR4 := kR.on b4
      have x4 : w4.cell? ⟨w.heap.size, 0, none⟩ = some (.slice A1 n1 c1) := (kB4.cell 0).trans rfl
      have hB4 := hB.trans (b4.mono hB.size)
      have hwo := hwo w4 b4
      go_wp2_with fail
      refine hwo.mono ?_
      rintro e w5 ⟨v5, rfl, s5, b5⟩
      obtain ⟨A5, n5, c5, rfl, s5⟩ := set_agg s5
      have kB5 := kB4.on b5
      have kR5 := kR4.on b5
      have hB5 := hB4.trans (b5.mono hB4.size)
      have x5 : w5.cell? ⟨w.heap.size, 0, none⟩ = some (.slice A1 n1 c1) := (kB5.cell 0).trans rfl
      have f5 := kB5.frozen 0
      go_wp2_with fail
      have kB6 : Blk (w5.setCell ⟨w.heap.size, 0, none⟩ (.slice A5 n5 c5)) w.heap.size 63 #[.slice A5 n5 c5] := by simpa using kB5.put 0 (.slice A5 n5 c5)
      have kR6 : Blk (w5.setCell ⟨w.heap.size, 0, none⟩ (.slice A5 n5 c5)) (w.heap.size + 1) 63 #[.slice none 0 0] := kR5.far (p := ⟨w.heap.size, 0, none⟩) (by simp) _
      have hB6 := hB5.setCell (p := ⟨w.heap.size, 0, none⟩) (Nat.le_refl _) (.slice A5 n5 c5)
      go_roundw
      case rel => exact ⟨z - 1, by go_num, by have := Z0.out; omega, ⟨A5, n5, c5, kB6, fun e => by have := Z0.out; omega⟩, kR6, hB6⟩
      case measure => have := Z0.out; simp [intOf]; omega
    · have z0 : z < 0 := by omega
      have z1 : ¬ (0 : Int) ≤ z := by omega
      have x0 : wr.cell? ⟨w.heap.size + 1, 0, none⟩ = some (.slice none 0 0) := (kR.cell 0).trans rfl
      have f0 := kR.frozen 0
      clear h0 hz hS
      go_wp2_with fail
      have kS : Blk (wr.setCell ⟨w.heap.size + 1, 0, none⟩ (.slice none 0 0)) (w.heap.size + 1) 63 #[.slice none 0 0] := by simpa using kR.put 0 (.slice none 0 0)
      refine bodyPost_ret (results_ctt rfl _ _ (w.heap.size + 1) _ _ _ _ rfl kS Tryz.underlying63 rfl (by kernel_rfl)) rfl ?_
      exact ⟨rfl, hB.setCell (p := ⟨w.heap.size + 1, 0, none⟩) (by simp) _⟩
end Go.Proofs.YtcnofhlgiffkjaaGreatDoor
