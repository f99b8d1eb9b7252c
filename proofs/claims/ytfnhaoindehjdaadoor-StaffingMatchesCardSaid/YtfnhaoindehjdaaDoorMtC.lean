/- The walk of matching.move. (genmv.py) -/
import Derived.Test.YtfnhaoindehjdaaDoorMtD
import Derived.Deep.CutBlock
namespace Go.Proofs.YtfnhaoindehjdaaDoor
open Go.RowKit
set_option linter.unusedVariables false
set_option linter.unusedSimpArgs false
theorem info136 : (Tryd.prog.info? 136).map (·.size) = some 256 := by kernel_rfl
theorem und136 : Tryd.prog.underlying 136 = some (.array 256 3) := by kernel_rfl
theorem own_zero {w : World} {B n c : Nat} {A : Option Addr} {l : List Int} (h : OwnI w B (.slice A n c) n l) (hn : 0 < n) : ∃ lo, A = some ⟨lo, 0, none⟩ ∧ B ≤ lo := by
  rcases h.2 with ⟨h1, h2⟩ | ⟨g', cap, cur, hv, hb, hg, _⟩
  · omega
  · injection hv with hv
    exact ⟨g', hv, hb⟩
theorem own_lt {w : World} {B n c lo : Nat} {l : List Int} (h : OwnI w B (.slice (some ⟨lo, 0, none⟩) n c) n l) : lo < w.heap.size := (h.lt lo rfl).2
set_option maxHeartbeats 16000000 in
set_option maxRecDepth 100000 in
/-- move. -/
theorem move_any (g l n cg cl i j j0 : Nat) (Ag : Option Addr) (gr : Nat → List Nat) (F : Nat → Bool) (s : MSt) (w : World) (hs : SrAt w g l n cg cl Ag gr F s) (hn : n ≤ 256) (hg : ∀ a, a < n → ∀ x ∈ gr a, x < 256) (hi : i < n) (hj : j < 256) (hj0 : j0 < 256) (h0 : s.L i = some j0) (hne : j ≠ j0) (hRb : ∀ x k, s.R x = some k → k < n) :
    Calls Tryd.prog 77 #[.pointer (some ⟨g, 0, none⟩), .int .i64 (i : Int), .int .i64 (j : Int)] w fun e w' => ∃ b t l' cl', e = .returned (.bool b) ∧ Mv gr F i j j0 s b t ∧ SrAt w' g l' n cg cl' Ag gr F t ∧ (l' = l ∨ w.heap.size ≤ l') ∧ Kl w w' g l := by
  obtain ⟨Z, hZ⟩ : ∃ Z : List Value, Hid (Z = zR s) := ⟨_, Lib.hid rfl⟩
  have hZl : Z.length = 256 := by rw [hZ.out]; exact zR_len s
  have rg : ∀ W, SrAt W g l n cg cl Ag gr F s → W.rangeAt g 2 Z := fun W hW => by rw [hZ.out]; exact hW.rangeR
  have hcl := fun W (hW : SrAt W g l n cg cl Ag gr F s) => cloneI_any (some ⟨l, 0, none⟩) n cl ((List.range n).map fun a => oz (s.L a)) W hW.left (by simp) (by omega)
  have hi' : (i : Int) < (n : Int) := by omega
  have hj' : (j : Int) < 256 := by omega
  have hj0' : (j0 : Int) < 256 := by omega
  have hnr : (n : Int) ≤ 256 := by omega
  go_enter Tryd.func77, Tryd.ntmps77
  go_upto_region 1 with fail
  go_cut [7, 8] from 10 to 19 (fun v7 v8 wx => ∃ (lo c4 gx : Nat), v7 = .slice (some ⟨lo, 0, none⟩) n c4 ∧ v8 = .pointer (some ⟨gx, 0, none⟩) ∧ SrAt wx g l n cg cl Ag gr F s ∧ MvS w wx g l lo gx n s ∧ Below w.heap.size w wx)
  case first =>
    obtain ⟨SS, hSS⟩ : ∃ S : World → Prop, S = (fun W => W.cell? ⟨g, 1, none⟩ = some (.slice (some ⟨l, 0, none⟩) n cl) ∧ W.rangeAt g 2 Z) := ⟨_, rfl⟩
    refine wp_region_F (fun _ => false) SS (by kernel_rfl) (by rw [hSS]; exact ⟨hs.c1, rg w hs⟩) (fun hHeld => ?_)
    have hs3' := hs.drew
    obtain ⟨u3, hu3⟩ : ∃ u3, u3 = w.drew := ⟨_, rfl⟩
    have hs3 := hs
    have b3 : Below w.heap.size w u3 := by rw [hu3]; exact (Below.refl _ _).drew
    have z3 : u3.heap.size = w.heap.size := by rw [hu3]; rfl
    rw [← hu3] at hs3' hHeld ⊢
    clear hu3
    refine wpAnyF_take (i := 0) (v := ?_) rfl (by kernel_rfl) (by kernel_rfl) (by kernel_rfl) (by kernel_rfl) (fun _ _ _ h => h) hHeld (Or.inl ⟨by rfl, ?_⟩) ?_
    rotate_left
    · (intro w hSw; (try rw [hSS] at hSw); (try dsimp only at hSw); go_simp; try with_reducible rfl)
    try simp only [Act.put, List.getElem_toArray, List.getElem_cons_zero, List.getElem_cons_succ, List.setIfInBounds_toArray, List.set_cons_zero, List.set_cons_succ]
    refine wpAnyF_take (i := 1) (v := ?_) rfl (by kernel_rfl) (by kernel_rfl) (by kernel_rfl) (by kernel_rfl) (fun _ _ _ h => h) hHeld (Or.inl ⟨by rfl, ?_⟩) ?_
    rotate_left
    · (intro w hSw; (try rw [hSS] at hSw); (try dsimp only at hSw); go_simp; try with_reducible rfl)
    try simp only [Act.put, List.getElem_toArray, List.getElem_cons_zero, List.getElem_cons_succ, List.setIfInBounds_toArray, List.set_cons_zero, List.set_cons_succ]
    refine wpAnyF_take (i := 2) (v := ?_) rfl (by kernel_rfl) (by kernel_rfl) (by kernel_rfl) (by kernel_rfl) (fun _ _ _ h => h) hHeld (Or.inl ⟨by rfl, ?_⟩) ?_
    rotate_left
    · (intro w hSw; (try rw [hSS] at hSw); (try dsimp only at hSw); go_simp; try with_reducible rfl)
    try simp only [Act.put, List.getElem_toArray, List.getElem_cons_zero, List.getElem_cons_succ, List.setIfInBounds_toArray, List.set_cons_zero, List.set_cons_succ]
    refine wpAnyF_take (i := 3) (v := ?_) rfl (by kernel_rfl) (by kernel_rfl) (by kernel_rfl) (by kernel_rfl) (fun _ _ _ h => h) hHeld (Or.inl ⟨by rfl, ?_⟩) ?_
    rotate_left
    · (intro w hSw; (try rw [hSS] at hSw); (try dsimp only at hSw); go_simp; try with_reducible rfl)
    try simp only [Act.put, List.getElem_toArray, List.getElem_cons_zero, List.getElem_cons_succ, List.setIfInBounds_toArray, List.set_cons_zero, List.set_cons_succ]
    refine wpAnyF_take (i := 5) (v := ?_) rfl (by kernel_rfl) (by kernel_rfl) (by kernel_rfl) (by kernel_rfl) (fun _ _ _ h => h) hHeld (Or.inl ⟨by rfl, ?_⟩) ?_
    rotate_left
    · (intro w hSw; (try rw [hSS] at hSw); (try dsimp only at hSw); go_simp; try with_reducible rfl)
    try simp only [Act.put, List.getElem_toArray, List.getElem_cons_zero, List.getElem_cons_succ, List.setIfInBounds_toArray, List.set_cons_zero, List.set_cons_succ]
    refine wpAnyF_take (i := 6) (v := ?_) rfl (by kernel_rfl) (by kernel_rfl) (by kernel_rfl) (by kernel_rfl) (fun _ _ _ h => h) hHeld (Or.inl ⟨by rfl, ?_⟩) ?_
    rotate_left
    · (intro w hSw; (try rw [hSS] at hSw); (try dsimp only at hSw); go_simp; try with_reducible rfl)
    try simp only [Act.put, List.getElem_toArray, List.getElem_cons_zero, List.getElem_cons_succ, List.setIfInBounds_toArray, List.set_cons_zero, List.set_cons_succ]
    refine wpAnyF_take (i := 7) (v := ?_) rfl (by kernel_rfl) (by kernel_rfl) (by kernel_rfl) (by kernel_rfl) (fun _ _ _ h => h) hHeld (Or.inl ⟨by rfl, ?_⟩) ?_
    rotate_left
    · (intro w hSw; (try rw [hSS] at hSw); (try dsimp only at hSw); go_simp; try with_reducible rfl)
    try simp only [Act.put, List.getElem_toArray, List.getElem_cons_zero, List.getElem_cons_succ, List.setIfInBounds_toArray, List.set_cons_zero, List.set_cons_succ]
    refine wpAnyF_take (i := 8) (v := .agg Z.toArray) rfl (by kernel_rfl) (by kernel_rfl) (by kernel_rfl) (by kernel_rfl) (fun _ _ _ h => h) hHeld (yieldsIf_load_mid (by rfl) 136 (.tmp 17) rfl g 2 rfl Z _ (fun W hW => by rw [hSS] at hW; exact hW.2) und136 rfl (by rw [hZl]; exact info136)) ?_
    try simp only [Act.put, List.getElem_toArray, List.getElem_cons_zero, List.getElem_cons_succ, List.setIfInBounds_toArray, List.set_cons_zero, List.set_cons_succ]
    refine wpAnyF_two (i := 4) (k := 9) (by kernel_rfl) rfl rfl (fun K hK => ?_) (fun K hK => ?_)
    · go_simp
      go_at_call 24
      refine (hcl u3 hs3').mono ?_
      rintro e u4 ⟨A4, c4, rfl, o4, b4⟩
      obtain ⟨lo, rfl, hlo⟩ := own_zero o4 (by omega)
      try simp only []
      have s4 : SrAt u4 g l n cg cl Ag gr F s := hs3'.on b4
      have S4 : SS u4 := by rw [hSS]; exact ⟨s4.c1, rg u4 s4⟩
      refine hK.out _ _ (Or.inr S4) ?_
      clear hK K
      try simp only [Act.put, List.getElem_toArray, List.getElem_cons_zero, List.getElem_cons_succ, List.setIfInBounds_toArray, List.set_cons_zero, List.set_cons_succ]
      refine wpAnyF_one (i := 9) (by kernel_rfl) rfl (fun K hK => ?_)
      go_simp
      have b5 : Below u4.heap.size u4 (u4.alloc (.cells Tryd.zeroCells136 136)) := bAl (Below.refl _ _) _
      have o5 := o4.on b5
      have s5 := s4.on b5
      have th := there_new u4 Tryd.zeroCells136 136 (n := 256) (by kernel_rfl)
      have S5 : SS (u4.alloc (.cells Tryd.zeroCells136 136)) := by rw [hSS]; exact ⟨s5.c1, rg _ s5⟩
      have hB5 : Below w.heap.size w (u4.alloc (.cells Tryd.zeroCells136 136)) := (b3.trans (b4.mono b3.size)).trans (b5.mono (Nat.le_trans b3.size b4.size))
      have hz4 := b4.size
      have hlt := own_lt o4
      refine hK.out _ _ (Or.inr S5) ?_
      clear hK K
      try simp only [Act.put, List.getElem_toArray, List.getElem_cons_zero, List.getElem_cons_succ, List.setIfInBounds_toArray, List.set_cons_zero, List.set_cons_succ]
      obtain ⟨sF, mF, bF⟩ := mvs_fin (v := (u4.alloc (.cells Tryd.zeroCells136 136))) (gx := u4.heap.size) (lo := lo) (c4 := c4) hs3 hB5 (by omega) (by omega) (by omega) (by omega) o5 th
      refine wpAnyF_one (i := 10) (by kernel_rfl) rfl (fun K hK => ?_)
      go_simp
      refine hK.out _ _ (Or.inr S5) ?_
      clear hK K
      try simp only [Act.put, List.getElem_toArray, List.getElem_cons_zero, List.getElem_cons_succ, List.setIfInBounds_toArray, List.set_cons_zero, List.set_cons_succ]
      refine wpAnyF_one (i := 11) (by kernel_rfl) rfl (fun K hK => ?_)
      rw [if_pos (by rfl)]
      refine wp_store_mid 136 (.tmp 8) (.tmp 18) rfl u4.heap.size 0 Z.toArray rfl rfl ?_ ?_ ?_ ?_
      · rw [hZ.out]; simpa [zR_len] using th
      · rw [hZ.out]; simpa [zR_len] using info136
      · rw [hZ.out]; exact zR_one s
      simp only []
      rw [hZ.out]
      generalize ((u4.alloc (.cells Tryd.zeroCells136 136)).setCells u4.heap.size 0 (zR s).toArray.toList) = w5 at *
      refine hK.out _ _ (Or.inr (by rw [hSS]; exact ⟨sF.c1, by rw [hZ.out]; exact sF.rangeR⟩)) ?_
      clear hK K
      try simp only [Act.put, List.getElem_toArray, List.getElem_cons_zero, List.getElem_cons_succ, List.setIfInBounds_toArray, List.set_cons_zero, List.set_cons_succ]
      refine wpAnyF_done (by kernel_rfl) ?_ _
      go_wp2_with fail
      go_meet
      exact ⟨lo, c4, u4.heap.size, rfl, rfl, sF, mF, bF⟩
    · go_simp
      have b5 : Below u3.heap.size u3 (u3.alloc (.cells Tryd.zeroCells136 136)) := bAl (Below.refl _ _) _
      have s5 := hs3'.on b5
      have th5 := there_new u3 Tryd.zeroCells136 136 (n := 256) (by kernel_rfl)
      have S5' : SS (u3.alloc (.cells Tryd.zeroCells136 136)) := by rw [hSS]; exact ⟨s5.c1, rg _ s5⟩
      have z5 : (u3.alloc (.cells Tryd.zeroCells136 136)).heap.size = u3.heap.size + 1 := by simp
      refine hK.out _ _ (Or.inr S5') ?_
      clear hK K
      generalize (u3.alloc (.cells Tryd.zeroCells136 136)) = v4 at b5 s5 th5 S5' z5 ⊢
      try simp only [Act.put, List.getElem_toArray, List.getElem_cons_zero, List.getElem_cons_succ, List.setIfInBounds_toArray, List.set_cons_zero, List.set_cons_succ]
      refine wpAnyF_one (i := 4) (by kernel_rfl) rfl (fun K hK => ?_)
      go_simp
      go_at_call 24
      refine (hcl v4 s5).mono ?_
      rintro e u4 ⟨A4, c4, rfl, o4, b4⟩
      obtain ⟨lo, rfl, hlo⟩ := own_zero o4 (by omega)
      try simp only []
      have s6 : SrAt u4 g l n cg cl Ag gr F s := s5.on b4
      have S5 : SS u4 := by rw [hSS]; exact ⟨s6.c1, rg u4 s6⟩
      have hB5 : Below w.heap.size w u4 := (b3.trans (b5.mono b3.size)).trans (b4.mono (by omega))
      have hx5 : u3.heap.size < v4.heap.size := by omega
      have th : u4.there w.heap.size 0 256 := fun q hq => by
        rw [← z3]
        obtain ⟨h1, h2⟩ := th5 q hq
        refine ⟨?_, (World.frozen?_of_block (b4.block _ hx5)).trans h2⟩
        rw [World.cell?_of_block (a := ⟨u3.heap.size, 0 + q, none⟩) (b4.block _ hx5)]
        exact h1
      clear z5
      refine hK.out _ _ (Or.inr S5) ?_
      clear hK K
      try simp only [Act.put, List.getElem_toArray, List.getElem_cons_zero, List.getElem_cons_succ, List.setIfInBounds_toArray, List.set_cons_zero, List.set_cons_succ]
      obtain ⟨sF, mF, bF⟩ := mvs_fin (v := u4) (gx := w.heap.size) (lo := lo) (c4 := c4) hs3 hB5 (by omega) (by omega) (by omega) (by omega) o4 th
      refine wpAnyF_one (i := 10) (by kernel_rfl) rfl (fun K hK => ?_)
      go_simp
      refine hK.out _ _ (Or.inr S5) ?_
      clear hK K
      try simp only [Act.put, List.getElem_toArray, List.getElem_cons_zero, List.getElem_cons_succ, List.setIfInBounds_toArray, List.set_cons_zero, List.set_cons_succ]
      refine wpAnyF_one (i := 11) (by kernel_rfl) rfl (fun K hK => ?_)
      rw [if_pos (by rfl)]
      refine wp_store_mid 136 (.tmp 8) (.tmp 18) rfl w.heap.size 0 Z.toArray rfl rfl ?_ ?_ ?_ ?_
      · rw [hZ.out]; simpa [zR_len] using th
      · rw [hZ.out]; simpa [zR_len] using info136
      · rw [hZ.out]; exact zR_one s
      simp only []
      rw [hZ.out]
      generalize (u4.setCells w.heap.size 0 (zR s).toArray.toList) = w5 at *
      refine hK.out _ _ (Or.inr (by rw [hSS]; exact ⟨sF.c1, by rw [hZ.out]; exact sF.rangeR⟩)) ?_
      clear hK K
      try simp only [Act.put, List.getElem_toArray, List.getElem_cons_zero, List.getElem_cons_succ, List.setIfInBounds_toArray, List.set_cons_zero, List.set_cons_succ]
      refine wpAnyF_done (by kernel_rfl) ?_ _
      go_wp2_with fail
      go_meet
      exact ⟨lo, c4, w.heap.size, rfl, rfl, sF, mF, bF⟩
  case rest =>
    obtain ⟨lo, c4, gx, rfl, rfl, sA, mA, bA⟩ := hcut
    clear hcl rg hZl hZ
    go_upto_region 2 with fail
    have kA : Kl w wc g l := Kl.below bA
    obtain ⟨SS, hSS⟩ : ∃ S : World → Prop, S = (fun W => W.cell? ⟨g, 1, none⟩ = some (.slice (some ⟨l, 0, none⟩) n cl) ∧ W.cell? ⟨l, i, none⟩ = some (.int .i64 (j0 : Int))) := ⟨_, rfl⟩
    have lfi : ∀ W (t : MSt), SrAt W g l n cg cl Ag gr F t → t.L i = some j0 → W.cell? ⟨l, i, none⟩ = some (.int .i64 (j0 : Int)) := fun W t h e => by have := h.lf i hi; rw [e] at this; exact this
    have c1A := sA.c1
    have lfA := lfi wc s sA h0
    refine wp_region_F (fun _ => false) SS (by kernel_rfl) (by rw [hSS]; exact ⟨c1A, lfA⟩) (fun hHeld => ?_)
    have sA := sA.drew
    have kA := Kp.toKl kA (Kp.drew wc g l)
    have mA := mA.kp (Kp.drew wc g l)
    clear c1A lfA bA
    generalize wc.drew = w1 at sA kA mA hHeld ⊢
    have fg1 := sA.fg (2 + j0)
    have rt1 := sA.rt j0 hj0
    refine wpAnyF_take (i := 0) (v := ?_) rfl (by kernel_rfl) (by kernel_rfl) (by kernel_rfl) (by kernel_rfl) (fun _ _ _ h => h) hHeld (Or.inl ⟨by rfl, ?_⟩) ?_
    rotate_left
    · (intro w hSw; (try rw [hSS] at hSw); (try dsimp only at hSw); go_simp; try with_reducible rfl)
    try simp only [Act.put, List.getElem_toArray, List.getElem_cons_zero, List.getElem_cons_succ, List.setIfInBounds_toArray, List.set_cons_zero, List.set_cons_succ]
    refine wpAnyF_take (i := 1) (v := ?_) rfl (by kernel_rfl) (by kernel_rfl) (by kernel_rfl) (by kernel_rfl) (fun _ _ _ h => h) hHeld (Or.inl ⟨by rfl, ?_⟩) ?_
    rotate_left
    · (intro w hSw; (try rw [hSS] at hSw); (try dsimp only at hSw); go_simp; try with_reducible rfl)
    try simp only [Act.put, List.getElem_toArray, List.getElem_cons_zero, List.getElem_cons_succ, List.setIfInBounds_toArray, List.set_cons_zero, List.set_cons_succ]
    refine wpAnyF_take (i := 2) (v := ?_) rfl (by kernel_rfl) (by kernel_rfl) (by kernel_rfl) (by kernel_rfl) (fun _ _ _ h => h) hHeld (Or.inl ⟨by rfl, ?_⟩) ?_
    rotate_left
    · (intro w hSw; (try rw [hSS] at hSw); (try dsimp only at hSw); go_simp; try with_reducible rfl)
    try simp only [Act.put, List.getElem_toArray, List.getElem_cons_zero, List.getElem_cons_succ, List.setIfInBounds_toArray, List.set_cons_zero, List.set_cons_succ]
    refine wpAnyF_take (i := 3) (v := ?_) rfl (by kernel_rfl) (by kernel_rfl) (by kernel_rfl) (by kernel_rfl) (fun _ _ _ h => h) hHeld (Or.inl ⟨by rfl, ?_⟩) ?_
    rotate_left
    · (intro w hSw; (try rw [hSS] at hSw); (try dsimp only at hSw); go_simp; try with_reducible rfl)
    try simp only [Act.put, List.getElem_toArray, List.getElem_cons_zero, List.getElem_cons_succ, List.setIfInBounds_toArray, List.set_cons_zero, List.set_cons_succ]
    refine wpAnyF_take (i := 4) (v := ?_) rfl (by kernel_rfl) (by kernel_rfl) (by kernel_rfl) (by kernel_rfl) (fun _ _ _ h => h) hHeld (Or.inl ⟨by rfl, ?_⟩) ?_
    rotate_left
    · (intro w hSw; (try rw [hSS] at hSw); (try dsimp only at hSw); go_simp; try with_reducible rfl)
    try simp only [Act.put, List.getElem_toArray, List.getElem_cons_zero, List.getElem_cons_succ, List.setIfInBounds_toArray, List.set_cons_zero, List.set_cons_succ]
    refine wpAnyF_take (i := 5) (v := ?_) rfl (by kernel_rfl) (by kernel_rfl) (by kernel_rfl) (by kernel_rfl) (fun _ _ _ h => h) hHeld (Or.inl ⟨by rfl, ?_⟩) ?_
    rotate_left
    · (intro w hSw; (try rw [hSS] at hSw); (try dsimp only at hSw); go_simp; try with_reducible rfl)
    try simp only [Act.put, List.getElem_toArray, List.getElem_cons_zero, List.getElem_cons_succ, List.setIfInBounds_toArray, List.set_cons_zero, List.set_cons_succ]
    refine wpAnyF_take (i := 6) (v := ?_) rfl (by kernel_rfl) (by kernel_rfl) (by kernel_rfl) (by kernel_rfl) (fun _ _ _ h => h) hHeld (Or.inl ⟨by rfl, ?_⟩) ?_
    rotate_left
    · (intro w hSw; (try rw [hSS] at hSw); (try dsimp only at hSw); go_simp; try with_reducible rfl)
    try simp only [Act.put, List.getElem_toArray, List.getElem_cons_zero, List.getElem_cons_succ, List.setIfInBounds_toArray, List.set_cons_zero, List.set_cons_succ]
    refine wpAnyF_take (i := 7) (v := ?_) rfl (by kernel_rfl) (by kernel_rfl) (by kernel_rfl) (by kernel_rfl) (fun _ _ _ h => h) hHeld (Or.inl ⟨by rfl, ?_⟩) ?_
    rotate_left
    · (intro w hSw; (try rw [hSS] at hSw); (try dsimp only at hSw); go_simp; try with_reducible rfl)
    try simp only [Act.put, List.getElem_toArray, List.getElem_cons_zero, List.getElem_cons_succ, List.setIfInBounds_toArray, List.set_cons_zero, List.set_cons_succ]
    refine wpAnyF_take (i := 8) (v := ?_) rfl (by kernel_rfl) (by kernel_rfl) (by kernel_rfl) (by kernel_rfl) (fun _ _ _ h => h) hHeld (Or.inl ⟨by rfl, ?_⟩) ?_
    rotate_left
    · (intro w hSw; (try rw [hSS] at hSw); (try dsimp only at hSw); go_simp; try with_reducible rfl)
    try simp only [Act.put, List.getElem_toArray, List.getElem_cons_zero, List.getElem_cons_succ, List.setIfInBounds_toArray, List.set_cons_zero, List.set_cons_succ]
    refine wpAnyF_take (i := 9) (v := ?_) rfl (by kernel_rfl) (by kernel_rfl) (by kernel_rfl) (by kernel_rfl) (fun _ _ _ h => h) hHeld (Or.inl ⟨by rfl, ?_⟩) ?_
    rotate_left
    · (intro w hSw; (try rw [hSS] at hSw); (try dsimp only at hSw); go_simp; try with_reducible rfl)
    try simp only [Act.put, List.getElem_toArray, List.getElem_cons_zero, List.getElem_cons_succ, List.setIfInBounds_toArray, List.set_cons_zero, List.set_cons_succ]
    refine wpAnyF_take (i := 10) (v := ?_) rfl (by kernel_rfl) (by kernel_rfl) (by kernel_rfl) (by kernel_rfl) (fun _ _ _ h => h) hHeld (Or.inl ⟨by rfl, ?_⟩) ?_
    rotate_left
    · (intro w hSw; (try rw [hSS] at hSw); (try dsimp only at hSw); go_simp; try with_reducible rfl)
    try simp only [Act.put, List.getElem_toArray, List.getElem_cons_zero, List.getElem_cons_succ, List.setIfInBounds_toArray, List.set_cons_zero, List.set_cons_succ]
    have sB : SrAt (w1.setCell ⟨g, 2 + j0, none⟩ (.int .i64 (-1))) g l n cg cl Ag gr F ⟨s.L, upd s.R j0 none, s.S⟩ := sA.setR hj0 none
    have kpB : Kp w1 (w1.setCell ⟨g, 2 + j0, none⟩ (.int .i64 (-1))) g l := Kp.set ⟨g, 2 + j0, none⟩ _ (Or.inl rfl)
    have kB := Kp.toKl kA kpB
    have mB := mA.kp kpB
    refine wpAnyF_one (i := 11) (by kernel_rfl) rfl (fun K hK => ?_)
    go_simp
    refine hK.out _ _ (Or.inr (by rw [hSS]; exact ⟨sB.c1, lfi _ _ sB h0⟩)) ?_
    clear hK K
    try simp only [Act.put, List.getElem_toArray, List.getElem_cons_zero, List.getElem_cons_succ, List.setIfInBounds_toArray, List.set_cons_zero, List.set_cons_succ]
    generalize (w1.setCell ⟨g, 2 + j0, none⟩ (.int .i64 (-1))) = w2 at sB kB mB ⊢
    refine wpAnyF_done (by kernel_rfl) ?_ _
    clear sA kA mA kpB fg1 rt1 hHeld hSS SS lfi
    have hRj : upd s.R j0 none j = s.R j := upd_ne _ _ hne
    have rt2 : w2.cell? ⟨g, 2 + j, none⟩ = some (.int .i64 (oz (s.R j))) := by have := sB.rt j hj; rw [show (⟨s.L, upd s.R j0 none, s.S⟩ : MSt).R j = s.R j from hRj] at this; exact this
    obtain ⟨zz0, hzz⟩ : ∃ z, Hid (z = oz (s.R j)) := ⟨_, Lib.hid rfl⟩
    rw [← hzz.out] at rt2
    clear hRj
    go_upto_region 4 with fail
    obtain ⟨SS, hSS⟩ : ∃ S : World → Prop, S = (fun W => W.cell? ⟨g, 1, none⟩ = some (.slice (some ⟨l, 0, none⟩) n cl)) := ⟨_, rfl⟩
    refine wp_region_F (fun _ => false) SS (by kernel_rfl) (by rw [hSS]; exact sB.c1) (fun hHeld => ?_)
    have sB := sB.drew
    have kB := Kp.toKl kB (Kp.drew w2 g l)
    have mB := mB.kp (Kp.drew w2 g l)
    clear rt2
    generalize w2.drew = w3 at sB kB mB hHeld ⊢
    have fl3 := sB.fl i
    have lf3 := sB.lf i hi
    have fg3 := sB.fg (2 + j)
    refine wpAnyF_take (i := 0) (v := ?_) rfl (by kernel_rfl) (by kernel_rfl) (by kernel_rfl) (by kernel_rfl) (fun _ _ _ h => h) hHeld (Or.inl ⟨by rfl, ?_⟩) ?_
    rotate_left
    · (intro w hSw; (try rw [hSS] at hSw); (try dsimp only at hSw); go_simp; try with_reducible rfl)
    try simp only [Act.put, List.getElem_toArray, List.getElem_cons_zero, List.getElem_cons_succ, List.setIfInBounds_toArray, List.set_cons_zero, List.set_cons_succ]
    refine wpAnyF_take (i := 1) (v := ?_) rfl (by kernel_rfl) (by kernel_rfl) (by kernel_rfl) (by kernel_rfl) (fun _ _ _ h => h) hHeld (Or.inl ⟨by rfl, ?_⟩) ?_
    rotate_left
    · (intro w hSw; (try rw [hSS] at hSw); (try dsimp only at hSw); go_simp; try with_reducible rfl)
    try simp only [Act.put, List.getElem_toArray, List.getElem_cons_zero, List.getElem_cons_succ, List.setIfInBounds_toArray, List.set_cons_zero, List.set_cons_succ]
    refine wpAnyF_take (i := 2) (v := ?_) rfl (by kernel_rfl) (by kernel_rfl) (by kernel_rfl) (by kernel_rfl) (fun _ _ _ h => h) hHeld (Or.inl ⟨by rfl, ?_⟩) ?_
    rotate_left
    · (intro w hSw; (try rw [hSS] at hSw); (try dsimp only at hSw); go_simp; try with_reducible rfl)
    try simp only [Act.put, List.getElem_toArray, List.getElem_cons_zero, List.getElem_cons_succ, List.setIfInBounds_toArray, List.set_cons_zero, List.set_cons_succ]
    refine wpAnyF_take (i := 3) (v := ?_) rfl (by kernel_rfl) (by kernel_rfl) (by kernel_rfl) (by kernel_rfl) (fun _ _ _ h => h) hHeld (Or.inl ⟨by rfl, ?_⟩) ?_
    rotate_left
    · (intro w hSw; (try rw [hSS] at hSw); (try dsimp only at hSw); go_simp; try with_reducible rfl)
    try simp only [Act.put, List.getElem_toArray, List.getElem_cons_zero, List.getElem_cons_succ, List.setIfInBounds_toArray, List.set_cons_zero, List.set_cons_succ]
    refine wpAnyF_take (i := 4) (v := ?_) rfl (by kernel_rfl) (by kernel_rfl) (by kernel_rfl) (by kernel_rfl) (fun _ _ _ h => h) hHeld (Or.inl ⟨by rfl, ?_⟩) ?_
    rotate_left
    · (intro w hSw; (try rw [hSS] at hSw); (try dsimp only at hSw); go_simp; try with_reducible rfl)
    try simp only [Act.put, List.getElem_toArray, List.getElem_cons_zero, List.getElem_cons_succ, List.setIfInBounds_toArray, List.set_cons_zero, List.set_cons_succ]
    refine wpAnyF_take (i := 5) (v := ?_) rfl (by kernel_rfl) (by kernel_rfl) (by kernel_rfl) (by kernel_rfl) (fun _ _ _ h => h) hHeld (Or.inl ⟨by rfl, ?_⟩) ?_
    rotate_left
    · (intro w hSw; (try rw [hSS] at hSw); (try dsimp only at hSw); go_simp; try with_reducible rfl)
    try simp only [Act.put, List.getElem_toArray, List.getElem_cons_zero, List.getElem_cons_succ, List.setIfInBounds_toArray, List.set_cons_zero, List.set_cons_succ]
    refine wpAnyF_take (i := 6) (v := ?_) rfl (by kernel_rfl) (by kernel_rfl) (by kernel_rfl) (by kernel_rfl) (fun _ _ _ h => h) hHeld (Or.inl ⟨by rfl, ?_⟩) ?_
    rotate_left
    · (intro w hSw; (try rw [hSS] at hSw); (try dsimp only at hSw); go_simp; try with_reducible rfl)
    try simp only [Act.put, List.getElem_toArray, List.getElem_cons_zero, List.getElem_cons_succ, List.setIfInBounds_toArray, List.set_cons_zero, List.set_cons_succ]
    refine wpAnyF_take (i := 7) (v := ?_) rfl (by kernel_rfl) (by kernel_rfl) (by kernel_rfl) (by kernel_rfl) (fun _ _ _ h => h) hHeld (Or.inl ⟨by rfl, ?_⟩) ?_
    rotate_left
    · (intro w hSw; (try rw [hSS] at hSw); (try dsimp only at hSw); go_simp; try with_reducible rfl)
    try simp only [Act.put, List.getElem_toArray, List.getElem_cons_zero, List.getElem_cons_succ, List.setIfInBounds_toArray, List.set_cons_zero, List.set_cons_succ]
    refine wpAnyF_take (i := 8) (v := ?_) rfl (by kernel_rfl) (by kernel_rfl) (by kernel_rfl) (by kernel_rfl) (fun _ _ _ h => h) hHeld (Or.inl ⟨by rfl, ?_⟩) ?_
    rotate_left
    · (intro w hSw; (try rw [hSS] at hSw); (try dsimp only at hSw); go_simp; try with_reducible rfl)
    try simp only [Act.put, List.getElem_toArray, List.getElem_cons_zero, List.getElem_cons_succ, List.setIfInBounds_toArray, List.set_cons_zero, List.set_cons_succ]
    refine wpAnyF_take (i := 9) (v := ?_) rfl (by kernel_rfl) (by kernel_rfl) (by kernel_rfl) (by kernel_rfl) (fun _ _ _ h => h) hHeld (Or.inl ⟨by rfl, ?_⟩) ?_
    rotate_left
    · (intro w hSw; (try rw [hSS] at hSw); (try dsimp only at hSw); go_simp; try with_reducible rfl)
    try simp only [Act.put, List.getElem_toArray, List.getElem_cons_zero, List.getElem_cons_succ, List.setIfInBounds_toArray, List.set_cons_zero, List.set_cons_succ]
    refine wpAnyF_take (i := 11) (v := ?_) rfl (by kernel_rfl) (by kernel_rfl) (by kernel_rfl) (by kernel_rfl) (fun _ _ _ h => h) hHeld (Or.inl ⟨by rfl, ?_⟩) ?_
    rotate_left
    · (intro w hSw; (try rw [hSS] at hSw); (try dsimp only at hSw); go_simp; try with_reducible rfl)
    try simp only [Act.put, List.getElem_toArray, List.getElem_cons_zero, List.getElem_cons_succ, List.setIfInBounds_toArray, List.set_cons_zero, List.set_cons_succ]
    refine wpAnyF_take (i := 12) (v := ?_) rfl (by kernel_rfl) (by kernel_rfl) (by kernel_rfl) (by kernel_rfl) (fun _ _ _ h => h) hHeld (Or.inl ⟨by rfl, ?_⟩) ?_
    rotate_left
    · (intro w hSw; (try rw [hSS] at hSw); (try dsimp only at hSw); go_simp; try with_reducible rfl)
    try simp only [Act.put, List.getElem_toArray, List.getElem_cons_zero, List.getElem_cons_succ, List.setIfInBounds_toArray, List.set_cons_zero, List.set_cons_succ]
    have sC := sB.setL hi (some j)
    have kpC : Kp w3 (w3.setCell ⟨l, i, none⟩ (.int .i64 (oz (some j)))) g l := Kp.set ⟨l, i, none⟩ _ (Or.inr rfl)
    have kC := Kp.toKl kB kpC
    have mC := mB.kp kpC
    unfold oz at sC kC mC
    simp only [] at sC kC mC
    refine wpAnyF_one (i := 10) (by kernel_rfl) rfl (fun K hK => ?_)
    go_simp
    refine hK.out _ _ (Or.inr (by rw [hSS]; exact sC.c1)) ?_
    clear hK K
    try simp only [Act.put, List.getElem_toArray, List.getElem_cons_zero, List.getElem_cons_succ, List.setIfInBounds_toArray, List.set_cons_zero, List.set_cons_succ]
    generalize (w3.setCell ⟨l, i, none⟩ (.int .i64 (j : Int))) = w4 at sC kC mC ⊢
    clear fl3 lf3 fg3 kpC kB mB sB
    have fg4 := sC.fg (2 + j)
    have rt4 := sC.rt j hj
    refine wpAnyF_one (i := 13) (by kernel_rfl) rfl (fun K hK => ?_)
    go_simp
    refine hK.out _ _ (Or.inr (by rw [hSS]; exact sC.c1)) ?_
    clear hK K
    try simp only [Act.put, List.getElem_toArray, List.getElem_cons_zero, List.getElem_cons_succ, List.setIfInBounds_toArray, List.set_cons_zero, List.set_cons_succ]
    have sD := sC.setR hj (some i)
    have kpD : Kp w4 (w4.setCell ⟨g, 2 + j, none⟩ (.int .i64 (oz (some i)))) g l := Kp.set ⟨g, 2 + j, none⟩ _ (Or.inl rfl)
    have kD := Kp.toKl kC kpD
    have mD := mC.kp kpD
    unfold oz at sD kD mD
    simp only [] at sD kD mD
    refine wpAnyF_one (i := 14) (by kernel_rfl) rfl (fun K hK => ?_)
    go_simp
    refine hK.out _ _ (Or.inr (by rw [hSS]; exact sD.c1)) ?_
    clear hK K
    try simp only [Act.put, List.getElem_toArray, List.getElem_cons_zero, List.getElem_cons_succ, List.setIfInBounds_toArray, List.set_cons_zero, List.set_cons_succ]
    generalize (w4.setCell ⟨g, 2 + j, none⟩ (.int .i64 (i : Int))) = w5 at sD kD mD ⊢
    refine wpAnyF_done (by kernel_rfl) ?_ _
    clear fg4 rt4 kpD kC mC sC hSS SS hHeld
    cases hRx : s.R j with
    | none =>
      obtain rfl : zz0 = -1 := by rw [hzz.out, hRx]; rfl
      have HR := Lib.hid hRx
      clear hRx hzz
      go_wp2_with fail
      go_ret
      exact ⟨true, _, l, cl, rfl, Mv.free HR.out, sD, Or.inl rfl, kD⟩
    | some k =>
      obtain rfl : zz0 = (k : Int) := by rw [hzz.out, hRx]; rfl
      have hk : k < n := hRb j k hRx
      have hk' : (k : Int) < (n : Int) := by omega
      have hk0 : ¬ (k : Int) < 0 := by omega
      have HR := Lib.hid hRx
      clear hRx hzz
      have c15 := sD.c1
      have fl5 := sD.fl k
      have lf5 := sD.lf k hk
      go_upto_region 8 with fail
      have sE : SrAt (w5.setCell ⟨l, k, none⟩ (.int .i64 (-1))) g l n cg cl Ag gr F ⟨upd (upd s.L i (some j)) k none, upd (upd s.R j0 none) j (some i), s.S⟩ := sD.setL hk none
      have kpE : Kp w5 (w5.setCell ⟨l, k, none⟩ (.int .i64 (-1))) g l := Kp.set ⟨l, k, none⟩ _ (Or.inr rfl)
      have kE := Kp.toKl kD kpE
      have mE := mD.kp kpE
      generalize (w5.setCell ⟨l, k, none⟩ (.int .i64 (-1))) = w6 at sE kE mE ⊢
      clear sD kD mD c15 fl5 lf5 kpE
      obtain ⟨Y, hY⟩ : ∃ Y : List Value, Hid (Y = List.replicate 256 (.bool false)) := ⟨_, Lib.hid rfl⟩
      refine wp_region_list ?_
      refine wpList_plain rfl fun K hK => ?_
      go_simp
      refine hK _ _ ?_
      clear hK K
      try simp only [Act.put, List.getElem_toArray, List.getElem_cons_zero, List.getElem_cons_succ, List.setIfInBounds_toArray, List.set_cons_zero, List.set_cons_succ]
      refine wpList_build rfl _ _ rfl (by kernel_rfl) ?_
      rw [blt137, ← hY.out]
      try simp only [Act.put, List.getElem_toArray, List.getElem_cons_zero, List.getElem_cons_succ, List.setIfInBounds_toArray, List.set_cons_zero, List.set_cons_succ]
      refine wpList_plain rfl fun K hK => ?_
      go_simp
      refine hK _ _ ?_
      clear hK K
      try simp only [Act.put, List.getElem_toArray, List.getElem_cons_zero, List.getElem_cons_succ, List.setIfInBounds_toArray, List.set_cons_zero, List.set_cons_succ]
      refine wpList_plain rfl fun K hK => ?_
      go_simp
      refine hK _ _ ?_
      clear hK K
      try simp only [Act.put, List.getElem_toArray, List.getElem_cons_zero, List.getElem_cons_succ, List.setIfInBounds_toArray, List.set_cons_zero, List.set_cons_succ]
      refine wpList_store_mid rfl _ (.tmp 60) (.tmp 58) rfl g 514 _ rfl rfl ?_ ?_ ?_ ?_
      · rw [hY.out]; simpa using sE.seenThere
      · rw [hY.out, info137]; simp
      · rw [hY.out]; simp [Value.oneCell']
      have sF := sE.fresh
      rw [← hY.out] at sF
      have kpF : Kp w6 (w6.setCells g 514 Y) g l := Kp.sets Y 514 w6
      have kF := Kp.toKl kE kpF
      have mF := mE.kp kpF
      simp only []
      generalize (w6.setCells g 514 Y) = w7 at sF kF mF ⊢
      clear sE kE mE kpF
      simp only [wpList, Act.put]
      have sn7 := sF.sn j hj
      have fg7 := sF.fg (514 + j)
      go_upto_region 10 with fail
      have sG := sF.mark hj
      have kpG : Kp w7 (w7.setCell ⟨g, 514 + j, none⟩ (.bool true)) g l := Kp.set ⟨g, 514 + j, none⟩ _ (Or.inl rfl)
      have kG := Kp.toKl kF kpG
      have mG := mF.kp kpG
      generalize (w7.setCell ⟨g, 514 + j, none⟩ (.bool true)) = w8 at sG kG mG ⊢
      clear sF kF mF kpG sn7 fg7
      have sG : SrAt w8 g l n cg cl Ag gr F (mv1 s i j j0 k) := sG
      have hih := augment_any g l n cg cl Ag gr F hn hg 256 k (mv1 s i j j0 k) w8 sG hk (unseen_le _) (fun x k9 e => by
        have e : upd (upd s.R j0 none) j (some i) x = some k9 := e
        by_cases h1 : x = j
        · rw [h1, upd_same] at e; injection e with e; omega
        · rw [upd_ne _ _ h1] at e
          by_cases h2 : x = j0
          · rw [h2, upd_same] at e; cases e
          · rw [upd_ne _ _ h2] at e; exact hRb _ _ e)
      unfold AugPost at hih
      go_wp2_with fail
      refine hih.mono ?_
      rintro e w9 ⟨b, t, rfl, hA, sH, kH⟩
      have kl := Kp.toKl kG kH
      have mH := mG.kp kH
      clear hih sG kG mG kH
      cases b
      · have hMv : Mv gr F i j j0 s false ⟨s.L, s.R, t.S⟩ := Mv.no HR.out hA
        clear hA
        go_upto_region 12 with fail
        have hgx := mH.hgx
        have hglt := mH.hg
        obtain ⟨SS, hSS⟩ : ∃ S : World → Prop, S = (fun W => W.rangeAt gx 0 (zR s)) := ⟨_, rfl⟩
        refine wp_region_F (fun _ => false) SS (by kernel_rfl) (by rw [hSS]; exact mH.cz) (fun hHeld => ?_)
        have sH := sH.drew
        have kl := Kp.toKl kl (Kp.drew w9 g l)
        have mH := mH.kp (Kp.drew w9 g l)
        generalize w9.drew = w10 at sH kl mH hHeld ⊢
        have c10 := sH.c1
        have fg10 := sH.fg 1
        refine wpAnyF_take (i := 0) (v := ?_) rfl (by kernel_rfl) (by kernel_rfl) (by kernel_rfl) (by kernel_rfl) (fun _ _ _ h => h) hHeld (Or.inl ⟨by rfl, ?_⟩) ?_
        rotate_left
        · (intro w hSw; (try rw [hSS] at hSw); (try dsimp only at hSw); go_simp; try with_reducible rfl)
        try simp only [Act.put, List.getElem_toArray, List.getElem_cons_zero, List.getElem_cons_succ, List.setIfInBounds_toArray, List.set_cons_zero, List.set_cons_succ]
        refine wpAnyF_take (i := 1) (v := ?_) rfl (by kernel_rfl) (by kernel_rfl) (by kernel_rfl) (by kernel_rfl) (fun _ _ _ h => h) hHeld (Or.inl ⟨by rfl, ?_⟩) ?_
        rotate_left
        · (intro w hSw; (try rw [hSS] at hSw); (try dsimp only at hSw); go_simp; try with_reducible rfl)
        try simp only [Act.put, List.getElem_toArray, List.getElem_cons_zero, List.getElem_cons_succ, List.setIfInBounds_toArray, List.set_cons_zero, List.set_cons_succ]
        refine wpAnyF_take (i := 2) (v := ?_) rfl (by kernel_rfl) (by kernel_rfl) (by kernel_rfl) (by kernel_rfl) (fun _ _ _ h => h) hHeld (Or.inl ⟨by rfl, ?_⟩) ?_
        rotate_left
        · (intro w hSw; (try rw [hSS] at hSw); (try dsimp only at hSw); go_simp; try with_reducible rfl)
        try simp only [Act.put, List.getElem_toArray, List.getElem_cons_zero, List.getElem_cons_succ, List.setIfInBounds_toArray, List.set_cons_zero, List.set_cons_succ]
        refine wpAnyF_take (i := 3) (v := .agg (zR s).toArray) rfl (by kernel_rfl) (by kernel_rfl) (by kernel_rfl) (by kernel_rfl) (fun _ _ _ h => h) hHeld (yieldsIf_load_mid (by rfl) 136 (.tmp 8) rfl gx 0 rfl (zR s) _ (fun W hW => by rw [hSS] at hW; exact hW) und136 rfl (by rw [zR_len]; exact info136)) ?_
        try simp only [Act.put, List.getElem_toArray, List.getElem_cons_zero, List.getElem_cons_succ, List.setIfInBounds_toArray, List.set_cons_zero, List.set_cons_succ]
        refine wpAnyF_take (i := 4) (v := ?_) rfl (by kernel_rfl) (by kernel_rfl) (by kernel_rfl) (by kernel_rfl) (fun _ _ _ h => h) hHeld (Or.inl ⟨by rfl, ?_⟩) ?_
        rotate_left
        · (intro w hSw; (try rw [hSS] at hSw); (try dsimp only at hSw); go_simp; try with_reducible rfl)
        try simp only [Act.put, List.getElem_toArray, List.getElem_cons_zero, List.getElem_cons_succ, List.setIfInBounds_toArray, List.set_cons_zero, List.set_cons_succ]
        refine wpAnyF_take (i := 5) (v := ?_) rfl (by kernel_rfl) (by kernel_rfl) (by kernel_rfl) (by kernel_rfl) (fun _ _ _ h => h) hHeld (Or.inl ⟨by rfl, ?_⟩) ?_
        rotate_left
        · (intro w hSw; (try rw [hSS] at hSw); (try dsimp only at hSw); go_simp; try with_reducible rfl)
        try simp only [Act.put, List.getElem_toArray, List.getElem_cons_zero, List.getElem_cons_succ, List.setIfInBounds_toArray, List.set_cons_zero, List.set_cons_succ]
        have hsw := hs.swap (c4 := c4) sH mH kl
        have kp1 : Kp w10 (w10.setCell ⟨g, 1, none⟩ (.slice (some ⟨lo, 0, none⟩) n c4)) g l := Kp.set ⟨g, 1, none⟩ _ (Or.inl rfl)
        have m11 := mH.kp kp1
        have hth : (w10.setCell ⟨g, 1, none⟩ (.slice (some ⟨lo, 0, none⟩) n c4)).there g 2 256 := fun q hq => by
          obtain ⟨h1, h2⟩ := sH.thereR q hq
          refine ⟨?_, by rw [World.frozen?_setCell]; exact h2⟩
          rw [cell_ne (by omega)]; exact h1
        refine wpAnyF_one (i := 6) (by kernel_rfl) rfl (fun K hK => ?_)
        go_simp
        refine hK.out _ _ (Or.inr (by rw [hSS]; exact m11.cz)) ?_
        clear hK K
        try simp only [Act.put, List.getElem_toArray, List.getElem_cons_zero, List.getElem_cons_succ, List.setIfInBounds_toArray, List.set_cons_zero, List.set_cons_succ]
        generalize (w10.setCell ⟨g, 1, none⟩ (.slice (some ⟨lo, 0, none⟩) n c4)) = w11 at hsw m11 hth ⊢
        have hHeld : SS w11 := by rw [hSS]; exact m11.cz
        refine wpAnyF_take (i := 7) (v := ?_) rfl (by kernel_rfl) (by kernel_rfl) (by kernel_rfl) (by kernel_rfl) (fun _ _ _ h => h) hHeld (Or.inl ⟨by rfl, ?_⟩) ?_
        rotate_left
        · (intro w hSw; (try rw [hSS] at hSw); (try dsimp only at hSw); go_simp; try with_reducible rfl)
        try simp only [Act.put, List.getElem_toArray, List.getElem_cons_zero, List.getElem_cons_succ, List.setIfInBounds_toArray, List.set_cons_zero, List.set_cons_succ]
        refine wpAnyF_take (i := 8) (v := ?_) rfl (by kernel_rfl) (by kernel_rfl) (by kernel_rfl) (by kernel_rfl) (fun _ _ _ h => h) hHeld (Or.inl ⟨by rfl, ?_⟩) ?_
        rotate_left
        · (intro w hSw; (try rw [hSS] at hSw); (try dsimp only at hSw); go_simp; try with_reducible rfl)
        try simp only [Act.put, List.getElem_toArray, List.getElem_cons_zero, List.getElem_cons_succ, List.setIfInBounds_toArray, List.set_cons_zero, List.set_cons_succ]
        have hkp2 : Kp w11 (w11.setCells g 2 (zR s)) g l := Kp.sets (zR s) 2 w11
        have m12 := m11.kp hkp2
        refine wpAnyF_one (i := 9) (by kernel_rfl) rfl (fun K hK => ?_)
        rw [if_pos (by rfl)]
        refine wp_store_mid 136 (.tmp 76) (.tmp 72) rfl g 2 (zR s).toArray rfl rfl ?_ ?_ (zR_one s) ?_
        · simpa [zR_len] using hth
        · simpa [zR_len] using info136
        simp only []
        refine hK.out _ _ (Or.inr (by rw [hSS]; exact m12.cz)) ?_
        clear hK K
        try simp only [Act.put, List.getElem_toArray, List.getElem_cons_zero, List.getElem_cons_succ, List.setIfInBounds_toArray, List.set_cons_zero, List.set_cons_succ]
        refine wpAnyF_done (by kernel_rfl) ?_ _
        obtain ⟨sZ, kZ⟩ := hsw
        generalize (w11.setCells g 2 (zR s)) = w12 at sZ kZ ⊢
        have hlo := mH.hlo
        go_wp2_with fail
        go_ret
        exact ⟨false, _, lo, c4, rfl, hMv, sZ, Or.inr hlo, kZ⟩
      · go_wp2_with fail
        go_ret
        exact ⟨true, t, l, cl, rfl, Mv.yes HR.out hA, sH, Or.inl rfl, kl⟩
end Go.Proofs.YtfnhaoindehjdaaDoor
