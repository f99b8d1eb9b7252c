/- The walk of Node.numbers, and the bytes of a refutation, plain. (gennum.py) -/
import Derived.Test.YtcnofhlgiffkjaaGreatDoorWn
import Derived.Test.YtcnofhlgiffkjaaGreatDoorPk
import Derived.Test.YtcnofhlgiffkjaaGreatDoorPm
import Derived.Test.YtcnofhlgiffkjaaGreatDoorPo
import Derived.Deep.RegionHeld3
namespace Go.Proofs.YtcnofhlgiffkjaaGreatDoor
open Go.RowKit
set_option linter.unusedVariables false
set_option linter.unusedSimpArgs false

def numsL (x : Nd) : List Int := [x.step, (x.ch.length : Int)] ++ x.ch ++ [(x.st.length : Int)] ++ x.st
theorem numsL_len (x : Nd) : (numsL x).length = 2 + x.ch.length + 1 + x.st.length := by simp [numsL]; omega
set_option maxHeartbeats 8000000 in
set_option maxRecDepth 100000 in
/-- numbers. -/
theorem numbers_any (x : Nd) (C S : Sl) (w : World) (h : NdL w w.heap.size C S x) :
    Calls Tryz.prog 47 #[.agg #[.int .u8 (x.kind : Int), .int .i64 x.step, C.v, S.v]] w fun e w' => ∃ A c, e = .returned (.slice A (2 + x.ch.length + 1 + x.st.length) c) ∧ OwnI w' w.heap.size (.slice A (2 + x.ch.length + 1 + x.st.length) c) (2 + x.ch.length + 1 + x.st.length) (numsL x) ∧ Below w.heap.size w w' := by
  obtain ⟨h1, h2, h3, h4, h5, h6, h7, h8, h9⟩ := h
  unfold numsL
  obtain ⟨kd, stp, ch, st⟩ := x
  obtain ⟨C1, nc, cc⟩ := C
  obtain ⟨S1, ns, cs⟩ := S
  simp only [Sl.v] at h1 h2 h3 h4 h5 h6 h7 h8 h9 ⊢
  rw [h4, h5]
  have k1 : (kd : Int) < 256 := by omega
  have k2 : (nc : Int) ≤ 1000000 := by omega
  have k3 : (ns : Int) ≤ 1000000 := by omega
  have bx := bAl (Below.refl w.heap.size w) (.cells #[.int .u8 (kd : Int), .int .i64 stp, .slice C1 nc cc, .slice S1 ns cs] 95)
  have kx := Blk.new w 95 #[.int .u8 (kd : Int), .int .i64 stp, .slice C1 nc cc, .slice S1 ns cs]
  have sz : w.heap.size < (w.alloc (.cells #[.int .u8 (kd : Int), .int .i64 stp, .slice C1 nc cc, .slice S1 ns cs] 95)).heap.size := by simp
  go_enter Tryz.func47, Tryz.ntmps47
  go_upto_region 1 with fail
  generalize (w.alloc (.cells #[.int .u8 (kd : Int), .int .i64 stp, .slice C1 nc cc, .slice S1 ns cs] 95)) = u1 at bx kx sz ⊢
  have x1 : u1.cell? ⟨w.heap.size, 1, none⟩ = some (.int .i64 stp) := (kx.cell 1).trans rfl
  have x2 : u1.cell? ⟨w.heap.size, 2, none⟩ = some (.slice C1 nc cc) := (kx.cell 2).trans rfl
  have ol := OwnI.lit u1 #[.int .i64 stp, .int .i64 (nc : Int)] 2 [stp, (nc : Int)] (by unfold maxLen; omega) rfl rfl _ rfl
  have bl := bAl (Below.refl u1.heap.size u1) (.cells #[.int .i64 stp, .int .i64 (nc : Int)] 3)
  have sz2 : u1.heap.size ≤ (u1.alloc (.cells #[.int .i64 stp, .int .i64 (nc : Int)] 3)).heap.size := by simp
  go_upto_region 2 with (at_builtin; refine wpL_appI _ rfl (.tmp 9) (.tmp 11) rfl u1.heap.size _ 2 _ rfl ol w.heap.size C1 nc cc ch rfl h4 ((h2.below bx).below (bl.mono bx.size)) (by omega) sz2 (2 + nc) rfl _ rfl ?_; intro A2 c2 u2 o2 g2 hk2)
  have b2 : Below u1.heap.size u1 u2 := below_app bl sz2 ol g2
  have kx2 := kx.on b2
  have b3 := bx.trans (b2.mono bx.size)
  obtain ⟨SS, hSS⟩ : ∃ S : World → Prop, S = (fun W => W.cell? ⟨w.heap.size, 3, none⟩ = some (.slice S1 ns cs)) := ⟨_, rfl⟩
  have sB : ∀ W, Blk W w.heap.size 95 #[.int .u8 (kd : Int), .int .i64 stp, .slice C1 nc cc, .slice S1 ns cs] → SS W := fun W k => by rw [hSS]; exact (k.cell 3).trans rfl
  have hbase : u1.heap.size ≤ u2.heap.size := b2.size
  have dd : Below u2.heap.size u2 u2.drew := (Below.refl _ _).drew
  have o2d := o2.on dd
  have kx2d := kx2.on dd
  have b3d : Below w.heap.size w u2.drew := b3.trans (dd.mono b3.size)
  have hbd : u1.heap.size ≤ u2.drew.heap.size := Nat.le_trans hbase dd.size
  refine wp_region_F (fun _ => false) SS (by kernel_rfl) (sB _ kx2d) (fun hHeld => ?_)
  clear dd o2 kx2 b3 hbase
  generalize u2.drew = u3 at o2d kx2d b3d hbd hHeld ⊢
  refine wpAnyF_take (i := 0) (v := ?_) rfl (by kernel_rfl) (by kernel_rfl) (by kernel_rfl) (by kernel_rfl) (fun _ _ _ h => h) hHeld (Or.inl ⟨by rfl, ?_⟩) ?_
  rotate_left
  · (intro w hSw; (try rw [hSS] at hSw); (try dsimp only at hSw); go_simp; try with_reducible rfl)
  try simp only [Act.put, List.getElem_toArray, List.getElem_cons_zero, List.getElem_cons_succ, List.setIfInBounds_toArray, List.set_cons_zero, List.set_cons_succ]
  refine wpAnyF_take (i := 1) (v := ?_) rfl (by kernel_rfl) (by kernel_rfl) (by kernel_rfl) (by kernel_rfl) (fun _ _ _ h => h) hHeld (Or.inl ⟨by rfl, ?_⟩) ?_
  rotate_left
  · (intro w hSw; (try rw [hSS] at hSw); (try dsimp only at hSw); go_simp; try with_reducible rfl)
  try simp only [Act.put, List.getElem_toArray, List.getElem_cons_zero, List.getElem_cons_succ, List.setIfInBounds_toArray, List.set_cons_zero, List.set_cons_succ]
  refine wpAnyF_take (i := 2) (v := ?_) rfl (by kernel_rfl) (by kernel_rfl) (by kernel_rfl) (by kernel_rfl) (fun _ _ _ h => h) hHeld (Or.inl ⟨by rfl, ?_⟩) ?_
  rotate_left
  · (intro w hSw; (try rw [hSS] at hSw); (try dsimp only at hSw); go_simp; try with_reducible rfl)
  try simp only [Act.put, List.getElem_toArray, List.getElem_cons_zero, List.getElem_cons_succ, List.setIfInBounds_toArray, List.set_cons_zero, List.set_cons_succ]
  refine wpAnyF_take (i := 3) (v := ?_) rfl (by kernel_rfl) (by kernel_rfl) (by kernel_rfl) (by kernel_rfl) (fun _ _ _ h => h) hHeld (Or.inl ⟨by rfl, ?_⟩) ?_
  rotate_left
  · (intro w hSw; (try rw [hSS] at hSw); (try dsimp only at hSw); go_simp; try with_reducible rfl)
  try simp only [Act.put, List.getElem_toArray, List.getElem_cons_zero, List.getElem_cons_succ, List.setIfInBounds_toArray, List.set_cons_zero, List.set_cons_succ]
  refine wpAnyF_take (i := 6) (v := ?_) rfl (by kernel_rfl) (by kernel_rfl) (by kernel_rfl) (by kernel_rfl) (fun _ _ _ h => h) hHeld (Or.inl ⟨by rfl, ?_⟩) ?_
  rotate_left
  · (intro w hSw; (try rw [hSS] at hSw); (try dsimp only at hSw); go_simp; try with_reducible rfl)
  try simp only [Act.put, List.getElem_toArray, List.getElem_cons_zero, List.getElem_cons_succ, List.setIfInBounds_toArray, List.set_cons_zero, List.set_cons_succ]
  refine wpAnyF_take (i := 7) (v := ?_) rfl (by kernel_rfl) (by kernel_rfl) (by kernel_rfl) (by kernel_rfl) (fun _ _ _ h => h) hHeld (Or.inl ⟨by rfl, ?_⟩) ?_
  rotate_left
  · (intro w hSw; (try rw [hSS] at hSw); (try dsimp only at hSw); go_simp; try with_reducible rfl)
  try simp only [Act.put, List.getElem_toArray, List.getElem_cons_zero, List.getElem_cons_succ, List.setIfInBounds_toArray, List.set_cons_zero, List.set_cons_succ]
  refine wpAnyF_one (i := 4) (by kernel_rfl) rfl (fun K hK => ?_)
  go_simp
  have ba := bAl (Below.refl u3.heap.size u3) (.cells #[.int .i64 (ns : Int)] 3)
  refine hK.out _ _ (Or.inr (sB _ (kx2d.on ba))) ?_
  clear hK K
  try simp only [Act.put, List.getElem_toArray, List.getElem_cons_zero, List.getElem_cons_succ, List.setIfInBounds_toArray, List.set_cons_zero, List.set_cons_succ]
  refine wpAnyF_one (i := 5) (by kernel_rfl) rfl (fun K hK => ?_)
  refine step_row1 3 30 _ 1 8 int_info Tryz.underlying30 rfl (by omega) (by omega) _ rfl (.tmp 13) (.tmp 17) rfl u3 u1.heap.size _ (2 + nc) _ rfl o2d #[.int .i64 (ns : Int)] rfl _ rfl rfl rfl (by simp [Value.oneCell']) (by omega) hbd (2 + nc + 1) rfl ?_
  intro A4 c4 u4 o4 g4 bl4 hk4
  have kx4 := kx2d.grown g4 (fun e => Nat.lt_irrefl _ (Nat.lt_of_lt_of_le sz ((o2d.lt _ e).1)))
  have b4 := b3d.trans (bl4.mono (Nat.le_of_lt sz))
  refine hK.out _ _ (Or.inr (sB _ kx4)) ?_
  clear hK K
  try simp only [Act.put, List.getElem_toArray, List.getElem_cons_zero, List.getElem_cons_succ, List.setIfInBounds_toArray, List.set_cons_zero, List.set_cons_succ]
  refine wpAnyF_one (i := 8) (by kernel_rfl) rfl (fun K hK => ?_)
  have oI : OwnI u4 u1.heap.size (.slice A4 (2 + nc + 1) c4) (2 + nc + 1) ([stp, (nc : Int)] ++ ch ++ [(ns : Int)]) := by unfold OwnI; rw [List.map_append]; exact o4
  refine step_rowS 3 30 _ 1 8 int_info Tryz.underlying30 rfl (by omega) (by omega) _ rfl (.tmp 18) (.tmp 20) rfl u4 u1.heap.size _ (2 + nc + 1) _ rfl oI (Below.refl _ _) w.heap.size S1 ns cs (st.map iv) rfl (by simp [h5]) (h3.below b4) (oneCell_iv st) (by omega) (Nat.le_trans hbd bl4.size) (2 + nc + 1 + ns) rfl ?_
  intro A5 c5 u5 o5 g5 _ bl5 hk5
  have kx5 := kx4.grown g5 (fun e => Nat.lt_irrefl _ (Nat.lt_of_lt_of_le sz ((o4.lt _ e).1)))
  have bl5 := b4.trans (bl5.mono (Nat.le_of_lt sz))
  have ob : OwnI u5 u1.heap.size (.slice A5 (2 + nc + 1 + ns) c5) (2 + nc + 1 + ns) ([stp, (nc : Int)] ++ ch ++ [(ns : Int)] ++ st) := by unfold OwnI; rw [List.map_append]; exact o5
  refine hK.out _ _ (Or.inr (sB _ kx5)) ?_
  clear hK K
  try simp only [Act.put, List.getElem_toArray, List.getElem_cons_zero, List.getElem_cons_succ, List.setIfInBounds_toArray, List.set_cons_zero, List.set_cons_succ]
  refine wpAnyF_one (i := 9) (by kernel_rfl) rfl (fun K hK => ?_)
  go_simp
  refine hK.out _ _ (Or.inr (sB _ kx5)) ?_
  clear hK K
  try simp only [Act.put, List.getElem_toArray, List.getElem_cons_zero, List.getElem_cons_succ, List.setIfInBounds_toArray, List.set_cons_zero, List.set_cons_succ]
  refine wpAnyF_done (by kernel_rfl) ?_ _
  go_wp2_with fail
  go_ret
  have on : OwnI u5 w.heap.size (.slice A5 (2 + nc + 1 + ns) c5) (2 + nc + 1 + ns) (stp :: (nc : Int) :: (ch ++ (ns : Int) :: st)) := by
    have := own_less ob (Nat.le_of_lt sz)
    simpa [OwnI] using this
  exact ⟨A5, c5, rfl, on, bl5⟩
end Go.Proofs.YtcnofhlgiffkjaaGreatDoor
