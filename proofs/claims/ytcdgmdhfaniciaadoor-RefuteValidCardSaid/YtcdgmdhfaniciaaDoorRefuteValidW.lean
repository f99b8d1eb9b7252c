/- The walk of RefuteValid. (genvalid.py) -/
import Derived.Test.YtcdgmdhfaniciaaDoorSpJ
import Derived.Test.YtcdgmdhfaniciaaDoorAw
import Derived.Test.YtcdgmdhfaniciaaDoorPj
import Derived.Test.YtcdgmdhfaniciaaDoorPk
import Derived.Test.YtcdgmdhfaniciaaDoorPf
import Derived.Deep.CutRange
import Derived.Deep.CutBlock
import Derived.Deep.RegionHeld3
namespace Go.Proofs.YtcdgmdhfaniciaaDoor.refuteValid
open Go.RowKit
set_option linter.unusedVariables false
set_option linter.unusedSimpArgs false

set_option maxHeartbeats 16000000 in
set_option maxRecDepth 100000 in
theorem walk (r : RwV) (R : Rw) (k : Nat) (z : Int) (A : Option Addr) (n c : Nat) (l : List UInt8) (w : World) (h : RwAt w w.heap.size r R) (hx : OddIn k z) (hl : ArgB w A n c l) (hT : Tab w) :
    Calls Tryd.prog 9 #[r.v R, oddV k z, .slice A n c] w fun e w' => e = .returned (.bool true) ∧ Below w.heap.size w w' := by
  have hg0 : 0 < w.heap.size := World.block_lt_of_cell? w _ (hT 0 (by omega))
  obtain ⟨hsee, hln, hcap, hmax⟩ := hl
  unfold maxLen at hmax
  obtain ⟨m, hm⟩ : ∃ m : Nat, Hid (m = min n 12) := ⟨_, Lib.hid rfl⟩
  have hm6 : m ≤ 12 := by have := hm.out; omega
  have hmn : m ≤ n := by have := hm.out; omega
  have hmin : min (n : Int) 12 = (m : Int) := by have := hm.out; omega
  have hnb : (n : Int) ≤ 9223372036854775807 := by omega
  have hmc : (m : Int) ≤ (c : Int) := by omega
  obtain ⟨zs, hzs⟩ : ∃ x : List Int, Hid (x = l.map fun b => (b.toNat : Int) - 1) := ⟨_, Lib.hid rfl⟩
  have hzl : Hid (zs.length = n) := Lib.hid (by rw [hzs.out, List.length_map, hln])
  obtain ⟨ls, hls⟩ : ∃ x, Hid (x = zs.take m) := ⟨_, Lib.hid rfl⟩
  have hlsl : ls.length = m := by rw [hls.out, List.length_take, hzl.out]; omega
  have Hln := Lib.hid hln
  clear hln
  have mk := fun W1 W (hw : Below w.heap.size w W1) (hW : Below W1.heap.size W1 W) => make_from r R W W1 (h.on (hw.trans (hW.mono hw.size))) hW
  have mf := mkP_few R
  obtain ⟨P0, hP0⟩ : ∃ P0, Hid (P0 = mkP R) := ⟨_, Lib.hid rfl⟩
  rw [← hP0.out] at mf mk
  obtain ⟨P, hP⟩ : ∃ P, Hid (P = splP P0 k z) := ⟨_, Lib.hid rfl⟩
  obtain ⟨⟨A1, n1, c1⟩, ⟨A2, n2, c2⟩, ⟨A3, n3, c3⟩, ⟨A4, n4, c4⟩, ⟨A5, n5, c5⟩⟩ := r
  obtain ⟨st, hst⟩ : ∃ st, Hid (st = R.steps) := ⟨_, Lib.hid rfl⟩
  unfold RwV.v Sl.v at mk ⊢
  have hxx := hx
  unfold oddV
  simp only [] at mk ⊢
  rw [← hst.out] at mk ⊢
  obtain ⟨k1, z1, z2⟩ := hx
  have hx1 : (k : Int) < 256 := by omega
  clear h
  go_enter Tryd.func9, Tryd.ntmps9
  go_wp2_with fail
  have r1 := Blk.new w 25 #[.int .u8 (st : Int), .slice A1 n1 c1, .slice A2 n2 c2, .slice A3 n3 c3, .slice A4 n4 c4, .slice A5 n5 c5]
  have b1 := bAl (Below.refl w.heap.size w) (.cells #[.int .u8 (st : Int), .slice A1 n1 c1, .slice A2 n2 c2, .slice A3 n3 c3, .slice A4 n4 c4, .slice A5 n5 c5] 25)
  have r2 := r1.alloc (.cells #[.int .u8 (k : Int), .int .i16 z] 28)
  have b2 := bAl b1 (.cells #[.int .u8 (k : Int), .int .i16 z] 28)
  have o2 := Blk.new (w.alloc (.cells #[.int .u8 (st : Int), .slice A1 n1 c1, .slice A2 n2 c2, .slice A3 n3 c3, .slice A4 n4 c4, .slice A5 n5 c5] 25)) 28 #[.int .u8 (k : Int), .int .i16 z]
  rw [World.size_alloc] at o2
  generalize ((w.alloc (.cells #[.int .u8 (st : Int), .slice A1 n1 c1, .slice A2 n2 c2, .slice A3 n3 c3, .slice A4 n4 c4, .slice A5 n5 c5] 25)).alloc (.cells #[.int .u8 (k : Int), .int .i16 z] 28)) = W0 at r2 o2 b2 ⊢
  clear r1 b1
  refine (awake_any W0 (hT.below b2 hg0)).mono ?_
  rintro e W1 ⟨rfl, ba⟩
  have r3 := r2.on ba
  have o3 := o2.on ba
  have b3 := b2.trans (ba.mono b2.size)
  clear r2 o2 b2 ba
  have sz1 : w.heap.size + 1 < W1.heap.size := o3.lt
  obtain ⟨SS, hSS⟩ : ∃ S : World → Prop, S = (fun W => (W.cell? ⟨w.heap.size, 0, none⟩ = some (.int .u8 (st : Int)) ∧ W.cell? ⟨w.heap.size, 1, none⟩ = some (.slice A1 n1 c1) ∧ W.cell? ⟨w.heap.size, 2, none⟩ = some (.slice A2 n2 c2) ∧ W.cell? ⟨w.heap.size, 3, none⟩ = some (.slice A3 n3 c3) ∧ W.cell? ⟨w.heap.size, 4, none⟩ = some (.slice A4 n4 c4) ∧ W.cell? ⟨w.heap.size, 5, none⟩ = some (.slice A5 n5 c5) ∧ W.cell? ⟨w.heap.size + 1, 0, none⟩ = some (.int .u8 (k : Int)) ∧ W.cell? ⟨w.heap.size + 1, 1, none⟩ = some (.int .i16 z))) := ⟨_, rfl⟩
  have sB : ∀ W, Below W1.heap.size W1 W → SS W := fun W hW => by
    rw [hSS]
    exact ⟨((r3.on hW).cell 0).trans rfl, ((r3.on hW).cell 1).trans rfl, ((r3.on hW).cell 2).trans rfl, ((r3.on hW).cell 3).trans rfl, ((r3.on hW).cell 4).trans rfl, ((r3.on hW).cell 5).trans rfl, ((o3.on hW).cell 0).trans rfl, ((o3.on hW).cell 1).trans rfl⟩
  go_upto_region 3 with fail
  go_cut [7, 8] from 7 to 20 (fun v5 v6 wx => Reg3 W1 P v5 v6 wx)
  case first =>
    have qq : Below W1.heap.size W1 W1.drew := (Below.refl _ _).drew
    refine wp_region_F noD SS (by kernel_rfl) (sB _ qq) (fun hHeld => ?_)
    refine wpAnyF_take (i := 0) (v := ?_) rfl (by kernel_rfl) (by kernel_rfl) (by kernel_rfl) (by kernel_rfl) (fun _ _ _ h => h) hHeld (Or.inl ⟨by rfl, ?_⟩) ?_
    rotate_left
    · (intro w hSw; (try rw [hSS] at hSw); (try dsimp only at hSw); go_simp; try with_reducible rfl)
    try simp only [Act.put, List.setIfInBounds_toArray, List.set_cons_zero, List.set_cons_succ]
    refine wpAnyF_take (i := 2) (v := ?_) rfl (by kernel_rfl) (by kernel_rfl) (by kernel_rfl) (by kernel_rfl) (fun _ _ _ h => h) hHeld (Or.inl ⟨by rfl, ?_⟩) ?_
    rotate_left
    · (intro w hSw; (try rw [hSS] at hSw); (try dsimp only at hSw); go_simp; try with_reducible rfl)
    try simp only [Act.put, List.setIfInBounds_toArray, List.set_cons_zero, List.set_cons_succ]
    refine (show WF _ _ _ SS 9 (lstA false false false) _ _ from ?_)
    refine diamond (S := SS) rfl rfl rfl rfl (fun b1 b7 b8 a wv => ∃ x5 x6 x11 : Value, a = ⟨#[.agg #[.int .u8 (st : Int), .slice A1 n1 c1, .slice A2 n2 c2, .slice A3 n3 c3, .slice A4 n4 c4, .slice A5 n5 c5], .agg #[.int .u8 (k : Int), .int .i16 z], .slice A n c, .pointer (some ⟨w.heap.size, 0, none⟩), .pointer (some ⟨w.heap.size + 1, 0, none⟩), undef, .bool false, x5, x6, undef, undef, undef, .bool true, .bool false, undef, .agg #[.int .u8 (st : Int), .slice A1 n1 c1, .slice A2 n2 c2, .slice A3 n3 c3, .slice A4 n4 c4, .slice A5 n5 c5], x11, .agg #[.int .u8 (k : Int), .int .i16 z], undef, undef, undef, undef, undef, undef, undef, undef, undef, undef, undef, undef, undef, undef, undef, undef, undef, undef, undef, undef, undef, undef, undef, undef, undef, undef, undef, undef, undef, undef, undef, undef, undef, undef, undef, undef], []⟩ ∧ SpA W1 P0 b1 b7 b8 x5 x6 x11 wv) (fun b7 b8 a wv => ∃ x5 x6 x11 xq xr : Value, a = ⟨#[.agg #[.int .u8 (st : Int), .slice A1 n1 c1, .slice A2 n2 c2, .slice A3 n3 c3, .slice A4 n4 c4, .slice A5 n5 c5], .agg #[.int .u8 (k : Int), .int .i16 z], .slice A n c, .pointer (some ⟨w.heap.size, 0, none⟩), .pointer (some ⟨w.heap.size + 1, 0, none⟩), undef, .bool false, x5, x6, undef, undef, undef, .bool true, .bool false, undef, .agg #[.int .u8 (st : Int), .slice A1 n1 c1, .slice A2 n2 c2, .slice A3 n3 c3, .slice A4 n4 c4, .slice A5 n5 c5], x11, .agg #[.int .u8 (k : Int), .int .i16 z], .tuple #[xq, xr], undef, undef, undef, undef, undef, undef, undef, undef, undef, undef, undef, undef, undef, undef, undef, undef, undef, undef, undef, undef, undef, undef, undef, undef, undef, undef, undef, undef, undef, undef, undef, undef, undef, undef, undef], []⟩ ∧ SpB W1 P b7 b8 x5 x6 xq xr wv) (fun b7 b8 a wv => ∃ x5 x6 x11 xq xr : Value, a = ⟨#[.agg #[.int .u8 (st : Int), .slice A1 n1 c1, .slice A2 n2 c2, .slice A3 n3 c3, .slice A4 n4 c4, .slice A5 n5 c5], .agg #[.int .u8 (k : Int), .int .i16 z], .slice A n c, .pointer (some ⟨w.heap.size, 0, none⟩), .pointer (some ⟨w.heap.size + 1, 0, none⟩), undef, .bool false, x5, x6, undef, undef, undef, .bool true, .bool false, .tuple #[xq, xr], .agg #[.int .u8 (st : Int), .slice A1 n1 c1, .slice A2 n2 c2, .slice A3 n3 c3, .slice A4 n4 c4, .slice A5 n5 c5], x11, .agg #[.int .u8 (k : Int), .int .i16 z], .tuple #[xq, xr], xq, xr, undef, undef, undef, undef, undef, undef, undef, undef, undef, undef, undef, undef, undef, undef, undef, undef, undef, undef, undef, undef, undef, undef, undef, undef, undef, undef, undef, undef, undef, undef, undef, undef, undef], []⟩ ∧ SpB W1 P b7 b8 x5 x6 xq xr wv) ?_ ?_ ?_ ?_ ?_ ?_ ?_ ?_ ?_ ?_ ?_ ?_ ?_ ?_
    · intro b1 b7 b8; cases b1 <;> cases b7 <;> cases b8 <;> kernel_rfl
    · intro b7 b8 hb; cases b7 <;> cases b8 <;> first | (cases hb; done) | kernel_rfl
    · intro b7 b8 a wv h
      obtain ⟨x5, x6, x11, rfl, hJ⟩ := h
      intro K hK
      go_simp
      go_at_call 14
      refine (mk W1 wv b3 hJ.bel).mono ?_
      rintro e u ⟨p, rfl, hO, hb, _⟩
      simp only []
      exact hK.out _ _ ⟨x5, x6, p.v, rfl, hJ.made hb hO⟩
    · intro b7 b8 a wv h
      obtain ⟨x5, x6, x11, rfl, hJ⟩ := h
      obtain ⟨p, rfl, hO⟩ := hJ.m1 rfl
      intro K hK
      have hsp := spoil_from p P0 k z wv wv W1 hO hJ.bel (Below.refl _ _) hxx mf
      rw [← hP.out] at hsp
      unfold oddV at hsp
      go_simp
      go_at_call 13
      refine hsp.mono ?_
      rintro e u ⟨q, q2, rfl, hQ, hO2, hb, hkp⟩
      simp only []
      exact hK.out _ _ ⟨x5, x6, p.v, q.v, q2.v, rfl, hJ.spoilt hb hQ hO2 hkp⟩
    · intro b7 b8 f a wv h hn
      obtain ⟨x5, x6, x11, xq, xr, rfl, hJ⟩ := h
      have hHeld := sB wv hJ.bel
      cases b7 <;> cases b8
      all_goals (
        unfold WF lst3
        refine wpAnyF_take (i := 4) (v := ?_) rfl (by kernel_rfl) (by kernel_rfl) (by kernel_rfl) (by kernel_rfl) (fun _ _ _ h => h) hHeld (Or.inl ⟨by rfl, ?_⟩) ?_
        rotate_left
        · (intro w hSw; (try rw [hSS] at hSw); (try dsimp only at hSw); go_simp; try with_reducible rfl)
        try simp only [Act.put, List.setIfInBounds_toArray, List.set_cons_zero, List.set_cons_succ]
        refine wpAnyF_take (i := 5) (v := ?_) rfl (by kernel_rfl) (by kernel_rfl) (by kernel_rfl) (by kernel_rfl) (fun _ _ _ h => h) hHeld (Or.inl ⟨by rfl, ?_⟩) ?_
        rotate_left
        · (intro w hSw; (try rw [hSS] at hSw); (try dsimp only at hSw); go_simp; try with_reducible rfl)
        try simp only [Act.put, List.setIfInBounds_toArray, List.set_cons_zero, List.set_cons_succ]
        refine wpAnyF_take (i := 6) (v := ?_) rfl (by kernel_rfl) (by kernel_rfl) (by kernel_rfl) (by kernel_rfl) (fun _ _ _ h => h) hHeld (Or.inl ⟨by rfl, ?_⟩) ?_
        rotate_left
        · (intro w hSw; (try rw [hSS] at hSw); (try dsimp only at hSw); go_simp; try with_reducible rfl)
        try simp only [Act.put, List.setIfInBounds_toArray, List.set_cons_zero, List.set_cons_succ]
        exact hn _ _ ⟨x5, x6, x11, xq, xr, rfl, hJ⟩)
    · intro b1 b8 a wv h
      obtain ⟨x5, x6, x11, rfl, hJ⟩ := h
      intro K hK
      go_simp
      exact hK.out _ _ ⟨_, _, x11, rfl, hJ.all7⟩
    · intro b1 b7 a wv h
      obtain ⟨x5, x6, x11, rfl, hJ⟩ := h
      intro K hK
      go_simp
      exact hK.out _ _ ⟨_, _, x11, rfl, hJ.all8⟩
    · intro b8 a wv h
      obtain ⟨x5, x6, x11, xq, xr, rfl, hJ⟩ := h
      intro K hK
      go_simp
      exact hK.out _ _ ⟨_, _, x11, xq, xr, rfl, hJ.all7⟩
    · intro b7 a wv h
      obtain ⟨x5, x6, x11, xq, xr, rfl, hJ⟩ := h
      intro K hK
      go_simp
      exact hK.out _ _ ⟨_, _, x11, xq, xr, rfl, hJ.all8⟩
    · intro b1 b7 b8 a wv h; obtain ⟨x5, x6, x11, rfl, hJ⟩ := h; exact sB _ hJ.bel
    · intro b7 b8 a wv h; obtain ⟨x5, x6, x11, xq, xr, rfl, hJ⟩ := h; exact sB _ hJ.bel
    · intro b7 b8 a wv h; obtain ⟨x5, x6, x11, xq, xr, rfl, hJ⟩ := h; exact sB _ hJ.bel
    · intro a wv h
      obtain ⟨x5, x6, x11, xq, xr, rfl, hJ⟩ := h
      obtain ⟨g5, rfl, hg5, K5⟩ := hJ.m7 rfl
      obtain ⟨g6, rfl, hg6, K6⟩ := hJ.m8 rfl
      obtain ⟨⟨⟨C1, m1, i1⟩, ⟨C2, m2, i2⟩, ⟨C3, m3, i3⟩, ⟨C4, m4, i4⟩, ⟨C5, m5, i5⟩⟩, ⟨⟨D1, j1, s1⟩, ⟨D2, j2, s2⟩, ⟨D3, j3, s3⟩, ⟨D4, j4, s4⟩, ⟨D5, j5, s5⟩⟩, rfl, rfl, ⟨xs, ms, hQ⟩, hO⟩ := hJ.m3
      have hb5 := hJ.bel
      have kn : g5 ≠ g6 := K5.apart K6 (by decide)
      have kn2 := Ne.symm kn
      have hl5 := K5.lt
      have hl6 := K6.lt
      obtain ⟨a50, a51, a52, a53, a54, a55, a56, a57, a58, a59⟩ := z5facts K5
      obtain ⟨a60, a61, a62, a63, a64, a65, a66, a67, a68, a69⟩ := z5facts K6
      have K5b : Blk wv g5 35 #[.slice none 0 0, .slice none 0 0, .slice none 0 0, .slice none 0 0, .slice none 0 0] := K5
      have K6b : Blk wv g6 39 #[.slice none 0 0, .slice none 0 0, .slice none 0 0, .slice none 0 0, .slice none 0 0] := K6
      simp only [PrV.v, Sl.v]
      unfold WF lstB
      clear hJ
      refine wpAnyF_one (i := 9) (by kernel_rfl) rfl (fun K hK => ?_)
      go_simp
      refine hK.out _ _ (Or.inr (sB _ (bset5 hb5 hg5))) ?_
      clear hK K
      try simp only [Act.put, List.setIfInBounds_toArray, List.set_cons_zero, List.set_cons_succ]
      refine wpAnyF_one (i := 10) (by kernel_rfl) rfl (fun K hK => ?_)
      go_simp
      refine hK.out _ _ (Or.inr (sB _ (bset5 (bset5 hb5 hg5) hg6))) ?_
      clear hK K
      try simp only [Act.put, List.setIfInBounds_toArray, List.set_cons_zero, List.set_cons_succ]
      refine wpAnyF_done (by kernel_rfl) ?_ _
      have hreg := Reg3.mk2 hQ hO hb5 K5b K6b (Below.refl _ _) hg5 hg6
      go_wp2_with fail
      go_meet
      exact hreg
    · exact ⟨undef, undef, undef, rfl, qq, (fun e => by cases e), (fun e => by cases e), (fun e => by cases e)⟩
  case rest =>
    obtain ⟨g5, g6, ⟨⟨C1, m1, i1⟩, ⟨C2, m2, i2⟩, ⟨C3, m3, i3⟩, ⟨C4, m4, i4⟩, ⟨C5, m5, i5⟩⟩, ⟨⟨D1, j1, s1⟩, ⟨D2, j2, s2⟩, ⟨D3, j3, s3⟩, ⟨D4, j4, s4⟩, ⟨D5, j5, s5⟩⟩, rfl, rfl, K5, K6, hQ, hO, bw⟩ := hcut.ex
    clear hcut mk mf hP0 hP hst hxx r3 o3 sB hSS
    have K5b : Blk wc g5 35 #[.slice C1 m1 i1, .slice C2 m2 i2, .slice C3 m3 i3, .slice C4 m4 i4, .slice C5 m5 i5] := K5
    have K6b : Blk wc g6 39 #[.slice D1 j1 s1, .slice D2 j2 s2, .slice D3 j3 s3, .slice D4 j4 s4, .slice D5 j5 s5] := K6
    have hS : ∀ W, Below wc.heap.size wc W → W.cell? ⟨g5, 0, none⟩ = some (.slice C1 m1 i1) ∧ W.cell? ⟨g5, 1, none⟩ = some (.slice C2 m2 i2) ∧ W.cell? ⟨g5, 2, none⟩ = some (.slice C3 m3 i3) ∧ W.cell? ⟨g5, 3, none⟩ = some (.slice C4 m4 i4) ∧ W.cell? ⟨g5, 4, none⟩ = some (.slice C5 m5 i5) ∧ W.cell? ⟨g6, 0, none⟩ = some (.slice D1 j1 s1) ∧ W.cell? ⟨g6, 1, none⟩ = some (.slice D2 j2 s2) ∧ W.cell? ⟨g6, 2, none⟩ = some (.slice D3 j3 s3) ∧ W.cell? ⟨g6, 3, none⟩ = some (.slice D4 j4 s4) ∧ W.cell? ⟨g6, 4, none⟩ = some (.slice D5 j5 s5) := fun W hW => ⟨((K5b.on hW).cell 0).trans rfl, ((K5b.on hW).cell 1).trans rfl, ((K5b.on hW).cell 2).trans rfl, ((K5b.on hW).cell 3).trans rfl, ((K5b.on hW).cell 4).trans rfl, ((K6b.on hW).cell 0).trans rfl, ((K6b.on hW).cell 1).trans rfl, ((K6b.on hW).cell 2).trans rfl, ((K6b.on hW).cell 3).trans rfl, ((K6b.on hW).cell 4).trans rfl⟩
    clear K5 K6
    have bwc := b3.trans (bw.mono b3.size)
    clear bw
    go_wp2_with fail
    go_loopw [9, 27] (fun v9 v27 wr => ∃ (k cc : Nat) (Ak : Option Addr), k ≤ m ∧ v27 = .int .i64 k ∧ v9 = .slice Ak k cc ∧ OwnI wr wc.heap.size (.slice Ak k cc) k (zs.take k) ∧ Below wc.heap.size wc wr) (fun _ v27 _ => m - (intOf v27).toNat)
    case atStart => exact ⟨0, 0, none, Nat.zero_le _, rfl, rfl, OwnI.nil _ _, Below.refl _ _⟩
    case round =>
      clear hmin
      obtain ⟨k, cc, Ak, hk, rfl, rfl, hI, hB⟩ := hrel
      by_cases hlt : k < m
      · have hlt' : (k : Int) < (m : Int) := by omega
        obtain ⟨b9, o9, y, rfl, hb9, Hz, hcz⟩ := Sees.byte (k := k) (hsee.below (bwc.trans (hB.mono bwc.size))) (by rw [Hln.out]; omega)
        have HT2 : Hid (zs.take (k + 1) = zs.take k ++ [(y.toNat : Int) - 1]) := Lib.hid (by rw [List.take_add_one, hzs.out, List.getElem?_map, Hz]; rfl)
        have hyy := y.toNat_lt
        clear hS
        go_wp2_with (at_builtin; refine wpL_appI1 _ rfl (.tmp 31) (.tmp 35) rfl wr wc.heap.size _ k _ rfl hI ((y.toNat : Int) - 1) rfl _ rfl rfl (by omega) hB.size (k + 1) rfl ?_; intro A9 c9 w9 o9 g9 b9)
        go_roundw
        case rel => exact ⟨k + 1, c9, A9, by omega, by go_num, rfl, by rw [HT2.out]; exact o9, hB.trans b9⟩
        case measure => simp [intOf]; omega
      · obtain rfl : k = m := by omega
        have hlt' : ¬ (k : Int) < (k : Int) := by omega
        rw [← hls.out] at hI
        have hS2 := fun W (hW : Below wr.heap.size wr W) => hS W (hB.trans (hW.mono hB.size))
        have hI2 := fun W (hW : Below wr.heap.size wr W) => (hI.on hW).sees
        have q0 : Below wr.heap.size wr wr.drew := (Below.refl _ _).drew
        have hQ2 := hQ.on hB
        have hO2 := hO.on hB
        have b4 := bwc.trans (hB.mono bwc.size)
        have hT2 := fun W (hW : Below wr.heap.size wr W) => hT.below (b4.trans (hW.mono b4.size)) hg0
        have c11 := fun W (hW : Below wr.heap.size wr W) => Broken_any ⟨⟨C1, m1, i1⟩, ⟨C2, m2, i2⟩, ⟨C3, m3, i3⟩, ⟨C4, m4, i4⟩, ⟨C5, m5, i5⟩⟩ P Ak k cc ls W (hQ2.on hW) (hI2 W hW) hlsl (by omega) (hT2 W hW)
        have c12 := fun W (hW : Below wr.heap.size wr W) => rbroken_any ⟨⟨D1, j1, s1⟩, ⟨D2, j2, s2⟩, ⟨D3, j3, s3⟩, ⟨D4, j4, s4⟩, ⟨D5, j5, s5⟩⟩ P Ak k cc ls W (hO2.on hW) (hI2 W hW) hlsl (by omega)
        have c13 := fun W (hW : Below wr.heap.size wr W) => Valid_any ⟨⟨C1, m1, i1⟩, ⟨C2, m2, i2⟩, ⟨C3, m3, i3⟩, ⟨C4, m4, i4⟩, ⟨C5, m5, i5⟩⟩ P Ak k cc ls W (hQ2.on hW) (hI2 W hW) hlsl (by omega) (hT2 W hW)
        have c14 := fun W (hW : Below wr.heap.size wr W) => rvalid_any ⟨⟨D1, j1, s1⟩, ⟨D2, j2, s2⟩, ⟨D3, j3, s3⟩, ⟨D4, j4, s4⟩, ⟨D5, j5, s5⟩⟩ P Ak k cc ls W (hO2.on hW) (hI2 W hW) hlsl (by omega)
        simp only [PrV.v, Sl.v] at c11 c12 c13 c14
        generalize BrokenB P ls = bb1 at c11 c12
        generalize ValidB P ls = bb2 at c13 c14
        clear hQ hO hQ2 hO2 hI hS hB hI2 hT2 hlsl
        go_wp2_with fail
        go_region_held3 (fun w' => w'.cell? ⟨g5, 0, none⟩ = some (.slice C1 m1 i1) ∧ w'.cell? ⟨g5, 1, none⟩ = some (.slice C2 m2 i2) ∧ w'.cell? ⟨g5, 2, none⟩ = some (.slice C3 m3 i3) ∧ w'.cell? ⟨g5, 3, none⟩ = some (.slice C4 m4 i4) ∧ w'.cell? ⟨g5, 4, none⟩ = some (.slice C5 m5 i5) ∧ w'.cell? ⟨g6, 0, none⟩ = some (.slice D1 j1 s1) ∧ w'.cell? ⟨g6, 1, none⟩ = some (.slice D2 j2 s2) ∧ w'.cell? ⟨g6, 2, none⟩ = some (.slice D3 j3 s3) ∧ w'.cell? ⟨g6, 3, none⟩ = some (.slice D4 j4 s4) ∧ w'.cell? ⟨g6, 4, none⟩ = some (.slice D5 j5 s5))
          (first | exact hS2 _ qD | exact hS2 _ qC | exact hS2 _ qB | exact hS2 _ qA | exact hS2 _ q0)
          (first
            | (go_at_call 29; have mm := qC; refine (c14 _ qC).mono ?_; rintro e wd ⟨rfl, bd⟩; have qD : Below wr.heap.size wr wd := qC.trans (bd.mono qC.size))
            | (go_at_call 28; have mm := qB; refine (c13 _ qB).mono ?_; rintro e wk ⟨rfl, bd⟩; have qC : Below wr.heap.size wr wk := qB.trans (bd.mono qB.size))
            | (go_at_call 27; have mm := qA; refine (c12 _ qA).mono ?_; rintro e wb ⟨rfl, bd⟩; have qB : Below wr.heap.size wr wb := qA.trans (bd.mono qA.size))
            | (go_at_call 26; refine (c11 _ q0).mono ?_; rintro e wa ⟨rfl, bd⟩; have qA : Below wr.heap.size wr wa := q0.trans (bd.mono q0.size)))
        all_goals (
          go_wp2_with fail
          go_ret
          exact ⟨rfl, b4.trans (qD.mono b4.size)⟩)
end Go.Proofs.YtcdgmdhfaniciaaDoor.refuteValid
