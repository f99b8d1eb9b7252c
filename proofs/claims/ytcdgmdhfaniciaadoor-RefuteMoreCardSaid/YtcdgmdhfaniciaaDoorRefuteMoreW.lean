/- The walk of RefuteMore. (genmore.py) -/
import Derived.Test.YtcdgmdhfaniciaaDoorRf
import Derived.Test.YtcdgmdhfaniciaaDoorAllP
import Derived.Test.YtcdgmdhfaniciaaDoorPk
import Derived.Test.YtcdgmdhfaniciaaDoorCheck
import Derived.Test.YtcdgmdhfaniciaaDoorMkB
import Derived.Test.YtcdgmdhfaniciaaDoorRMk3
import Derived.Test.YtcdgmdhfaniciaaDoorAw
import Derived.Test.YtcdgmdhfaniciaaDoorMoJ
import Derived.Test.YtcdgmdhfaniciaaDoorRegT
import Derived.Deep.RegionHeld3
namespace Go.Proofs.YtcdgmdhfaniciaaDoor.refuteMore
open Go.RowKit
set_option linter.unusedVariables false
set_option linter.unusedSimpArgs false

set_option maxHeartbeats 32000000 in
set_option maxRecDepth 100000 in
theorem walk (r : RwV) (R : Rw) (a1 : Int) (r2 : RwV) (R2 : Rw) (w : World) (h : RwAt w w.heap.size r R) (w1 : (Lit.int .u8 a1).wf = true) (h2 : RwAt w w.heap.size r2 R2) (hT : Tab w) :
    Calls Tryd.prog 8 #[r.v R, .int .u8 a1, r2.v R2] w fun e w' => e = .returned (.bool true) ∧ Below w.heap.size w w' := by
  have hg0 : 0 < w.heap.size := World.block_lt_of_cell? w _ (hT 0 (by omega))
  have mk := fun W (hw : Below w.heap.size w W) => rmake_any r R W (h.on hw)
  have mf := mkP_few R
  have hc := chkP_mkP R
  obtain ⟨P, hP⟩ : ∃ P, Hid (P = mkP R) := ⟨_, Lib.hid rfl⟩
  rw [← hP.out] at mf mk hc
  obtain ⟨a10, a11⟩ := wf_u8 w1
  have h32 : Few32 P := by rw [hP.out]; exact mkP_32 R
  obtain ⟨t, ht⟩ : ∃ t : Nat, Hid (t = a1.toNat % 5) := ⟨_, Lib.hid rfl⟩
  have ht4 : t ≤ 4 := by have := ht.out; omega
  have htm : a1 % 5 = (t : Int) := by have := ht.out; omega
  have ht0 : (0 : Int) ≤ (t : Int) := by omega
  have ht5 : (t : Int) ≤ 4 := by omega
  have rf := fun W (hW : Below w.heap.size w W) q (h1 : RPrAt W W.heap.size q P) => refute_any q P t true W h1 hc mf.e1 (mem5 h32) ht4
  have hck := fun q P' l Aq nq cq W (hW : Below w.heap.size w W) (h1 : PrAt W W.heap.size q P') h2 h3 h4 => check_any q P' Aq nq cq l W h1 h2 h3 h4 (hT.below hW hg0)
  have hyes := Lib.hid (fun (l : List Nd) sts (h1 : RefOk P l sts) => (chkR_ref h1 hc).1)
  have hnil := Lib.hid (@allL_nil P h32)
  have h3 := h2.steps h.k0
  have mk2 := fun W (hw : Below w.heap.size w W) => rmake_any r2 { R2 with steps := R.steps } W (h3.on hw)
  have ff2 := mkP_few { R2 with steps := R.steps }
  obtain ⟨P2, hP2⟩ : ∃ P2, Hid (P2 = mkP { R2 with steps := R.steps }) := ⟨_, Lib.hid rfl⟩
  rw [← hP2.out] at mk2 ff2
  have hmo2 : Hid (∀ l, chkR P l = (1, 0) → chkR (moP P P2) l = (1, 0)) := Lib.hid (fun l h => by rw [hP2.out, hP.out]; rw [hP.out] at h; exact chkR_mo (R := R) (R' := { R2 with steps := R.steps }) rfl h)
  obtain ⟨⟨F1, e1, f1⟩, ⟨F2, e2, f2⟩, ⟨F3, e3, f3⟩, ⟨F4, e4, f4⟩, ⟨F5, e5, f5⟩⟩ := r2
  obtain ⟨st2, hst2⟩ : ∃ st, Hid (st = R2.steps) := ⟨_, Lib.hid rfl⟩
  unfold RwV.v Sl.v at mk2
  simp only [] at mk2
  have md1 := mf.d1
  have md2 := mf.s1
  have md3 := mf.m1
  obtain ⟨⟨A1, n1, c1⟩, ⟨A2, n2, c2⟩, ⟨A3, n3, c3⟩, ⟨A4, n4, c4⟩, ⟨A5, n5, c5⟩⟩ := r
  obtain ⟨st, hst⟩ : ∃ st, Hid (st = R.steps) := ⟨_, Lib.hid rfl⟩
  unfold RwV.v Sl.v at mk ⊢
  simp only [] at mk ⊢
  rw [← hst.out] at mk ⊢
  have me1 := mf.e1
  clear h mf
  rw [← hst2.out]
  rw [← hst.out] at mk2
  clear h2 h3
  go_enter Tryd.func8, Tryd.ntmps8
  go_wp2_with fail
  have r1 := Blk.new w 25 #[.int .u8 (st : Int), .slice A1 n1 c1, .slice A2 n2 c2, .slice A3 n3 c3, .slice A4 n4 c4, .slice A5 n5 c5]
  have b1 := bAl (Below.refl w.heap.size w) (.cells #[.int .u8 (st : Int), .slice A1 n1 c1, .slice A2 n2 c2, .slice A3 n3 c3, .slice A4 n4 c4, .slice A5 n5 c5] 25)
  have r2 := r1.alloc (.cells #[.int .u8 (st2 : Int), .slice F1 e1 f1, .slice F2 e2 f2, .slice F3 e3 f3, .slice F4 e4 f4, .slice F5 e5 f5] 25)
  have b2 := bAl b1 (.cells #[.int .u8 (st2 : Int), .slice F1 e1 f1, .slice F2 e2 f2, .slice F3 e3 f3, .slice F4 e4 f4, .slice F5 e5 f5] 25)
  have o2 := Blk.new (w.alloc (.cells #[.int .u8 (st : Int), .slice A1 n1 c1, .slice A2 n2 c2, .slice A3 n3 c3, .slice A4 n4 c4, .slice A5 n5 c5] 25)) 25 #[.int .u8 (st2 : Int), .slice F1 e1 f1, .slice F2 e2 f2, .slice F3 e3 f3, .slice F4 e4 f4, .slice F5 e5 f5]
  rw [World.size_alloc] at o2
  generalize ((w.alloc (.cells #[.int .u8 (st : Int), .slice A1 n1 c1, .slice A2 n2 c2, .slice A3 n3 c3, .slice A4 n4 c4, .slice A5 n5 c5] 25)).alloc (.cells #[.int .u8 (st2 : Int), .slice F1 e1 f1, .slice F2 e2 f2, .slice F3 e3 f3, .slice F4 e4 f4, .slice F5 e5 f5] 25)) = W0 at r2 o2 b2 ⊢
  refine (awake_any W0 (hT.below b2 hg0)).mono ?_
  rintro e W1 ⟨rfl, ba⟩
  have r3 := r2.on ba
  have o3 := o2.on ba
  have b3 := b2.trans (ba.mono b2.size)
  clear r1 r2 o2 b1 b2 ba
  have x0 : W1.cell? ⟨w.heap.size, 0, none⟩ = some (.int .u8 (st : Int)) := (r3.cell 0).trans rfl
  have x1 : W1.cell? ⟨w.heap.size, 1, none⟩ = some (.slice A1 n1 c1) := (r3.cell 1).trans rfl
  have x2 : W1.cell? ⟨w.heap.size, 2, none⟩ = some (.slice A2 n2 c2) := (r3.cell 2).trans rfl
  have x3 : W1.cell? ⟨w.heap.size, 3, none⟩ = some (.slice A3 n3 c3) := (r3.cell 3).trans rfl
  have x4 : W1.cell? ⟨w.heap.size, 4, none⟩ = some (.slice A4 n4 c4) := (r3.cell 4).trans rfl
  have x5 : W1.cell? ⟨w.heap.size, 5, none⟩ = some (.slice A5 n5 c5) := (r3.cell 5).trans rfl
  go_wp2_with fail
  refine (mk W1 b3).mono ?_
  rintro e W2 ⟨⟨⟨B1, m1, d1⟩, ⟨B2, m2, d2⟩, ⟨B3, m3, d3⟩, ⟨B4, m4, d4⟩, ⟨B5, m5, d5⟩⟩, rfl, hO, bw2⟩
  have r4 := r3.on bw2
  have o4 := o3.on bw2
  have lt2 : m2 ≤ 4 := by have e9 := own_len2 (fun _ => rfl) hO.o2; have e8 := md1; simp only [] at e9; omega
  have lt3 : m3 ≤ 4 := by have e9 := own_len2 (fun _ => rfl) hO.o3; have e8 := md2; simp only [] at e9; omega
  have lt4 : m4 ≤ 3 := by have e9 := own_len2 (fun _ => rfl) hO.o4; have e8 := md3; simp only [] at e9; omega
  have b4 := b3.trans (bw2.mono b3.size)
  simp only [PrV.v, Sl.v]
  clear x0 x1 x2 x3 x4 x5 r3 o3 mk
  go_upto_region 4 with fail
  have k4 := Blk.new W2 39 #[.slice B1 m1 d1, .slice B2 m2 d2, .slice B3 m3 d3, .slice B4 m4 d4, .slice B5 m5 d5]
  have bk := bAl (Below.refl W2.heap.size W2) (.cells #[.slice B1 m1 d1, .slice B2 m2 d2, .slice B3 m3 d3, .slice B4 m4 d4, .slice B5 m5 d5] 39)
  generalize (W2.alloc (.cells #[.slice B1 m1 d1, .slice B2 m2 d2, .slice B3 m3 d3, .slice B4 m4 d4, .slice B5 m5 d5] 39)) = W4 at k4 bk ⊢
  have b5 := b4.trans (bk.mono b4.size)
  have hO4 := hO.on bk
  have r5 := r4.on bk
  have o5 := o4.on bk
  have bb4 := bw2.trans (bk.mono bw2.size)
  have hg7 : W1.heap.size ≤ W2.heap.size := bw2.size
  clear hO bk r4 o4 bw2
  have hall := all_any ⟨⟨B1, m1, d1⟩, ⟨B2, m2, d2⟩, ⟨B3, m3, d3⟩, ⟨B4, m4, d4⟩, ⟨B5, m5, d5⟩⟩ P W4 hO4.at me1
  unfold PrV.v Sl.v at hall
  simp only [] at hall
  have x0 : W4.cell? ⟨W2.heap.size, 0, none⟩ = some (.slice B1 m1 d1) := (k4.cell 0).trans rfl
  have x1 : W4.cell? ⟨W2.heap.size, 1, none⟩ = some (.slice B2 m2 d2) := (k4.cell 1).trans rfl
  have x2 : W4.cell? ⟨W2.heap.size, 2, none⟩ = some (.slice B3 m3 d3) := (k4.cell 2).trans rfl
  have x3 : W4.cell? ⟨W2.heap.size, 3, none⟩ = some (.slice B4 m4 d4) := (k4.cell 3).trans rfl
  have x4 : W4.cell? ⟨W2.heap.size, 4, none⟩ = some (.slice B5 m5 d5) := (k4.cell 4).trans rfl
  by_cases hA : allL P = []
  · rw [hA] at hall
    go_wp2_with fail
    refine hall.mono ?_
    rintro e W9 ⟨A9, n9, c9, rfl, hL, _, bw9⟩
    have hn9 := hL.len
    obtain rfl : 0 = n9 := hn9
    clear hL x0 x1 x2 x3 x4 hall
    have b6 := b5.trans (bw9.mono b5.size)
    have bb6 := bb4.trans (bw9.mono bb4.size)
    have k6 := k4.on bw9
    have hO6 := hO4.on bw9
    have r6 := r5.on bw9
    have o6 := o5.on bw9
    clear k4 hO4 r5 o5 bw9 bb4
    have x0 : W9.cell? ⟨W2.heap.size, 0, none⟩ = some (.slice B1 m1 d1) := (k6.cell 0).trans rfl
    have x1 : W9.cell? ⟨W2.heap.size, 1, none⟩ = some (.slice B2 m2 d2) := (k6.cell 1).trans rfl
    have x2 : W9.cell? ⟨W2.heap.size, 2, none⟩ = some (.slice B3 m3 d3) := (k6.cell 2).trans rfl
    have x3 : W9.cell? ⟨W2.heap.size, 3, none⟩ = some (.slice B4 m4 d4) := (k6.cell 3).trans rfl
    have x4 : W9.cell? ⟨W2.heap.size, 4, none⟩ = some (.slice B5 m5 d5) := (k6.cell 4).trans rfl
    have hwrap : IntKind.i64.wrap (a1.tmod 5) = (t : Int) := by rw [Int.tmod_eq_emod_of_nonneg a10, htm]; exact IntWalk.i64_in _ (by omega)
    have htm2 : a1.tmod 5 = (t : Int) := by rw [Int.tmod_eq_emod_of_nonneg a10, htm]
    have crf := rf W9 b6 ⟨⟨B1, m1, d1⟩, ⟨B2, m2, d2⟩, ⟨B3, m3, d3⟩, ⟨B4, m4, d4⟩, ⟨B5, m5, d5⟩⟩ hO6.at
    unfold PrV.v Sl.v at crf
    simp only [] at crf
    clear rf htm
    go_wp2_with fail
    refine crf.mono ?_
    rintro e W10 ⟨A10, n10, c10, rfl, ⟨ys, hN, _, _, sts, hR⟩, hn10, bw⟩
    have hz := hyes.out _ _ hR (fun s => hnil.out hA s)
    have HZ := Lib.hid (hmo2.out _ hz)
    clear hz hR hyes hnil hA crf hc hmo2 x0 x1 x2 x3 x4 hwrap htm2
    have hylen := hN.len
    go_wp2_with fail
    refine (nodes41_any A10 n10 c10 (ys.map (·.x)) W10 hN.atR (by rw [List.length_map]; exact hylen) (by omega)).mono ?_
    rintro e W11 ⟨A11, c11, rfl, ⟨zs, hzs, hN11⟩, bw11⟩
    have hn11 := hN11.less (Nat.le_trans bb6.size bw.size)
    have bb := bw.trans (bw11.mono bw.size)
    have k7 := k6.on bb
    have hO7 := hO6.on bb
    have r7 := r6.on bb
    have o7 := o6.on bb
    have b7 := b6.trans (bb.mono b6.size)
    have bb7 := bb6.trans (bb.mono bb6.size)
    clear k6 hO6 r6 o6 bb bw bw11 hN hN11 b6 bb6
    go_upto_region 7 with fail
    have k8 := Blk.new W11 53 #[.slice A11 n10 c11]
    have bk := bAl (Below.refl W11.heap.size W11) (.cells #[.slice A11 n10 c11] 53)
    generalize (W11.alloc (.cells #[.slice A11 n10 c11] 53)) = W12 at k8 bk ⊢
    have mo : MoW W12 W1.heap.size W2.heap.size W11.heap.size #[.slice B1 m1 d1, .slice B2 m2 d2, .slice B3 m3 d3, .slice B4 m4 d4, .slice B5 m5 d5] ⟨⟨B1, m1, d1⟩, ⟨B2, m2, d2⟩, ⟨B3, m3, d3⟩, ⟨B4, m4, d4⟩, ⟨B5, m5, d5⟩⟩ P A11 n10 c11 zs := ⟨hO7.on bk, k7.on bk, k8, hn11.on bk⟩
    have r8 := r7.on bk
    have o8 := o7.on bk
    have b8 := b7.trans (bk.mono b7.size)
    have bb8 := bb7.trans (bk.mono bb7.size)
    clear k7 hO7 r7 o7 bb7 b7 bk k8 hn11
    have x0 : W12.cell? ⟨w.heap.size, 0, none⟩ = some (.int .u8 (st : Int)) := (r8.cell 0).trans rfl
    have x1 : W12.cell? ⟨w.heap.size + 1, 0, none⟩ = some (.int .u8 (st2 : Int)) := (o8.cell 0).trans rfl
    have fz := o8.frozen 0
    go_upto_region 8 with fail
    clear fz
    have mo2 := mo.box o8 0 (.int .u8 (st : Int))
    have o9 : Blk (W12.setCell ⟨w.heap.size + 1, 0, none⟩ (.int .u8 (st : Int))) (w.heap.size + 1) 25 #[.int .u8 (st : Int), .slice F1 e1 f1, .slice F2 e2 f2, .slice F3 e3 f3, .slice F4 e4 f4, .slice F5 e5 f5] := o8.put 0 (.int .u8 (st : Int))
    have b9 := b8.setCell (p := ⟨w.heap.size + 1, 0, none⟩) (Nat.le_succ _) (.int .u8 (st : Int))
    have z13 : W1.heap.size ≤ (W12.setCell ⟨w.heap.size + 1, 0, none⟩ (.int .u8 (st : Int))).heap.size ∧ W2.heap.size < (W12.setCell ⟨w.heap.size + 1, 0, none⟩ (.int .u8 (st : Int))).heap.size := by rw [World.size_setCell]; exact ⟨bb8.size, mo.k7.lt⟩
    generalize (W12.setCell ⟨w.heap.size + 1, 0, none⟩ (.int .u8 (st : Int))) = W13 at mo2 o9 b9 z13 ⊢
    clear mo r8 o8 b8 bb8 x0 x1
    have x0 : W13.cell? ⟨w.heap.size + 1, 0, none⟩ = some (.int .u8 (st : Int)) := (o9.cell 0).trans rfl
    have x1 : W13.cell? ⟨w.heap.size + 1, 1, none⟩ = some (.slice F1 e1 f1) := (o9.cell 1).trans rfl
    have x2 : W13.cell? ⟨w.heap.size + 1, 2, none⟩ = some (.slice F2 e2 f2) := (o9.cell 2).trans rfl
    have x3 : W13.cell? ⟨w.heap.size + 1, 3, none⟩ = some (.slice F3 e3 f3) := (o9.cell 3).trans rfl
    have x4 : W13.cell? ⟨w.heap.size + 1, 4, none⟩ = some (.slice F4 e4 f4) := (o9.cell 4).trans rfl
    have x5 : W13.cell? ⟨w.heap.size + 1, 5, none⟩ = some (.slice F5 e5 f5) := (o9.cell 5).trans rfl
    go_wp2_with fail
    refine (mk2 W13 b9).mono ?_
    rintro e W14 ⟨⟨⟨E1, i1, j1⟩, ⟨E2, i2, j2⟩, ⟨E3, i3, j3⟩, ⟨E4, i4, j4⟩, ⟨E5, i5, j5⟩⟩, rfl, oq, bw14⟩
    simp only [PrV.v, Sl.v]
    have li2 : i2 ≤ 4 := by have e9 := own_len2 (fun _ => rfl) oq.o2; have e8 := ff2.d1; simp only [] at e9; omega
    have li3 : i3 ≤ 4 := by have e9 := own_len2 (fun _ => rfl) oq.o3; have e8 := ff2.s1; simp only [] at e9; omega
    have li4 : i4 ≤ 3 := by have e9 := own_len2 (fun _ => rfl) oq.o4; have e8 := ff2.m1; simp only [] at e9; omega
    have hp2 := mo2.op.o2
    have mo3 := mo2.on bw14
    have b10 := b9.trans (bw14.mono b9.size)
    have z14 : W1.heap.size ≤ W14.heap.size ∧ W2.heap.size < W14.heap.size := ⟨Nat.le_trans z13.1 bw14.size, Nat.lt_of_lt_of_le z13.2 bw14.size⟩
    clear mo2 o9 b9 bw14 x0 x1 x2 x3 x4 x5 mk2
    go_upto_region 9 with fail
    have k9 := Blk.new W14 39 #[.slice E1 i1 j1, .slice E2 i2 j2, .slice E3 i3 j3, .slice E4 i4 j4, .slice E5 i5 j5]
    have bk := bAl (Below.refl W14.heap.size W14) (.cells #[.slice E1 i1 j1, .slice E2 i2 j2, .slice E3 i3 j3, .slice E4 i4 j4, .slice E5 i5 j5] 39)
    generalize (W14.alloc (.cells #[.slice E1 i1 j1, .slice E2 i2 j2, .slice E3 i3 j3, .slice E4 i4 j4, .slice E5 i5 j5] 39)) = W15 at k9 bk ⊢
    have mo4 := mo3.on bk
    have oq4 := oq.on bk
    have b11 := b10.trans (bk.mono b10.size)
    have z15 : W1.heap.size ≤ W15.heap.size := Nat.le_trans z14.1 bk.size
    have hne : W2.heap.size ≠ W14.heap.size := Nat.ne_of_lt z14.2
    clear mo3 oq b10 bk
    have dd : Below W15.heap.size W15 W15.drew := (Below.refl _ _).drew
    have mo := mo4.on dd
    have oq := oq4.on dd
    have hbase : W1.heap.size ≤ W15.drew.heap.size := Nat.le_trans z15 dd.size
    have bl0 : Below W1.heap.size W15 W15.drew := dd.mono z15
    have s7 : ∀ W, Blk W W2.heap.size 39 #[.slice B1 m1 d1, .slice B2 m2 d2, .slice B3 m3 d3, .slice B4 m4 d4, .slice B5 m5 d5] → (W.cell? ⟨W2.heap.size, 1, none⟩ = some (.slice B2 m2 d2) ∧ W.cell? ⟨W2.heap.size, 2, none⟩ = some (.slice B3 m3 d3) ∧ W.cell? ⟨W2.heap.size, 3, none⟩ = some (.slice B4 m4 d4)) := fun W k => ⟨(k.cell 1).trans rfl, (k.cell 2).trans rfl, (k.cell 3).trans rfl⟩
    have s9 : ∀ W, Blk W W14.heap.size 39 #[.slice E1 i1 j1, .slice E2 i2 j2, .slice E3 i3 j3, .slice E4 i4 j4, .slice E5 i5 j5] → (W.cell? ⟨W14.heap.size, 1, none⟩ = some (.slice E2 i2 j2) ∧ W.cell? ⟨W14.heap.size, 2, none⟩ = some (.slice E3 i3 j3) ∧ W.cell? ⟨W14.heap.size, 3, none⟩ = some (.slice E4 i4 j4)) := fun W k => ⟨(k.cell 1).trans rfl, (k.cell 2).trans rfl, (k.cell 3).trans rfl⟩
    have k9 := k9.on dd
    obtain ⟨SS, hSS⟩ : ∃ S : World → Prop, S = (fun W => (W.cell? ⟨W2.heap.size, 1, none⟩ = some (.slice B2 m2 d2) ∧ W.cell? ⟨W2.heap.size, 2, none⟩ = some (.slice B3 m3 d3) ∧ W.cell? ⟨W2.heap.size, 3, none⟩ = some (.slice B4 m4 d4))) := ⟨_, rfl⟩
    obtain ⟨SS1, hSS1⟩ : ∃ S : World → Prop, S = (fun W => (W.cell? ⟨W14.heap.size, 1, none⟩ = some (.slice E2 i2 j2) ∧ W.cell? ⟨W14.heap.size, 2, none⟩ = some (.slice E3 i3 j3) ∧ W.cell? ⟨W14.heap.size, 3, none⟩ = some (.slice E4 i4 j4))) := ⟨_, rfl⟩
    have s7 : ∀ W, Blk W W2.heap.size 39 #[.slice B1 m1 d1, .slice B2 m2 d2, .slice B3 m3 d3, .slice B4 m4 d4, .slice B5 m5 d5] → SS W := fun W k => by rw [hSS]; exact s7 W k
    have s9 : ∀ W, Blk W W14.heap.size 39 #[.slice E1 i1 j1, .slice E2 i2 j2, .slice E3 i3 j3, .slice E4 i4 j4, .slice E5 i5 j5] → SS1 W := fun W k => by rw [hSS1]; exact s9 W k
    refine wp_region_T (fun i => decide (16 ≤ i)) SS SS1 (by kernel_rfl) (s7 _ mo.k7) (s9 _ k9) (fun hHeld hHeld1 => ?_)
    clear mo4 oq4 dd
    generalize W15.drew = u0 at mo oq hbase bl0 k9 hHeld hHeld1 ⊢
    refine wpAnyT_take1 (i := 0) (v := ?_) rfl (by kernel_rfl) (by kernel_rfl) (by kernel_rfl) (fun _ _ _ h => h) hHeld1 (Or.inl ⟨by rfl, ?_⟩) ?_
    rotate_left
    · (intro w hSw; (try rw [hSS1] at hSw); (try dsimp only at hSw); go_simp; try with_reducible rfl)
    try simp only [Act.put, List.getElem_toArray, List.getElem_cons_zero, List.getElem_cons_succ, List.setIfInBounds_toArray, List.set_cons_zero, List.set_cons_succ]
    refine wpAnyT_take (i := 1) (v := ?_) rfl (by kernel_rfl) (by kernel_rfl) (by kernel_rfl) (by kernel_rfl) (fun _ _ _ h => h) hHeld (Or.inl ⟨by rfl, ?_⟩) ?_
    rotate_left
    · (intro w hSw; (try rw [hSS] at hSw); (try dsimp only at hSw); go_simp; try with_reducible rfl)
    try simp only [Act.put, List.getElem_toArray, List.getElem_cons_zero, List.getElem_cons_succ, List.setIfInBounds_toArray, List.set_cons_zero, List.set_cons_succ]
    refine wpAnyT_take1 (i := 2) (v := ?_) rfl (by kernel_rfl) (by kernel_rfl) (by kernel_rfl) (fun _ _ _ h => h) hHeld1 (Or.inl ⟨by rfl, ?_⟩) ?_
    rotate_left
    · (intro w hSw; (try rw [hSS1] at hSw); (try dsimp only at hSw); go_simp; try with_reducible rfl)
    try simp only [Act.put, List.getElem_toArray, List.getElem_cons_zero, List.getElem_cons_succ, List.setIfInBounds_toArray, List.set_cons_zero, List.set_cons_succ]
    refine wpAnyT_take1 (i := 3) (v := ?_) rfl (by kernel_rfl) (by kernel_rfl) (by kernel_rfl) (fun _ _ _ h => h) hHeld1 (Or.inl ⟨by rfl, ?_⟩) ?_
    rotate_left
    · (intro w hSw; (try rw [hSS1] at hSw); (try dsimp only at hSw); go_simp; try with_reducible rfl)
    try simp only [Act.put, List.getElem_toArray, List.getElem_cons_zero, List.getElem_cons_succ, List.setIfInBounds_toArray, List.set_cons_zero, List.set_cons_succ]
    refine wpAnyT_take1 (i := 5) (v := ?_) rfl (by kernel_rfl) (by kernel_rfl) (by kernel_rfl) (fun _ _ _ h => h) hHeld1 (Or.inl ⟨by rfl, ?_⟩) ?_
    rotate_left
    · (intro w hSw; (try rw [hSS1] at hSw); (try dsimp only at hSw); go_simp; try with_reducible rfl)
    try simp only [Act.put, List.getElem_toArray, List.getElem_cons_zero, List.getElem_cons_succ, List.setIfInBounds_toArray, List.set_cons_zero, List.set_cons_succ]
    refine wpAnyT_take (i := 6) (v := ?_) rfl (by kernel_rfl) (by kernel_rfl) (by kernel_rfl) (by kernel_rfl) (fun _ _ _ h => h) hHeld (Or.inl ⟨by rfl, ?_⟩) ?_
    rotate_left
    · (intro w hSw; (try rw [hSS] at hSw); (try dsimp only at hSw); go_simp; try with_reducible rfl)
    try simp only [Act.put, List.getElem_toArray, List.getElem_cons_zero, List.getElem_cons_succ, List.setIfInBounds_toArray, List.set_cons_zero, List.set_cons_succ]
    refine wpAnyT_take1 (i := 7) (v := ?_) rfl (by kernel_rfl) (by kernel_rfl) (by kernel_rfl) (fun _ _ _ h => h) hHeld1 (Or.inl ⟨by rfl, ?_⟩) ?_
    rotate_left
    · (intro w hSw; (try rw [hSS1] at hSw); (try dsimp only at hSw); go_simp; try with_reducible rfl)
    try simp only [Act.put, List.getElem_toArray, List.getElem_cons_zero, List.getElem_cons_succ, List.setIfInBounds_toArray, List.set_cons_zero, List.set_cons_succ]
    refine wpAnyT_take1 (i := 8) (v := ?_) rfl (by kernel_rfl) (by kernel_rfl) (by kernel_rfl) (fun _ _ _ h => h) hHeld1 (Or.inl ⟨by rfl, ?_⟩) ?_
    rotate_left
    · (intro w hSw; (try rw [hSS1] at hSw); (try dsimp only at hSw); go_simp; try with_reducible rfl)
    try simp only [Act.put, List.getElem_toArray, List.getElem_cons_zero, List.getElem_cons_succ, List.setIfInBounds_toArray, List.set_cons_zero, List.set_cons_succ]
    refine wpAnyT_take1 (i := 10) (v := ?_) rfl (by kernel_rfl) (by kernel_rfl) (by kernel_rfl) (fun _ _ _ h => h) hHeld1 (Or.inl ⟨by rfl, ?_⟩) ?_
    rotate_left
    · (intro w hSw; (try rw [hSS1] at hSw); (try dsimp only at hSw); go_simp; try with_reducible rfl)
    try simp only [Act.put, List.getElem_toArray, List.getElem_cons_zero, List.getElem_cons_succ, List.setIfInBounds_toArray, List.set_cons_zero, List.set_cons_succ]
    refine wpAnyT_take (i := 11) (v := ?_) rfl (by kernel_rfl) (by kernel_rfl) (by kernel_rfl) (by kernel_rfl) (fun _ _ _ h => h) hHeld (Or.inl ⟨by rfl, ?_⟩) ?_
    rotate_left
    · (intro w hSw; (try rw [hSS] at hSw); (try dsimp only at hSw); go_simp; try with_reducible rfl)
    try simp only [Act.put, List.getElem_toArray, List.getElem_cons_zero, List.getElem_cons_succ, List.setIfInBounds_toArray, List.set_cons_zero, List.set_cons_succ]
    refine wpAnyT_take1 (i := 12) (v := ?_) rfl (by kernel_rfl) (by kernel_rfl) (by kernel_rfl) (fun _ _ _ h => h) hHeld1 (Or.inl ⟨by rfl, ?_⟩) ?_
    rotate_left
    · (intro w hSw; (try rw [hSS1] at hSw); (try dsimp only at hSw); go_simp; try with_reducible rfl)
    try simp only [Act.put, List.getElem_toArray, List.getElem_cons_zero, List.getElem_cons_succ, List.setIfInBounds_toArray, List.set_cons_zero, List.set_cons_succ]
    refine wpAnyT_take1 (i := 13) (v := ?_) rfl (by kernel_rfl) (by kernel_rfl) (by kernel_rfl) (fun _ _ _ h => h) hHeld1 (Or.inl ⟨by rfl, ?_⟩) ?_
    rotate_left
    · (intro w hSw; (try rw [hSS1] at hSw); (try dsimp only at hSw); go_simp; try with_reducible rfl)
    try simp only [Act.put, List.getElem_toArray, List.getElem_cons_zero, List.getElem_cons_succ, List.setIfInBounds_toArray, List.set_cons_zero, List.set_cons_succ]
    have zrow : u0.ownsRow W1.heap.size 98 2 (.slice B2 m2 d2) m2 (P.dif.flatMap pv) := mo.op.o2
    have zsee : Sees u0 u0.heap.size E2 (P2.dif.flatMap pv) := (Sees.own oq.o2 (by omega))
    have zlen : (P2.dif.flatMap pv).length = i2 * 2 := oq.o2.1
    refine wpAnyT_one (i := 4) (by kernel_rfl) rfl (fun K hK => ?_)
    refine step_rowS 98 31 _ 2 16 pair_info Tryd.underlying31 rfl (by omega) (by omega) _ rfl (.tmp 32) (.tmp 34) rfl u0 W1.heap.size (.slice B2 m2 d2) m2 _ rfl zrow (Below.refl _ _) u0.heap.size E2 i2 j2 (P2.dif.flatMap pv) rfl zlen zsee (oneCell_pv _) (by omega) hbase (m2 + i2) rfl ?_
    intro Aa ca wa oa ga _ bla hka
    clear zrow zsee zlen
    have moa := mo.two (xs := P2.dif) oa ga hka (by omega)
    have k9a := k9.grown ga (own_off mo.op.o2 k9 (by decide))
    have q3 := World.ownsRow.kept oq.o3 ga (apS (own_sep hp2 oq.o3 (Nat.le_refl _)))
    have q4 := World.ownsRow.kept oq.o4 ga (own_apart oq.o4 mo.op.o2 (by decide))
    have hbase := Nat.le_trans hbase bla.size
    refine hK.out _ _ ⟨Or.inr fun _ => s7 _ moa.k7, fun _ => s9 _ k9a⟩ ?_
    clear hK K
    try simp only [Act.put, List.getElem_toArray, List.getElem_cons_zero, List.getElem_cons_succ, List.setIfInBounds_toArray, List.set_cons_zero, List.set_cons_succ]
    have hHeld2 := s9 _ k9a
    refine wpAnyT_take1 (i := 15) (v := ?_) rfl (by kernel_rfl) (by kernel_rfl) (by kernel_rfl) (fun _ _ _ h => h) hHeld2 (Or.inl ⟨by rfl, ?_⟩) ?_
    rotate_left
    · (intro w hSw; (try rw [hSS1] at hSw); (try dsimp only at hSw); go_simp; try with_reducible rfl)
    try simp only [Act.put, List.getElem_toArray, List.getElem_cons_zero, List.getElem_cons_succ, List.setIfInBounds_toArray, List.set_cons_zero, List.set_cons_succ]
    have zrow : wa.ownsRow W1.heap.size 98 2 (.slice B3 m3 d3) m3 (P.sam.flatMap pv) := moa.op.o3
    have zsee : Sees wa wa.heap.size E3 (P2.sam.flatMap pv) := (Sees.own q3 (by omega))
    have zlen : (P2.sam.flatMap pv).length = i3 * 2 := q3.1
    refine wpAnyT_one (i := 9) (by kernel_rfl) rfl (fun K hK => ?_)
    refine step_rowS 98 31 _ 2 16 pair_info Tryd.underlying31 rfl (by omega) (by omega) _ rfl (.tmp 37) (.tmp 39) rfl wa W1.heap.size (.slice B3 m3 d3) m3 _ rfl zrow (Below.refl _ _) wa.heap.size E3 i3 j3 (P2.sam.flatMap pv) rfl zlen zsee (oneCell_pv _) (by omega) hbase (m3 + i3) rfl ?_
    intro Ab cb wb ob gb _ blb hkb
    clear zrow zsee zlen
    have mob := moa.three (xs := P2.sam) ob gb hkb (by omega)
    have k9b := k9a.grown gb (own_off moa.op.o3 k9a (by decide))
    have q4 := World.ownsRow.kept q4 gb (own_apart q4 moa.op.o3 (by decide))
    have hbase := Nat.le_trans hbase blb.size
    have blb := bla.trans blb
    refine hK.out _ _ ⟨Or.inr fun _ => s7 _ mob.k7, fun _ => s9 _ k9b⟩ ?_
    clear hK K
    try simp only [Act.put, List.getElem_toArray, List.getElem_cons_zero, List.getElem_cons_succ, List.setIfInBounds_toArray, List.set_cons_zero, List.set_cons_succ]
    have zrow : wb.ownsRow W1.heap.size 101 2 (.slice B4 m4 d4) m4 (P.mst.flatMap mv) := mob.op.o4
    have zsee : Sees wb wb.heap.size E4 (P2.mst.flatMap mv) := (Sees.own q4 (by omega))
    have zlen : (P2.mst.flatMap mv).length = i4 * 2 := q4.1
    refine wpAnyT_one (i := 14) (by kernel_rfl) rfl (fun K hK => ?_)
    refine step_rowS 101 37 _ 2 16 rmost_info Tryd.underlying37 rfl (by omega) (by omega) _ rfl (.tmp 42) (.tmp 44) rfl wb W1.heap.size (.slice B4 m4 d4) m4 _ rfl zrow (Below.refl _ _) wb.heap.size E4 i4 j4 (P2.mst.flatMap mv) rfl zlen zsee (oneCell_mv _) (by omega) hbase (m4 + i4) rfl ?_
    intro Ac cc wc oc gc _ blc hkc
    clear zrow zsee zlen
    have moc := mob.four (xs := P2.mst) oc gc (by omega) oq.w4
    have k9c := k9b.grown gc (own_off mob.op.o4 k9b (by decide))
    have blc := blb.trans blc
    clear hbase q3 q4 oq
    refine hK.out _ _ ⟨Or.inr fun _ => s7 _ moc.k7, fun _ => s9 _ k9c⟩ ?_
    clear hK K
    try simp only [Act.put, List.getElem_toArray, List.getElem_cons_zero, List.getElem_cons_succ, List.setIfInBounds_toArray, List.set_cons_zero, List.set_cons_succ]
    have mowc := moc
    have k9wc := k9c
    have blwc := blc
    have x1 : wc.cell? ⟨W2.heap.size, 1, none⟩ = some (.slice B2 m2 d2) := (mowc.k7.cell 1).trans rfl
    have fz := mowc.k7.frozen 1
    refine wpAnyT_one (i := 16) (by kernel_rfl) rfl (fun K hK => ?_)
    go_simp
    have mowd := mowc.put 1 (.slice Aa (m2 + i2) ca)
    have k9wd := k9wc.far (p := ⟨W2.heap.size, 1, none⟩) (Ne.symm hne) (.slice Aa (m2 + i2) ca)
    have blwd := blwc.setCell (p := ⟨W2.heap.size, 1, none⟩) hg7 (.slice Aa (m2 + i2) ca)
    refine hK.out _ _ ⟨Or.inl rfl, fun _ => s9 _ k9wd⟩ ?_
    clear hK K fz x1
    try simp only [Act.put, List.getElem_toArray, List.getElem_cons_zero, List.getElem_cons_succ, List.setIfInBounds_toArray, List.set_cons_zero, List.set_cons_succ]
    generalize (wc.setCell ⟨W2.heap.size, 1, none⟩ (.slice Aa (m2 + i2) ca)) = wd at mowd k9wd blwd ⊢
    refine wpAnyT_one (i := 17) (by kernel_rfl) rfl (fun K hK => ?_)
    go_simp
    refine hK.out _ _ (KeepsT.refl _ _) ?_
    clear hK K
    try simp only [Act.put, List.getElem_toArray, List.getElem_cons_zero, List.getElem_cons_succ, List.setIfInBounds_toArray, List.set_cons_zero, List.set_cons_succ]
    have x2 : wd.cell? ⟨W2.heap.size, 2, none⟩ = some (.slice B3 m3 d3) := (mowd.k7.cell 2).trans rfl
    have fz := mowd.k7.frozen 2
    refine wpAnyT_one (i := 18) (by kernel_rfl) rfl (fun K hK => ?_)
    go_simp
    have mowe := mowd.put 2 (.slice Ab (m3 + i3) cb)
    have k9we := k9wd.far (p := ⟨W2.heap.size, 2, none⟩) (Ne.symm hne) (.slice Ab (m3 + i3) cb)
    have blwe := blwd.setCell (p := ⟨W2.heap.size, 2, none⟩) hg7 (.slice Ab (m3 + i3) cb)
    refine hK.out _ _ ⟨Or.inl rfl, fun _ => s9 _ k9we⟩ ?_
    clear hK K fz x2
    try simp only [Act.put, List.getElem_toArray, List.getElem_cons_zero, List.getElem_cons_succ, List.setIfInBounds_toArray, List.set_cons_zero, List.set_cons_succ]
    generalize (wd.setCell ⟨W2.heap.size, 2, none⟩ (.slice Ab (m3 + i3) cb)) = we at mowe k9we blwe ⊢
    refine wpAnyT_one (i := 19) (by kernel_rfl) rfl (fun K hK => ?_)
    go_simp
    refine hK.out _ _ (KeepsT.refl _ _) ?_
    clear hK K
    try simp only [Act.put, List.getElem_toArray, List.getElem_cons_zero, List.getElem_cons_succ, List.setIfInBounds_toArray, List.set_cons_zero, List.set_cons_succ]
    have x3 : we.cell? ⟨W2.heap.size, 3, none⟩ = some (.slice B4 m4 d4) := (mowe.k7.cell 3).trans rfl
    have fz := mowe.k7.frozen 3
    refine wpAnyT_one (i := 20) (by kernel_rfl) rfl (fun K hK => ?_)
    go_simp
    have mowf := mowe.put 3 (.slice Ac (m4 + i4) cc)
    have k9wf := k9we.far (p := ⟨W2.heap.size, 3, none⟩) (Ne.symm hne) (.slice Ac (m4 + i4) cc)
    have blwf := blwe.setCell (p := ⟨W2.heap.size, 3, none⟩) hg7 (.slice Ac (m4 + i4) cc)
    refine hK.out _ _ ⟨Or.inl rfl, fun _ => s9 _ k9wf⟩ ?_
    clear hK K fz x3
    try simp only [Act.put, List.getElem_toArray, List.getElem_cons_zero, List.getElem_cons_succ, List.setIfInBounds_toArray, List.set_cons_zero, List.set_cons_succ]
    generalize (we.setCell ⟨W2.heap.size, 3, none⟩ (.slice Ac (m4 + i4) cc)) = wf at mowf k9wf blwf ⊢
    refine wpAnyT_done (by kernel_rfl) ?_ _
    have hO9 : RPrAt wf wf.heap.size ⟨⟨B1, m1, d1⟩, ⟨Aa, m2 + i2, ca⟩, ⟨Ab, m3 + i3, cb⟩, ⟨Ac, m4 + i4, cc⟩, ⟨B5, m5, d5⟩⟩ (moP P P2) := mowf.op.at
    have k79 : Blk wf W2.heap.size 39 #[.slice B1 m1 d1, .slice Aa (m2 + i2) ca, .slice Ab (m3 + i3) cb, .slice Ac (m4 + i4) cc, .slice B5 m5 d5] := mowf.k7
    have k89 := mowf.k8
    have hNN := mowf.ns
    have b12 : Below w.heap.size w wf := b11.trans ((bl0.trans blwf).mono (Nat.le_trans b3.size (Nat.le_refl _)))
    clear mowc mowd mowe mowf mo moa mob moc k9 k9a k9b k9c k9wc k9wd k9we k9wf blwc blwd blwe s7 s9 hSS hSS1 hHeld hHeld1 hHeld2 oa ob oc ga gb gc hka hkb
    go_upto_region 10 with fail
    have hS : ∀ W, Below wf.heap.size wf W → W.cell? ⟨W2.heap.size, 0, none⟩ = some (.slice B1 m1 d1) ∧ W.cell? ⟨W2.heap.size, 1, none⟩ = some (.slice Aa (m2 + i2) ca) ∧ W.cell? ⟨W2.heap.size, 2, none⟩ = some (.slice Ab (m3 + i3) cb) ∧ W.cell? ⟨W2.heap.size, 3, none⟩ = some (.slice Ac (m4 + i4) cc) ∧ W.cell? ⟨W2.heap.size, 4, none⟩ = some (.slice B5 m5 d5) ∧ W.cell? ⟨W11.heap.size, 0, none⟩ = some (.slice A11 n10 c11) := fun W hW => ⟨((k79.on hW).cell 0).trans rfl, ((k79.on hW).cell 1).trans rfl, ((k79.on hW).cell 2).trans rfl, ((k79.on hW).cell 3).trans rfl, ((k79.on hW).cell 4).trans rfl, ((k89.on hW).cell 0).trans rfl⟩
    have q0 : Below wf.heap.size wf wf.drew := (Below.refl _ _).drew
    have cm := fun W (hW : Below wf.heap.size wf W) => mkp_any ⟨⟨B1, m1, d1⟩, ⟨Aa, m2 + i2, ca⟩, ⟨Ab, m3 + i3, cb⟩, ⟨Ac, m4 + i4, cc⟩, ⟨B5, m5, d5⟩⟩ (moP P P2) W (hO9.on hW)
    have cch := fun q W (hW : Below wf.heap.size wf W) (h1 : PrAt W W.heap.size q (moP P P2)) => hck q (moP P P2) (ys.map (·.x)) A11 n10 c11 W (b12.trans (hW.mono b12.size)) h1 (by rw [← hzs]; exact (hNN.on hW).atP) (by rw [List.length_map]; exact hylen) (by omega)
    rw [HZ.out] at cch
    simp only [PrV.v, Sl.v] at cm cch
    clear k79 k89 hNN hO9 hck
    go_region_held3 (fun w' => w'.cell? ⟨W2.heap.size, 0, none⟩ = some (.slice B1 m1 d1) ∧ w'.cell? ⟨W2.heap.size, 1, none⟩ = some (.slice Aa (m2 + i2) ca) ∧ w'.cell? ⟨W2.heap.size, 2, none⟩ = some (.slice Ab (m3 + i3) cb) ∧ w'.cell? ⟨W2.heap.size, 3, none⟩ = some (.slice Ac (m4 + i4) cc) ∧ w'.cell? ⟨W2.heap.size, 4, none⟩ = some (.slice B5 m5 d5) ∧ w'.cell? ⟨W11.heap.size, 0, none⟩ = some (.slice A11 n10 c11))
      (first | exact hS _ qB | exact hS _ qA | exact hS _ q0)
      (first
        | (go_at_call 18; refine (cm _ q0).mono ?_; rintro e wx ⟨⟨⟨G1, y1, z1⟩, ⟨G2, y2, z2⟩, ⟨G3, y3, z3⟩, ⟨G4, y4, z4⟩, ⟨G5, y5, z5⟩⟩, rfl, hpx, bx⟩; have qA : Below wf.heap.size wf wx := q0.trans (bx.mono q0.size); simp only [])
        | (go_at_call 17; have mm := qA; refine (cch ⟨⟨G1, y1, z1⟩, ⟨G2, y2, z2⟩, ⟨G3, y3, z3⟩, ⟨G4, y4, z4⟩, ⟨G5, y5, z5⟩⟩ _ qA hpx).mono ?_; rintro e wy ⟨rfl, bx⟩; have qB : Below wf.heap.size wf wy := qA.trans (bx.mono qA.size)))
    all_goals (
      go_wp2_with fail
      go_ret
      exact ⟨rfl, b12.trans (qB.mono b12.size)⟩)
  · have hpos : 0 < (allL P).length := List.length_pos_iff.2 hA
    have Hpos := Lib.hid hpos
    clear hA hck hpos
    go_wp2_with fail
    refine hall.mono ?_
    rintro e W9 ⟨A9, n9, c9, rfl, hL, _, bw9⟩
    have hn9 : 0 < n9 := by rw [← hL.len]; exact Hpos.out
    have hn9' : (0 : Int) < (n9 : Int) := by omega
    clear hL
    go_wp2_with fail
    go_ret
    exact ⟨rfl, b5.trans (bw9.mono b5.size)⟩
end Go.Proofs.YtcdgmdhfaniciaaDoor.refuteMore
