/- The walk of RefuteComplete. (gencomp.py) -/
import Derived.Test.YtcdgmdhfaniciaaDoorRf
import Derived.Test.YtcdgmdhfaniciaaDoorAllP
import Derived.Test.YtcdgmdhfaniciaaDoorPk
import Derived.Test.YtcdgmdhfaniciaaDoorCheck
import Derived.Test.YtcdgmdhfaniciaaDoorMkB
import Derived.Test.YtcdgmdhfaniciaaDoorRMk3
import Derived.Test.YtcdgmdhfaniciaaDoorAw
import Derived.Deep.RegionHeld3
namespace Go.Proofs.YtcdgmdhfaniciaaDoor.refuteComplete
open Go.RowKit
set_option linter.unusedVariables false
set_option linter.unusedSimpArgs false

set_option maxHeartbeats 32000000 in
set_option maxRecDepth 100000 in
theorem walk (r : RwV) (R : Rw) (a1 : Int) (a2 : Bool) (w : World) (h : RwAt w w.heap.size r R) (w1 : (Lit.int .u8 a1).wf = true) (hT : Tab w) :
    Calls Tryd.prog 4 #[r.v R, .int .u8 a1, .bool a2] w fun e w' => e = .returned (.bool true) ∧ Below w.heap.size w w' := by
  have hg0 : 0 < w.heap.size := World.block_lt_of_cell? w _ (hT 0 (by omega))
  have mk := fun W (hw : Below w.heap.size w W) => rmake_any r R W (h.on hw)
  have mf := mkP_few R
  have hc := chkP_mkP R
  obtain ⟨P, hP⟩ : ∃ P, Hid (P = mkP R) := ⟨_, Lib.hid rfl⟩
  rw [← hP.out] at mf mk hc
  obtain ⟨a10, a11⟩ := wf_u8 w1
  have h32 : Few32 P := by rw [hP.out]; exact mkP_32 R
  obtain ⟨t, ht⟩ : ∃ t : Nat, Hid (t = a1.toNat % 5) := ⟨_, Lib.hid rfl⟩
  have ht4 : t ≤ 4 := by have := ht.out; omega
  have htm : a1 % 5 = (t : Int) := by have := ht.out; omega
  have ht0 : (0 : Int) ≤ (t : Int) := by omega
  have ht5 : (t : Int) ≤ 4 := by omega
  have rf := fun W (hW : Below w.heap.size w W) q (h1 : RPrAt W W.heap.size q P) => refute_any q P t a2 W h1 hc mf.e1 (mem5 h32) ht4
  have hck := fun q l Aq nq cq W (hW : Below w.heap.size w W) (h1 : PrAt W W.heap.size q P) h2 h3 h4 => check_any q P Aq nq cq l W h1 h2 h3 h4 (hT.below hW hg0)
  have hyes := Lib.hid (fun (l : List Nd) sts (h1 : RefOk P l sts) => (chkR_ref h1 hc).1)
  have hno := Lib.hid (fun (l : List Nd) sts (h1 : RefOk P l sts) => (chkR_ref h1 hc).2)
  have hnil := Lib.hid (@allL_nil P h32)
  have hsome := Lib.hid (@allL_some P)
  obtain ⟨⟨A1, n1, c1⟩, ⟨A2, n2, c2⟩, ⟨A3, n3, c3⟩, ⟨A4, n4, c4⟩, ⟨A5, n5, c5⟩⟩ := r
  obtain ⟨st, hst⟩ : ∃ st, Hid (st = R.steps) := ⟨_, Lib.hid rfl⟩
  unfold RwV.v Sl.v at mk ⊢
  simp only [] at mk ⊢
  rw [← hst.out] at mk ⊢
  have me1 := mf.e1
  clear h mf
  go_enter Tryd.func4, Tryd.ntmps4
  go_wp2_with fail
  have r1 := Blk.new w 25 #[.int .u8 (st : Int), .slice A1 n1 c1, .slice A2 n2 c2, .slice A3 n3 c3, .slice A4 n4 c4, .slice A5 n5 c5]
  have b1 := bAl (Below.refl w.heap.size w) (.cells #[.int .u8 (st : Int), .slice A1 n1 c1, .slice A2 n2 c2, .slice A3 n3 c3, .slice A4 n4 c4, .slice A5 n5 c5] 25)
  generalize (w.alloc (.cells #[.int .u8 (st : Int), .slice A1 n1 c1, .slice A2 n2 c2, .slice A3 n3 c3, .slice A4 n4 c4, .slice A5 n5 c5] 25)) = W0 at r1 b1 ⊢
  refine (awake_any W0 (hT.below b1 hg0)).mono ?_
  rintro e W1 ⟨rfl, ba⟩
  have r2 := r1.on ba
  have b2 := b1.trans (ba.mono b1.size)
  clear r1 b1 ba
  have x0 : W1.cell? ⟨w.heap.size, 0, none⟩ = some (.int .u8 (st : Int)) := (r2.cell 0).trans rfl
  have x1 : W1.cell? ⟨w.heap.size, 1, none⟩ = some (.slice A1 n1 c1) := (r2.cell 1).trans rfl
  have x2 : W1.cell? ⟨w.heap.size, 2, none⟩ = some (.slice A2 n2 c2) := (r2.cell 2).trans rfl
  have x3 : W1.cell? ⟨w.heap.size, 3, none⟩ = some (.slice A3 n3 c3) := (r2.cell 3).trans rfl
  have x4 : W1.cell? ⟨w.heap.size, 4, none⟩ = some (.slice A4 n4 c4) := (r2.cell 4).trans rfl
  have x5 : W1.cell? ⟨w.heap.size, 5, none⟩ = some (.slice A5 n5 c5) := (r2.cell 5).trans rfl
  go_wp2_with fail
  refine (mk W1 b2).mono ?_
  rintro e W2 ⟨⟨⟨B1, m1, d1⟩, ⟨B2, m2, d2⟩, ⟨B3, m3, d3⟩, ⟨B4, m4, d4⟩, ⟨B5, m5, d5⟩⟩, rfl, hO, bw2⟩
  have b3 := b2.trans (bw2.mono b2.size)
  have hO3 := hO.at
  simp only [PrV.v, Sl.v]
  clear x0 x1 x2 x3 x4 x5 r2 b2 bw2 mk
  go_upto_region 4 with fail
  have k4 := Blk.new W2 39 #[.slice B1 m1 d1, .slice B2 m2 d2, .slice B3 m3 d3, .slice B4 m4 d4, .slice B5 m5 d5]
  have bk := bAl (Below.refl W2.heap.size W2) (.cells #[.slice B1 m1 d1, .slice B2 m2 d2, .slice B3 m3 d3, .slice B4 m4 d4, .slice B5 m5 d5] 39)
  have sz4 : W2.heap.size < (W2.alloc (.cells #[.slice B1 m1 d1, .slice B2 m2 d2, .slice B3 m3 d3, .slice B4 m4 d4, .slice B5 m5 d5] 39)).heap.size := by simp
  generalize (W2.alloc (.cells #[.slice B1 m1 d1, .slice B2 m2 d2, .slice B3 m3 d3, .slice B4 m4 d4, .slice B5 m5 d5] 39)) = W4 at k4 bk sz4 ⊢
  have b4 := b3.trans (bk.mono b3.size)
  have hO4 := hO3.on bk
  clear hO3 b3 bk
  have sB : ∀ W, Below W4.heap.size W4 W → (W.cell? ⟨W2.heap.size, 0, none⟩ = some (.slice B1 m1 d1) ∧ W.cell? ⟨W2.heap.size, 1, none⟩ = some (.slice B2 m2 d2) ∧ W.cell? ⟨W2.heap.size, 2, none⟩ = some (.slice B3 m3 d3) ∧ W.cell? ⟨W2.heap.size, 3, none⟩ = some (.slice B4 m4 d4) ∧ W.cell? ⟨W2.heap.size, 4, none⟩ = some (.slice B5 m5 d5)) := fun W hW => ⟨((k4.on hW).cell 0).trans rfl, ((k4.on hW).cell 1).trans rfl, ((k4.on hW).cell 2).trans rfl, ((k4.on hW).cell 3).trans rfl, ((k4.on hW).cell 4).trans rfl⟩
  have qq := (Below.refl W4.heap.size W4).drew
  have hwrap : IntKind.i64.wrap (a1.tmod 5) = (t : Int) := by rw [Int.tmod_eq_emod_of_nonneg a10, htm]; exact IntWalk.i64_in _ (by omega)
  clear htm
  have cmk := fun W (h1 : RPrAt W W.heap.size ⟨⟨B1, m1, d1⟩, ⟨B2, m2, d2⟩, ⟨B3, m3, d3⟩, ⟨B4, m4, d4⟩, ⟨B5, m5, d5⟩⟩ P) => mkp_any ⟨⟨B1, m1, d1⟩, ⟨B2, m2, d2⟩, ⟨B3, m3, d3⟩, ⟨B4, m4, d4⟩, ⟨B5, m5, d5⟩⟩ P W h1
  have crf := fun W (hW : Below w.heap.size w W) (h1 : RPrAt W W.heap.size ⟨⟨B1, m1, d1⟩, ⟨B2, m2, d2⟩, ⟨B3, m3, d3⟩, ⟨B4, m4, d4⟩, ⟨B5, m5, d5⟩⟩ P) => rf W hW ⟨⟨B1, m1, d1⟩, ⟨B2, m2, d2⟩, ⟨B3, m3, d3⟩, ⟨B4, m4, d4⟩, ⟨B5, m5, d5⟩⟩ h1
  unfold PrV.v Sl.v at cmk crf hck
  simp only [] at cmk crf hck
  clear rf
  obtain ⟨f, hf⟩ : ∃ f : List Nd → Nat × Int, Hid (f = chkR P) := ⟨_, Lib.hid rfl⟩
  go_region_held3 (fun W => W.cell? ⟨W2.heap.size, 0, none⟩ = some (.slice B1 m1 d1) ∧ W.cell? ⟨W2.heap.size, 1, none⟩ = some (.slice B2 m2 d2) ∧ W.cell? ⟨W2.heap.size, 2, none⟩ = some (.slice B3 m3 d3) ∧ W.cell? ⟨W2.heap.size, 3, none⟩ = some (.slice B4 m4 d4) ∧ W.cell? ⟨W2.heap.size, 4, none⟩ = some (.slice B5 m5 d5))
    ((refine sB _ ?_; first | with_reducible exact qq | with_reducible exact q5 | with_reducible exact q6 | with_reducible exact q7 | with_reducible exact q8))
    (first
      | (go_at_call 18; with_reducible refine (cmk _ (hO4.on qq)).mono ?_; rintro e W5 ⟨⟨⟨E1, i1, j1⟩, ⟨E2, i2, j2⟩, ⟨E3, i3, j3⟩, ⟨E4, i4, j4⟩, ⟨E5, i5, j5⟩⟩, rfl, hq5, bw5⟩; have q5 : Below W4.heap.size W4 W5 := qq.trans (bw5.mono qq.size); simp only [])
      | (go_at_call 20; with_reducible refine (crf W5 (b4.trans (q5.mono b4.size)) (hO4.on q5)).mono ?_; rintro e W6 ⟨A6, n6, c6, rfl, ⟨ys, hN6, hA6, hS6, sts, hR6⟩, hn6, bw6⟩; have q6 : Below W4.heap.size W4 W6 := q5.trans (bw6.mono q5.size))
      | (go_at_call 19; with_reducible refine (nodes41_any A6 n6 c6 (ys.map (·.x)) W6 hN6.atR (by rw [List.length_map]; exact hN6.len) (by omega)).mono ?_; rintro e W7 ⟨A7, c7, rfl, ⟨zs, hzs, hN7⟩, bw7⟩; have q7 : Below W4.heap.size W4 W7 := q6.trans (bw7.mono q6.size))
      | (go_at_call 17; with_reducible refine (hck ⟨⟨E1, i1, j1⟩, ⟨E2, i2, j2⟩, ⟨E3, i3, j3⟩, ⟨E4, i4, j4⟩, ⟨E5, i5, j5⟩⟩ (ys.map (·.x)) A7 n6 c7 W7 (b4.trans (q7.mono b4.size)) (hq5.on (bw6.trans (bw7.mono bw6.size))) (by rw [← hzs]; exact hN7.atP) (by rw [List.length_map]; exact hN6.len) (by omega)).mono ?_; rintro e W8 ⟨rfl, bw8⟩; have q8 : Below W4.heap.size W4 W8 := q7.trans (bw8.mono q7.size)))
  have b8 := b4.trans (q8.mono b4.size)
  have k8 := k4.on q8
  have hO8 := hO4.on q8
  have hall8 := all_any ⟨⟨B1, m1, d1⟩, ⟨B2, m2, d2⟩, ⟨B3, m3, d3⟩, ⟨B4, m4, d4⟩, ⟨B5, m5, d5⟩⟩ P W8 hO8 me1
  clear hN6 hA6 hS6 hN7 hzs hq5 qq sB q5 q6 q7 q8 bw5 bw6 bw7 bw8 hO4 k4
  have x0 : W8.cell? ⟨W2.heap.size, 0, none⟩ = some (.slice B1 m1 d1) := (k8.cell 0).trans rfl
  have x1 : W8.cell? ⟨W2.heap.size, 1, none⟩ = some (.slice B2 m2 d2) := (k8.cell 1).trans rfl
  have x2 : W8.cell? ⟨W2.heap.size, 2, none⟩ = some (.slice B3 m3 d3) := (k8.cell 2).trans rfl
  have x3 : W8.cell? ⟨W2.heap.size, 3, none⟩ = some (.slice B4 m4 d4) := (k8.cell 3).trans rfl
  have x4 : W8.cell? ⟨W2.heap.size, 4, none⟩ = some (.slice B5 m5 d5) := (k8.cell 4).trans rfl
  by_cases hA : allL P = []
  · have hz := hyes.out _ _ hR6 (fun s => hnil.out hA s)
    rw [hz]
    rw [hA] at hall8
    clear hA hz hR6 hck
    go_wp2_with fail
    refine hall8.mono ?_
    rintro e W9 ⟨A9, n9, c9, rfl, hL, _, bw9⟩
    have hn9 := hL.len
    obtain rfl : 0 = n9 := hn9
    go_wp2_with fail
    go_ret
    exact ⟨rfl, b8.trans (bw9.mono b8.size)⟩
  · have hz := hno.out _ _ hR6 (hsome.out hA)
    have hpos : 0 < (allL P).length := List.length_pos_iff.2 hA
    have Hpos := Lib.hid hpos
    obtain ⟨v1, hv1⟩ : ∃ v, Hid (v = (chkR P (ys.map (·.x))).1) := ⟨_, Lib.hid rfl⟩
    rw [← hv1.out] at hz ⊢
    subst hz
    clear hA hR6 hck hpos
    go_wp2_with fail
    refine hall8.mono ?_
    rintro e W9 ⟨A9, n9, c9, rfl, hL, _, bw9⟩
    have hn9 : 0 < n9 := by rw [← hL.len]; exact Hpos.out
    have hn9' : (0 : Int) < (n9 : Int) := by omega
    clear hL
    go_wp2_with fail
    go_ret
    exact ⟨rfl, b8.trans (bw9.mono b8.size)⟩
end Go.Proofs.YtcdgmdhfaniciaaDoor.refuteComplete
