/- The walk of RefuteReads. (genreads.py) -/
import Derived.Test.YtcdgmdhfaniciaaDoorPk
import Derived.Test.YtcdgmdhfaniciaaDoorMkB
import Derived.Test.YtcdgmdhfaniciaaDoorRMk3
import Derived.Test.YtcdgmdhfaniciaaDoorPj
import Derived.Test.YtcdgmdhfaniciaaDoorPm
import Derived.Test.YtcdgmdhfaniciaaDoorAw
import Derived.Test.YtcdgmdhfaniciaaDoorSa
import Derived.Test.YtcdgmdhfaniciaaDoorRf
import Derived.Test.YtcdgmdhfaniciaaDoorRbW
import Derived.Test.YtcdgmdhfaniciaaDoorRsP
import Derived.Test.YtcdgmdhfaniciaaDoorRead
import Derived.Test.YtcdgmdhfaniciaaDoorByW
import Derived.Test.YtcdgmdhfaniciaaDoorBytesEq
import Derived.Test.YtcdgmdhfaniciaaDoorArg2
import Derived.Deep.RegionHeld3
namespace Go.Proofs.YtcdgmdhfaniciaaDoor.refuteReads
open Go.RowKit
set_option linter.unusedVariables false
set_option linter.unusedSimpArgs false

theorem u8_any {z : Int} (h0 : 0 ≤ z) (h1 : z < 256) : ∃ y : UInt8, Value.int .u8 z = bv y := by
  refine ⟨UInt8.ofNat z.toNat, ?_⟩
  unfold bv
  congr 1
  simp
  omega
theorem u8_xor_any (a b : Int) : ∃ y : UInt8, Value.int .u8 (bits .xor .u8 a b) = bv y := by
  have e : ∃ z : Int, bits .xor .u8 a b = IntKind.u8.wrap z := ⟨_, rfl⟩
  obtain ⟨z, e⟩ := e
  rw [e, IntKind.wrap_u8]
  exact u8_any (by omega) (by omega)
theorem ownB_set {w : World} {base n c g q : Nat} {l : List UInt8} (h : OwnB w base (.slice (some ⟨g, 0, none⟩) n c) n l) (y : UInt8) : OwnB (w.setCell ⟨g, q, none⟩ (bv y)) base (.slice (some ⟨g, 0, none⟩) n c) n (l.set q y) := by
  rcases h.2 with ⟨e, _⟩ | ⟨g', cap, cur, e, h1, h2, h3, h4, h5, h6⟩
  · cases e
  · injection e with e1 e2 e3
    injection e1 with e1
    injection e1 with e0 e1 _
    subst e0 e3
    have hb : Blk w g 5 cur := h2
    refine ⟨by simpa using h.len, .inr ⟨g, c, cur.setIfInBounds q (bv y), rfl, h1, hb.put q (bv y), h3, h4, by simpa using h5, ?_⟩⟩
    rw [Array.toList_setIfInBounds, List.take_set, h6, List.map_set]
set_option maxHeartbeats 32000000 in
set_option maxRecDepth 100000 in
theorem walk (r : RwV) (R : Rw) (t1 t2 : Int) (A : Option Addr) (n c : Nat) (lp : List UInt8) (w : World) (h : RwAt w w.heap.size r R) (ht : TwoB t1 t2) (hp : ArgB w A n c lp) (hT : Tab w) :
    Calls Tryd.prog 10 #[r.v R, .agg #[.int .u8 t1, .int .u8 t2], .slice A n c] w fun e w' => e = .returned (.bool true) ∧ Below w.heap.size w w' := by
  have hg0 : 0 < w.heap.size := World.block_lt_of_cell? w _ (hT 0 (by omega))
  have mk := fun W (hw : Below w.heap.size w W) => rmake_any r R W (h.on hw)
  have mf := mkP_few R
  have hc := chkP_mkP R
  obtain ⟨P, hP⟩ : ∃ P, Hid (P = mkP R) := ⟨_, Lib.hid rfl⟩
  rw [← hP.out] at mf mk hc
  have h32 : Few32 P := by rw [hP.out]; exact mkP_32 R
  obtain ⟨t10, t11, t20, t21⟩ := ht
  have rf := fun W (hW : Below w.heap.size w W) q (h1 : RPrAt W W.heap.size q P) => refute_any q P 1 false W h1 hc mf.e1 (mem5 h32) (by omega)
  have rsm := Lib.hid (fun (l : List Nd) (sts : List (List Int)) (h : RefOk P l sts) (hn : l.length ≤ 10000) => ref_small h (chkP_ok hc) mf.e1 (mem5 h32) hn)
  have hpm := hp.max
  have hpc := hp.cap
  unfold maxLen at hpm
  obtain ⟨⟨A1, n1, c1⟩, ⟨A2, n2, c2⟩, ⟨A3, n3, c3⟩, ⟨A4, n4, c4⟩, ⟨A5, n5, c5⟩⟩ := r
  obtain ⟨st, hst⟩ : ∃ st, Hid (st = R.steps) := ⟨_, Lib.hid rfl⟩
  unfold RwV.v Sl.v at mk ⊢
  simp only [] at mk ⊢
  rw [← hst.out] at mk ⊢
  have me1 := mf.e1
  clear h mf
  go_enter Tryd.func10, Tryd.ntmps10
  go_wp2_with fail
  have r1 : Blk ((w.alloc (.cells #[.int .u8 (st : Int), .slice A1 n1 c1, .slice A2 n2 c2, .slice A3 n3 c3, .slice A4 n4 c4, .slice A5 n5 c5] 25)).alloc (.cells #[.int .u8 t1, .int .u8 t2] 79)) w.heap.size 25 #[.int .u8 (st : Int), .slice A1 n1 c1, .slice A2 n2 c2, .slice A3 n3 c3, .slice A4 n4 c4, .slice A5 n5 c5] := (Blk.new w 25 #[.int .u8 (st : Int), .slice A1 n1 c1, .slice A2 n2 c2, .slice A3 n3 c3, .slice A4 n4 c4, .slice A5 n5 c5]).alloc _
  have ra : Blk ((w.alloc (.cells #[.int .u8 (st : Int), .slice A1 n1 c1, .slice A2 n2 c2, .slice A3 n3 c3, .slice A4 n4 c4, .slice A5 n5 c5] 25)).alloc (.cells #[.int .u8 t1, .int .u8 t2] 79)) (w.heap.size + 1) 79 #[.int .u8 t1, .int .u8 t2] := Blk.mk' (by simp)
  have b1 : Below w.heap.size w ((w.alloc (.cells #[.int .u8 (st : Int), .slice A1 n1 c1, .slice A2 n2 c2, .slice A3 n3 c3, .slice A4 n4 c4, .slice A5 n5 c5] 25)).alloc (.cells #[.int .u8 t1, .int .u8 t2] 79)) := bAl (bAl (Below.refl w.heap.size w) _) _
  generalize ((w.alloc (.cells #[.int .u8 (st : Int), .slice A1 n1 c1, .slice A2 n2 c2, .slice A3 n3 c3, .slice A4 n4 c4, .slice A5 n5 c5] 25)).alloc (.cells #[.int .u8 t1, .int .u8 t2] 79)) = W0 at r1 ra b1 ⊢
  refine (awake_any W0 (hT.below b1 hg0)).mono ?_
  rintro e W1 ⟨rfl, ba⟩
  have r1 := r1.on ba
  have ra := ra.on ba
  have b1 := b1.trans (ba.mono b1.size)
  clear ba
  have x0 : W1.cell? ⟨w.heap.size, 0, none⟩ = some (.int .u8 (st : Int)) := (r1.cell 0).trans rfl
  have x1 : W1.cell? ⟨w.heap.size, 1, none⟩ = some (.slice A1 n1 c1) := (r1.cell 1).trans rfl
  have x2 : W1.cell? ⟨w.heap.size, 2, none⟩ = some (.slice A2 n2 c2) := (r1.cell 2).trans rfl
  have x3 : W1.cell? ⟨w.heap.size, 3, none⟩ = some (.slice A3 n3 c3) := (r1.cell 3).trans rfl
  have x4 : W1.cell? ⟨w.heap.size, 4, none⟩ = some (.slice A4 n4 c4) := (r1.cell 4).trans rfl
  have x5 : W1.cell? ⟨w.heap.size, 5, none⟩ = some (.slice A5 n5 c5) := (r1.cell 5).trans rfl
  go_wp2_with fail
  refine (mk W1 b1).mono ?_
  rintro e W2 ⟨⟨⟨B1, m1, d1⟩, ⟨B2, m2, d2⟩, ⟨B3, m3, d3⟩, ⟨B4, m4, d4⟩, ⟨B5, m5, d5⟩⟩, rfl, hO, bw2⟩
  have ra := ra.on bw2
  have b2 := b1.trans (bw2.mono b1.size)
  have hrf := rf W2 b2 ⟨⟨B1, m1, d1⟩, ⟨B2, m2, d2⟩, ⟨B3, m3, d3⟩, ⟨B4, m4, d4⟩, ⟨B5, m5, d5⟩⟩ hO.at
  simp only [PrV.v, Sl.v]
  unfold PrV.v Sl.v at hrf
  simp only [] at hrf
  clear x0 x1 x2 x3 x4 x5 r1 mk rf
  go_wp2_with fail
  refine hrf.mono ?_
  rintro e W3 ⟨An, nn, cn, rfl, ⟨ys, oN, _, _, sts, hR⟩, hnn, bw3⟩
  have ra := ra.on bw3
  have b3 := b2.trans (bw3.mono b2.size)
  obtain ⟨lN, hlN⟩ : ∃ lN, Hid (lN = ys.map (·.x)) := ⟨_, Lib.hid rfl⟩
  have hlen : lN.length = nn := by rw [hlN.out, List.length_map]; exact oN.len
  rw [← hlN.out] at hR
  obtain ⟨hsm, hok, htot, hbl, hblen⟩ := rsm.out _ _ hR (by omega)
  have hat : RNodesAt W3 W3.heap.size An lN := by rw [hlN.out]; exact oN.atR
  have hby := rBytesL_any An nn cn lN W3 hat hlen (by omega) hsm
  rw [← hlen, ← hbl] at hby
  obtain ⟨LQ, hLQ⟩ : ∃ L, Hid (L = bytesL lN) := ⟨_, Lib.hid rfl⟩
  have hLQpos : 0 < LQ.length := by rw [hLQ.out, hbl, List.length_append]; have := enc_pos lN.length; omega
  rw [← hLQ.out] at hby hblen
  rw [hlen] at hby
  clear hR oN hat hsm hok htot hbl hrf rsm hO
  go_wp2_with fail
  refine hby.mono ?_
  rintro e W4 ⟨Aq, mq, cq, rfl, oq, bw4⟩
  have ra := ra.on bw4
  have b4 := b3.trans (bw4.mono b3.size)
  have hmq : LQ.length = mq := oq.len
  rw [hmq] at hblen hLQpos
  have hcq := oq.room
  have HMQ := Lib.hid hmq
  obtain ⟨gq, csq, rfl, hgq, kbq⟩ := own_blk oq hLQpos
  have kbl := kbq.lt
  clear hby hmq bw4
  obtain ⟨k, hk⟩ : ∃ k : Nat, Hid (k = t1.toNat % mq) := ⟨_, Lib.hid rfl⟩
  have hkq : k < mq := by rw [hk.out]; exact Nat.mod_lt _ hLQpos
  have hkq' : (k : Int) < (mq : Int) := by omega
  have hkc : (k : Int) ≤ (cq : Int) := by omega
  have hk0 : (0 : Int) ≤ (k : Int) := by omega
  have htm : t1.tmod (mq : Int) = (k : Int) := by rw [Int.tmod_eq_emod_of_nonneg t10, hk.out, Int.natCast_emod, Int.toNat_of_nonneg t10]
  have hw1 : IntKind.i64.wrap t1 = t1 := IntWalk.i64_in _ (by omega)
  have hn0 : ¬ ((mq : Int) = 0) := by omega
  have hn00 : ¬ (mq = 0) := by omega
  have ya0 : W4.cell? ⟨w.heap.size + 1, 0, none⟩ = some (.int .u8 t1) := (ra.cell 0).trans rfl
  have ya0' : ∀ X, (W4.alloc X).cell? ⟨w.heap.size + 1, 0, none⟩ = some (.int .u8 t1) := fun X => ((ra.alloc X).cell 0).trans rfl
  have hs4 := oq.sees
  go_wp2_with (at_builtin; refine wpL_appB _ rfl (.tmp 19) (.tmp 27) rfl W4.heap.size _ 0 [] rfl (OwnB.made0 W4) (W4.alloc (.cells #[] 5)).heap.size (some ⟨gq, 0, none⟩) k cq (LQ.take k) rfl (by rw [List.length_take, HMQ.out]; omega) (by rw [List.map_take]; exact (hs4.take_ k).alloc (Nat.le_refl _) _ |>.more (by simp)) (by omega) (by simp) k (by omega) _ rfl ?_; intro A5' c5' W5 o5 g5 _)
  have bw5 : Below W4.heap.size W4 W5 := below_app (bAl (Below.refl W4.heap.size W4) (.cells #[] 5)) (by simp) (OwnB.made0 W4) g5
  have oq5 := OwnB.on oq bw5
  have ra5 := ra.on bw5
  have b5 := b4.trans (bw5.mono b4.size)
  have kb5 := kbq.on bw5
  have hbase := b3.size
  clear ya0 ya0' hs4 oq ra b4 g5 kbq
  obtain ⟨bb, oo, x, e9, hbb, Hx, hx256, hcx⟩ := Sees.byte (k := k) oq5.sees (by rw [HMQ.out]; exact hkq)
  injection e9 with e9
  injection e9 with e9 e10
  subst e9 e10
  simp only [Nat.zero_add] at hcx
  have bd : Below W5.heap.size W5 W5.drew := (Below.refl _ _).drew
  obtain ⟨SS, hSS⟩ : ∃ S : World → Prop, S = (fun W => W.cell? ⟨w.heap.size + 1, 0, none⟩ = some (.int .u8 t1) ∧ W.cell? ⟨w.heap.size + 1, 1, none⟩ = some (.int .u8 t2) ∧ W.cell? ⟨gq, k, none⟩ = some (.int .u8 (x.toNat : Int))) := ⟨_, rfl⟩
  have sB : ∀ W, Below W5.heap.size W5 W → SS W := fun W hW => by rw [hSS]; exact ⟨((ra5.on hW).cell 0).trans rfl, ((ra5.on hW).cell 1).trans rfl, (hW.cell (p := ⟨gq, k, none⟩) hbb).trans hcx⟩
  refine wp_region_F (fun i => i == 13) SS (by kernel_rfl) (sB _ bd) (fun hHeld => ?_)
  generalize hu3 : W5.drew = u3 at bd hHeld ⊢
  clear hu3
  refine wpAnyF_take (i := 0) (v := ?_) rfl (by kernel_rfl) (by kernel_rfl) (by kernel_rfl) (by kernel_rfl) (fun _ _ _ h => h) hHeld (Or.inl ⟨by rfl, ?_⟩) ?_
  rotate_left
  · (intro w hSw; (try rw [hSS] at hSw); (try dsimp only at hSw); go_simp; try with_reducible rfl)
  try simp only [Act.put, List.getElem_toArray, List.getElem_cons_zero, List.getElem_cons_succ, List.setIfInBounds_toArray, List.set_cons_zero, List.set_cons_succ]
  refine wpAnyF_take (i := 1) (v := ?_) rfl (by kernel_rfl) (by kernel_rfl) (by kernel_rfl) (by kernel_rfl) (fun _ _ _ h => h) hHeld (Or.inl ⟨by rfl, ?_⟩) ?_
  rotate_left
  · (intro w hSw; (try rw [hSS] at hSw); (try dsimp only at hSw); go_simp; try with_reducible rfl)
  try simp only [Act.put, List.getElem_toArray, List.getElem_cons_zero, List.getElem_cons_succ, List.setIfInBounds_toArray, List.set_cons_zero, List.set_cons_succ]
  refine wpAnyF_take (i := 2) (v := ?_) rfl (by kernel_rfl) (by kernel_rfl) (by kernel_rfl) (by kernel_rfl) (fun _ _ _ h => h) hHeld (Or.inl ⟨by rfl, ?_⟩) ?_
  rotate_left
  · (intro w hSw; (try rw [hSS] at hSw); (try dsimp only at hSw); go_simp; try with_reducible rfl)
  try simp only [Act.put, List.getElem_toArray, List.getElem_cons_zero, List.getElem_cons_succ, List.setIfInBounds_toArray, List.set_cons_zero, List.set_cons_succ]
  refine wpAnyF_take (i := 3) (v := ?_) rfl (by kernel_rfl) (by kernel_rfl) (by kernel_rfl) (by kernel_rfl) (fun _ _ _ h => h) hHeld (Or.inl ⟨by rfl, ?_⟩) ?_
  rotate_left
  · (intro w hSw; (try rw [hSS] at hSw); (try dsimp only at hSw); go_simp; try with_reducible rfl)
  try simp only [Act.put, List.getElem_toArray, List.getElem_cons_zero, List.getElem_cons_succ, List.setIfInBounds_toArray, List.set_cons_zero, List.set_cons_succ]
  refine wpAnyF_take (i := 4) (v := ?_) rfl (by kernel_rfl) (by kernel_rfl) (by kernel_rfl) (by kernel_rfl) (fun _ _ _ h => h) hHeld (Or.inl ⟨by rfl, ?_⟩) ?_
  rotate_left
  · (intro w hSw; (try rw [hSS] at hSw); (try dsimp only at hSw); go_simp; try with_reducible rfl)
  try simp only [Act.put, List.getElem_toArray, List.getElem_cons_zero, List.getElem_cons_succ, List.setIfInBounds_toArray, List.set_cons_zero, List.set_cons_succ]
  refine wpAnyF_take (i := 5) (v := ?_) rfl (by kernel_rfl) (by kernel_rfl) (by kernel_rfl) (by kernel_rfl) (fun _ _ _ h => h) hHeld (Or.inl ⟨by rfl, ?_⟩) ?_
  rotate_left
  · (intro w hSw; (try rw [hSS] at hSw); (try dsimp only at hSw); go_simp; try with_reducible rfl)
  try simp only [Act.put, List.getElem_toArray, List.getElem_cons_zero, List.getElem_cons_succ, List.setIfInBounds_toArray, List.set_cons_zero, List.set_cons_succ]
  refine wpAnyF_take (i := 6) (v := ?_) rfl (by kernel_rfl) (by kernel_rfl) (by kernel_rfl) (by kernel_rfl) (fun _ _ _ h => h) hHeld (Or.inl ⟨by rfl, ?_⟩) ?_
  rotate_left
  · (intro w hSw; (try rw [hSS] at hSw); (try dsimp only at hSw); go_simp; try with_reducible rfl)
  try simp only [Act.put, List.getElem_toArray, List.getElem_cons_zero, List.getElem_cons_succ, List.setIfInBounds_toArray, List.set_cons_zero, List.set_cons_succ]
  refine wpAnyF_take (i := 7) (v := ?_) rfl (by kernel_rfl) (by kernel_rfl) (by kernel_rfl) (by kernel_rfl) (fun _ _ _ h => h) hHeld (Or.inl ⟨by rfl, ?_⟩) ?_
  rotate_left
  · (intro w hSw; (try rw [hSS] at hSw); (try dsimp only at hSw); go_simp; try with_reducible rfl)
  try simp only [Act.put, List.getElem_toArray, List.getElem_cons_zero, List.getElem_cons_succ, List.setIfInBounds_toArray, List.set_cons_zero, List.set_cons_succ]
  refine wpAnyF_take (i := 8) (v := ?_) rfl (by kernel_rfl) (by kernel_rfl) (by kernel_rfl) (by kernel_rfl) (fun _ _ _ h => h) hHeld (Or.inl ⟨by rfl, ?_⟩) ?_
  rotate_left
  · (intro w hSw; (try rw [hSS] at hSw); (try dsimp only at hSw); go_simp; try with_reducible rfl)
  try simp only [Act.put, List.getElem_toArray, List.getElem_cons_zero, List.getElem_cons_succ, List.setIfInBounds_toArray, List.set_cons_zero, List.set_cons_succ]
  refine wpAnyF_take (i := 9) (v := ?_) rfl (by kernel_rfl) (by kernel_rfl) (by kernel_rfl) (by kernel_rfl) (fun _ _ _ h => h) hHeld (Or.inl ⟨by rfl, ?_⟩) ?_
  rotate_left
  · (intro w hSw; (try rw [hSS] at hSw); (try dsimp only at hSw); go_simp; try with_reducible rfl)
  try simp only [Act.put, List.getElem_toArray, List.getElem_cons_zero, List.getElem_cons_succ, List.setIfInBounds_toArray, List.set_cons_zero, List.set_cons_succ]
  refine wpAnyF_take (i := 10) (v := ?_) rfl (by kernel_rfl) (by kernel_rfl) (by kernel_rfl) (by kernel_rfl) (fun _ _ _ h => h) hHeld (Or.inl ⟨by rfl, ?_⟩) ?_
  rotate_left
  · (intro w hSw; (try rw [hSS] at hSw); (try dsimp only at hSw); go_simp; try with_reducible rfl)
  try simp only [Act.put, List.getElem_toArray, List.getElem_cons_zero, List.getElem_cons_succ, List.setIfInBounds_toArray, List.set_cons_zero, List.set_cons_succ]
  refine wpAnyF_take (i := 11) (v := ?_) rfl (by kernel_rfl) (by kernel_rfl) (by kernel_rfl) (by kernel_rfl) (fun _ _ _ h => h) hHeld (Or.inl ⟨by rfl, ?_⟩) ?_
  rotate_left
  · (intro w hSw; (try rw [hSS] at hSw); (try dsimp only at hSw); go_simp; try with_reducible rfl)
  try simp only [Act.put, List.getElem_toArray, List.getElem_cons_zero, List.getElem_cons_succ, List.setIfInBounds_toArray, List.set_cons_zero, List.set_cons_succ]
  refine wpAnyF_take (i := 12) (v := ?_) rfl (by kernel_rfl) (by kernel_rfl) (by kernel_rfl) (by kernel_rfl) (fun _ _ _ h => h) hHeld (Or.inl ⟨by rfl, ?_⟩) ?_
  rotate_left
  · (intro w hSw; (try rw [hSS] at hSw); (try dsimp only at hSw); go_simp; try with_reducible rfl)
  try simp only [Act.put, List.getElem_toArray, List.getElem_cons_zero, List.getElem_cons_succ, List.setIfInBounds_toArray, List.set_cons_zero, List.set_cons_succ]
  have kb3 := kb5.on bd
  have z9 : u3.cell? ⟨gq, k, none⟩ = some (.int .u8 (x.toNat : Int)) := (bd.cell (p := ⟨gq, k, none⟩) hbb).trans hcx
  have fz9 := kb3.frozen k
  refine wpAnyF_one (i := 13) (by kernel_rfl) rfl (fun K hK => ?_)
  go_simp
  refine hK.out _ _ (Or.inl rfl) ?_
  clear hK K
  refine wpAnyF_done (by kernel_rfl) ?_ _
  obtain ⟨y, hy⟩ := u8_xor_any (x.toNat : Int) t2
  rw [hy]
  have oq6 := ownB_set (q := k) (OwnB.on oq5 bd) y
  have hne5 : (Value.slice A5' k c5').ownBlock ≠ some gq := fun e => by
    have := (World.ownsRow.lt o5 _ e).1
    have h9 := kbl
    omega
  have o6 : OwnB (u3.setCell ⟨gq, k, none⟩ (bv y)) W4.heap.size (.slice A5' k c5') k (LQ.take k) := ownsRow_setCell_other (OwnB.on o5 bd) (a := ⟨gq, k, none⟩) hne5 _
  have b6 : Below w.heap.size w (u3.setCell ⟨gq, k, none⟩ (bv y)) := (b5.trans (bd.mono b5.size)).setCell (p := ⟨gq, k, none⟩) (Nat.le_trans hbase hgq) _
  clear z9 fz9 kb3 hHeld sB hSS SS hcx oq5 o5 ra5 kb5 bd b5 bw5 hkq' htm hw1 hn0 hn00
  generalize (u3.setCell ⟨gq, k, none⟩ (bv y)) = W6 at oq6 o6 b6 ⊢
  obtain ⟨m, hm⟩ : ∃ m : Nat, Hid (m = min n 60) := ⟨_, Lib.hid rfl⟩
  have hm60 : m ≤ 60 := by have := hm.out; omega
  have hmn : m ≤ n := by have := hm.out; omega
  have hmin : min (n : Int) 60 = (m : Int) := by have := hm.out; omega
  have hnb : (n : Int) ≤ 9223372036854775807 := by omega
  have hmc : (m : Int) ≤ (c : Int) := by omega
  go_wp2_with fail
  have kg := Blk.new W6 22 #[.slice A m c, .slice (some ⟨gq, 0, none⟩) mq cq, .slice A5' k c5']
  have bg := bAl (Below.refl W6.heap.size W6) (.cells #[.slice A m c, .slice (some ⟨gq, 0, none⟩) mq cq, .slice A5' k c5'] 22)
  have hL : ∀ q : Nat, q < 3 → ∃ (Ax : Option Addr) (nx cx : Nat) (lx : List UInt8), (#[.slice A m c, .slice (some ⟨gq, 0, none⟩) mq cq, .slice A5' k c5'] : Array Value)[q]? = some (.slice Ax nx cx) ∧ Sees (W6.alloc (.cells #[.slice A m c, .slice (some ⟨gq, 0, none⟩) mq cq, .slice A5' k c5'] 22)) (W6.alloc (.cells #[.slice A m c, .slice (some ⟨gq, 0, none⟩) mq cq, .slice A5' k c5'] 22)).heap.size Ax (lx.map bv) ∧ lx.length = nx ∧ nx ≤ 1000000 := by
    intro q hq
    rcases q with _ | _ | _ | q
    · exact ⟨A, m, c, lp.take m, rfl, by rw [List.map_take]; exact (((hp.sees.take_ m).on b6).on bg), by rw [List.length_take, hp.len]; omega, by omega⟩
    · exact ⟨_, mq, cq, LQ.set k y, rfl, (OwnB.sees oq6).on bg, by rw [List.length_set]; exact HMQ.out, by omega⟩
    · exact ⟨A5', k, c5', LQ.take k, rfl, (OwnB.sees o6).on bg, OwnB.len o6, by omega⟩
    · omega
  have b7 := b6.trans (bg.mono b6.size)
  generalize (W6.alloc (.cells #[.slice A m c, .slice (some ⟨gq, 0, none⟩) mq cq, .slice A5' k c5'] 22)) = W7 at kg bg hL b7 ⊢
  have HL := Lib.hid hL
  clear hL hmin hnb hmc oq6 o6 bg hkc hcq hpc hpm
  go_loopw [51] (fun v51 wr => ∃ q : Nat, v51 = .int .i64 (q : Int) ∧ q ≤ 3 ∧ Below W7.heap.size W7 wr) (fun v51 _ => 3 - (intOf v51).toNat)
  case atStart => exact ⟨0, rfl, Nat.zero_le _, Below.refl _ _⟩
  case round =>
    obtain ⟨q, rfl, hq, hb⟩ := hrel
    by_cases hq3 : q < 3
    · have hq3' : (q : Int) < 3 := by omega
      obtain ⟨Ax, nx, cx, lx, hcell, hsx, hlx, hnx⟩ := HL.out q hq3
      have hcg : wr.cell? ⟨W6.heap.size, q, none⟩ = some (.slice Ax nx cx) := ((kg.on hb).cell q).trans hcell
      have hrd := read_walk Ax nx cx lx wr (hsx.on hb) hlx hnx
      have HRS := Lib.hid (fun h => read_size (p := lx) (by rw [hlx]; exact hnx) h)
      have HSX := Lib.hid hsx
      have HLX := Lib.hid hlx
      obtain ⟨bo, hbo⟩ : ∃ b, Hid (b = okR lx) := ⟨_, Lib.hid rfl⟩
      rw [← hbo.out] at hrd HRS
      unfold RdPost at hrd
      clear hcell hsx hlx
      go_wp2_with fail
      refine hrd.mono ?_
      rintro e V1 ⟨An', n', cn', rfl, hgood, hbad, hn'6, bv1⟩
      go_upto_region 10 with (fail)
      have bA := bAl bv1 (.cells #[.slice An' n' cn'] 53)
      have kr := Blk.new V1 53 #[.slice An' n' cn']
      have bA1 := bAl (Below.refl V1.heap.size V1) (.cells #[.slice An' n' cn'] 53)
      generalize (V1.alloc (.cells #[.slice An' n' cn'] 53)) = V2 at bA kr bA1 ⊢
      have hbn := hb.trans (bA.mono hb.size)
      have yr : V2.cell? ⟨V1.heap.size, 0, none⟩ = some (.slice An' n' cn') := (kr.cell 0).trans rfl
      clear hcg hrd
      cases bo
      · have hn0' : n' = 0 := hbad rfl
        subst hn0'
        simp only [Bool.false_eq_true, if_false]
        go_wp2_with fail
        go_roundw
        case rel => exact ⟨q + 1, by go_num, by omega, hbn⟩
        case measure => simp [intOf]; omega
      · obtain ⟨yy, hyy, oN⟩ := hgood rfl
        obtain ⟨hB, hT9⟩ := HRS.out rfl
        have oN2 := oN.on bA1
        have hat := oN2.atP
        rw [hyy] at hat
        have hln : (rdN lx).1.length = n' := by rw [← hyy, List.length_map]; exact oN2.len
        have hpb := pBytes_any An' n' cn' (rdN lx).1 V2 hat hln (by omega) hn'6
        rw [hB] at hpb
        simp only [if_true]
        clear hgood hbad oN oN2 hat hyy hB hT9 bv1
        go_wp2_with fail
        refine hpb.mono ?_
        rintro e V3 ⟨A3, c3, rfl, o3, bv3⟩
        have hbn3 := hbn.trans (bv3.mono hbn.size)
        have heq := equal_any A3 Ax lx.length c3 nx cx lx lx V3 (OwnB.sees o3) (HSX.out.on hbn3) rfl HLX.out (by rw [HLX.out]; omega)
        rw [beq_self_eq_true] at heq
        clear hpb o3
        go_wp2_with fail
        refine heq.mono ?_
        rintro e V4 ⟨rfl, qq, rfl⟩
        have hbn4 := hbn3.trans ((below_drewN (Below.refl V3.heap.size V3) qq).mono hbn3.size)
        clear heq
        go_wp2_with fail
        go_roundw
        case rel => exact ⟨q + 1, by go_num, by omega, hbn4⟩
        case measure => simp [intOf]; omega
    · obtain rfl : q = 3 := by omega
      have hb9 := b7.trans (hb.mono b7.size)
      go_wp2_with fail
      go_ret
      exact ⟨rfl, hb9⟩
end Go.Proofs.YtcdgmdhfaniciaaDoor.refuteReads
