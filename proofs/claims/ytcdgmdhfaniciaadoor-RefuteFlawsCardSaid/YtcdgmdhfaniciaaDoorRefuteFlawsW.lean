/- The walk of RefuteFlaws. (genflaws.py) -/
import Derived.Test.YtcdgmdhfaniciaaDoorRf
import Derived.Test.YtcdgmdhfaniciaaDoorAllP
import Derived.Test.YtcdgmdhfaniciaaDoorRCk
import Derived.Test.YtcdgmdhfaniciaaDoorChg
import Derived.Test.YtcdgmdhfaniciaaDoorPk
import Derived.Test.YtcdgmdhfaniciaaDoorCheck
import Derived.Test.YtcdgmdhfaniciaaDoorMkB
import Derived.Test.YtcdgmdhfaniciaaDoorRMk3
import Derived.Test.YtcdgmdhfaniciaaDoorAw
namespace Go.Proofs.YtcdgmdhfaniciaaDoor.refuteFlaws
open Go.RowKit
set_option linter.unusedVariables false
set_option linter.unusedSimpArgs false

theorem walkN_le (P : Pr) : ∀ (l : List Nd) (k : Nat) (sts : List (List Int)), (walkN P l k sts).1 ≤ 5
  | [], _, _ => by unfold walkN; omega
  | x :: l, k, sts => by
    unfold walkN
    split
    · split
      · exact walkN_le P l _ _
      · exact (by omega : 3 ≤ 5)
    · split
      · split
        · exact walkN_le P l _ _
        · exact (by omega : 4 ≤ 5)
      · split
        · exact walkN_le P l _ _
        · exact Nat.le_refl 5
theorem chkR_le (P : Pr) (l : List Nd) : (chkR P l).1 ≤ 5 := by
  unfold chkR
  split
  · exact (by omega : 2 ≤ 5)
  · split
    · exact (by omega : 2 ≤ 5)
    · exact walkN_le P _ _ _
set_option maxHeartbeats 32000000 in
set_option maxRecDepth 100000 in
theorem walk (r : RwV) (R : Rw) (C1 : Option Addr) (mc cc : Nat) (cs : List Chg) (A : Option Addr) (n c : Nat) (l : List Rn) (w : World) (h : RwAt w w.heap.size r R) (hcs : ArgChgs w C1 mc cc cs) (hl : ArgRaws w A n c l) (hT : Tab w) :
    Calls Tryd.prog 6 #[r.v R, .slice C1 mc cc, .slice A n c] w fun e w' => e = .returned (.bool true) ∧ Below w.heap.size w w' := by
  have hg0 : 0 < w.heap.size := World.block_lt_of_cell? w _ (hT 0 (by omega))
  have mk := fun W (hw : Below w.heap.size w W) => rmake_any r R W (h.on hw)
  have mf := mkP_few R
  have hc := chkP_mkP R
  obtain ⟨P, hP⟩ : ∃ P, Hid (P = mkP R) := ⟨_, Lib.hid rfl⟩
  rw [← hP.out] at mf mk hc
  have h32 : Few32 P := by rw [hP.out]; exact mkP_32 R
  have hlm := hl.max
  have hlc := hl.cap
  have hcm := hcs.max
  have hcc := hcs.cap
  unfold maxLen at hlm hcm
  have hn63 : (n : Int) ≤ 9223372036854775807 := by omega
  have hm63 : (mc : Int) ≤ 9223372036854775807 := by omega
  obtain ⟨t, ht⟩ : ∃ t : Nat, Hid (t = n % 5) := ⟨_, Lib.hid rfl⟩
  have ht4 : t ≤ 4 := by have := ht.out; omega
  have htm : (n : Int) % 5 = (t : Int) := by rw [ht.out]; simp
  have rf := fun W (hW : Below w.heap.size w W) q b (h1 : RPrAt W W.heap.size q P) => refute_any q P t b W h1 hc mf.e1 (mem5 h32) ht4
  have chg := fun A n c ys W (hW : Below w.heap.size w W) (base : Nat) (hba : w.heap.size ≤ base) h1 h2 h3 h4 h5 => change_any A n c ys C1 mc cc cs base W h1 h2 h3 h4 h5 ((hcs.mem.below hW).more hba) hcs.len hcs.cap hcs.max
  have rws := fun W (hW : Below w.heap.size w W) => raws_any A n c l W (hl.mem.on hW) hl.len hl.cap hl.max
  have hck := fun q ls Aq nq cq W (hW : Below w.heap.size w W) (h1 : PrAt W W.heap.size q P) h2 h3 h4 => check_any q P Aq nq cq ls W h1 h2 h3 h4 (hT.below hW hg0)
  have rck := fun q ls Aq nq cq W (h1 : RPrAt W W.heap.size q P) h2 h3 h4 => rcheck_any q P Aq nq cq ls W h1 h2 h3 h4
  have hle := Lib.hid (chkR_le P)
  have hnl : (nodesL l).length ≤ 8 := by unfold nodesL; simp; omega
  obtain ⟨⟨A1, n1, c1⟩, ⟨A2, n2, c2⟩, ⟨A3, n3, c3⟩, ⟨A4, n4, c4⟩, ⟨A5, n5, c5⟩⟩ := r
  obtain ⟨st, hst⟩ : ∃ st, Hid (st = R.steps) := ⟨_, Lib.hid rfl⟩
  unfold RwV.v Sl.v at mk ⊢
  simp only [] at mk ⊢
  rw [← hst.out] at mk ⊢
  have me1 := mf.e1
  clear h mf
  clear hlm hlc hcm hcc
  go_enter Tryd.func6, Tryd.ntmps6
  go_wp2_with fail
  have r1 := Blk.new w 25 #[.int .u8 (st : Int), .slice A1 n1 c1, .slice A2 n2 c2, .slice A3 n3 c3, .slice A4 n4 c4, .slice A5 n5 c5]
  have b1 := bAl (Below.refl w.heap.size w) (.cells #[.int .u8 (st : Int), .slice A1 n1 c1, .slice A2 n2 c2, .slice A3 n3 c3, .slice A4 n4 c4, .slice A5 n5 c5] 25)
  generalize (w.alloc (.cells #[.int .u8 (st : Int), .slice A1 n1 c1, .slice A2 n2 c2, .slice A3 n3 c3, .slice A4 n4 c4, .slice A5 n5 c5] 25)) = W0 at r1 b1 ⊢
  refine (awake_any W0 (hT.below b1 hg0)).mono ?_
  rintro e W1 ⟨rfl, ba⟩
  have r2 := r1.on ba
  have b2 := b1.trans (ba.mono b1.size)
  clear r1 b1 ba
  have x0 : W1.cell? ⟨w.heap.size, 0, none⟩ = some (.int .u8 (st : Int)) := (r2.cell 0).trans rfl
  have x1 : W1.cell? ⟨w.heap.size, 1, none⟩ = some (.slice A1 n1 c1) := (r2.cell 1).trans rfl
  have x2 : W1.cell? ⟨w.heap.size, 2, none⟩ = some (.slice A2 n2 c2) := (r2.cell 2).trans rfl
  have x3 : W1.cell? ⟨w.heap.size, 3, none⟩ = some (.slice A3 n3 c3) := (r2.cell 3).trans rfl
  have x4 : W1.cell? ⟨w.heap.size, 4, none⟩ = some (.slice A4 n4 c4) := (r2.cell 4).trans rfl
  have x5 : W1.cell? ⟨w.heap.size, 5, none⟩ = some (.slice A5 n5 c5) := (r2.cell 5).trans rfl
  go_wp2_with fail
  refine (mk W1 b2).mono ?_
  rintro e W2 ⟨⟨⟨B1, m1, d1⟩, ⟨B2, m2, d2⟩, ⟨B3, m3, d3⟩, ⟨B4, m4, d4⟩, ⟨B5, m5, d5⟩⟩, rfl, hO, bw2⟩
  have b3 := b2.trans (bw2.mono b2.size)
  have hO3 := hO.at
  simp only [PrV.v, Sl.v]
  clear x0 x1 x2 x3 x4 x5 r2 b2 bw2 mk
  go_wp2_with fail
  have k4 := Blk.new W2 39 #[.slice B1 m1 d1, .slice B2 m2 d2, .slice B3 m3 d3, .slice B4 m4 d4, .slice B5 m5 d5]
  have bk := bAl (Below.refl W2.heap.size W2) (.cells #[.slice B1 m1 d1, .slice B2 m2 d2, .slice B3 m3 d3, .slice B4 m4 d4, .slice B5 m5 d5] 39)
  have sz4 : W2.heap.size < (W2.alloc (.cells #[.slice B1 m1 d1, .slice B2 m2 d2, .slice B3 m3 d3, .slice B4 m4 d4, .slice B5 m5 d5] 39)).heap.size := by simp
  generalize (W2.alloc (.cells #[.slice B1 m1 d1, .slice B2 m2 d2, .slice B3 m3 d3, .slice B4 m4 d4, .slice B5 m5 d5] 39)) = W4 at k4 bk sz4 ⊢
  have b4 := b3.trans (bk.mono b3.size)
  have hO4 := hO3.on bk
  clear hO3 b3 bk
  refine (rf W4 b4 ⟨⟨B1, m1, d1⟩, ⟨B2, m2, d2⟩, ⟨B3, m3, d3⟩, ⟨B4, m4, d4⟩, ⟨B5, m5, d5⟩⟩ _ hO4).mono ?_
  rintro e W5 ⟨A5', n5', c5', rfl, ⟨ys, hN5, hA5, hS5, sts, hR5⟩, hn5', bw5⟩
  have b5 := b4.trans (bw5.mono b4.size)
  have k5 := k4.on bw5
  have hO4' := hO4
  clear hR5 k4 hO4 rf
  go_wp2_with fail
  refine (chg A5' n5' c5' ys W5 b5 W4.heap.size b4.size hN5 hA5 hS5 bw5.size hn5').mono ?_
  rintro e W6 ⟨A6, n6, c6, rfl, ⟨zs, hzs, hN6, hA6, hS6⟩, hn6, bw6⟩
  have b6 := b5.trans (bw6.mono b4.size)
  have hb4 := b4.size
  have bw46 := bw5.trans bw6
  have k6 : Blk W6 W2.heap.size 39 #[.slice B1 m1 d1, .slice B2 m2 d2, .slice B3 m3 d3, .slice B4 m4 d4, .slice B5 m5 d5] := k5.below bw6 sz4
  have hO6 : RPrAt W6 W6.heap.size ⟨⟨B1, m1, d1⟩, ⟨B2, m2, d2⟩, ⟨B3, m3, d3⟩, ⟨B4, m4, d4⟩, ⟨B5, m5, d5⟩⟩ P := hO4'.on bw46
  clear hN5 hA5 hS5 hA6 hS6 k5 hO4' chg hzs bw5 bw6
  go_wp2_with fail
  refine (rws W6 b6).mono ?_
  rintro e W7 ⟨A7, n7, c7, rfl, ⟨xs, hxs, hN7⟩, hn7, bw7⟩
  have b7 := b6.trans (bw7.mono b6.size)
  have k7 := k6.on bw7
  have hO7 := hO6.on bw7
  have hL6 := (hN6.on bw7).atR
  have hL7 := hN7.atR
  have hl6 : (zs.map (·.x)).length = n6 := by rw [List.length_map]; exact hN6.len
  have hl7 : (xs.map (·.x)).length = n7 := by rw [List.length_map]; exact hN7.len
  obtain ⟨l6, hl6e⟩ : ∃ q, q = zs.map (·.x) := ⟨_, rfl⟩
  obtain ⟨l7, hl7e⟩ : ∃ q, q = xs.map (·.x) := ⟨_, rfl⟩
  rw [← hl6e] at hL6 hl6
  rw [← hl7e] at hL7 hl7
  clear hl6e hl7e hN6 hN7 hxs k6 hO6 rws bw7 b6
  have ba := bAl (Below.refl W7.heap.size W7) (.cells #[.slice A6 n6 c6, .slice A7 n7 c7] 55)
  have kL := Blk.new W7 55 #[.slice A6 n6 c6, .slice A7 n7 c7]
  go_wp2_with fail
  obtain ⟨gL, hgL⟩ : ∃ g, Hid (g = W7.heap.size) := ⟨_, Lib.hid rfl⟩
  rw [← hgL.out] at kL ⊢
  generalize (W7.alloc (.cells #[.slice A6 n6 c6, .slice A7 n7 c7] 55)) = W8 at ba kL ⊢
  have b8 := b7.trans (ba.mono b7.size)
  have k8 := k7.on ba
  have hO8 := hO7.on ba
  have hL68 := hL6.on ba
  have hL78 := hL7.on ba
  clear k7 hO7 hL6 hL7 ba b7
  go_loopw [33] (fun v33 wr => ∃ k : Nat, k ≤ 2 ∧ v33 = .int .i64 (k : Int) ∧ Below w.heap.size w wr ∧ Blk wr W2.heap.size 39 #[.slice B1 m1 d1, .slice B2 m2 d2, .slice B3 m3 d3, .slice B4 m4 d4, .slice B5 m5 d5] ∧ RPrAt wr wr.heap.size ⟨⟨B1, m1, d1⟩, ⟨B2, m2, d2⟩, ⟨B3, m3, d3⟩, ⟨B4, m4, d4⟩, ⟨B5, m5, d5⟩⟩ P ∧ RNodesAt wr wr.heap.size A6 l6 ∧ RNodesAt wr wr.heap.size A7 l7 ∧ Blk wr gL 55 #[.slice A6 n6 c6, .slice A7 n7 c7]) (fun v33 _ => 2 - (intOf v33).toNat)
  case atStart => exact ⟨0, by omega, rfl, b8, k8, hO8, hL68, hL78, kL⟩
  case round =>
    clear b8 k8 hO8 hL68 hL78 kL
    obtain ⟨k, hk, rfl, b8, k8, hO8, hL68, hL78, kL⟩ := hrel
    by_cases hlt : k < 2
    · have hlt' : (k : Int) < 2 := by omega
      obtain ⟨Al, nl, cl, ll, hcell, hN, hlen, hnb⟩ : ∃ Al nl cl ll, wr.cell? ⟨gL, k, none⟩ = some (.slice Al nl cl) ∧ RNodesAt wr wr.heap.size Al ll ∧ ll.length = nl ∧ nl ≤ 10000 := by
        have e : k = 0 ∨ k = 1 := by omega
        rcases e with rfl | rfl
        · exact ⟨A6, n6, c6, l6, (kL.cell 0).trans rfl, hL68, hl6, hn6⟩
        · exact ⟨A7, n7, c7, l7, (kL.cell 1).trans rfl, hL78, hl7, by omega⟩
      obtain ⟨f1, hf1⟩ : ∃ f, Hid (f = (chkR P ll).1) := ⟨_, Lib.hid rfl⟩
      obtain ⟨f2, hf2⟩ : ∃ f, Hid (f = (chkR P ll).2) := ⟨_, Lib.hid rfl⟩
      have hf5 : f1 ≤ 5 := by rw [hf1.out]; exact hle.out ll
      have hf5' : (f1 : Int) ≤ 5 := by omega
      have ck1 := fun q Aq nq cq W (hW : Below w.heap.size w W) (h1 : PrAt W W.heap.size q P) h2 h3 h4 => hck q ll Aq nq cq W hW h1 h2 h3 h4
      have ck2 := fun q Aq nq cq W (h1 : RPrAt W W.heap.size q P) h2 h3 h4 => rck q ll Aq nq cq W h1 h2 h3 h4
      rw [← hf1.out, ← hf2.out] at ck1 ck2
      have x0 : wr.cell? ⟨W2.heap.size, 0, none⟩ = some (.slice B1 m1 d1) := (k8.cell 0).trans rfl
      have x1 : wr.cell? ⟨W2.heap.size, 1, none⟩ = some (.slice B2 m2 d2) := (k8.cell 1).trans rfl
      have x2 : wr.cell? ⟨W2.heap.size, 2, none⟩ = some (.slice B3 m3 d3) := (k8.cell 2).trans rfl
      have x3 : wr.cell? ⟨W2.heap.size, 3, none⟩ = some (.slice B4 m4 d4) := (k8.cell 3).trans rfl
      have x4 : wr.cell? ⟨W2.heap.size, 4, none⟩ = some (.slice B5 m5 d5) := (k8.cell 4).trans rfl
      go_wp2_with fail
      refine (mkp_any ⟨⟨B1, m1, d1⟩, ⟨B2, m2, d2⟩, ⟨B3, m3, d3⟩, ⟨B4, m4, d4⟩, ⟨B5, m5, d5⟩⟩ P wr hO8).mono ?_
      rintro e U5 ⟨q, rfl, hq, bw5⟩
      have c5 := b8.trans (bw5.mono b8.size)
      go_wp2_with fail
      refine (nodes41_any Al nl cl ll U5 (hN.on bw5) hlen (by omega)).mono ?_
      rintro e U6 ⟨A9, c9, rfl, ⟨vs, hvs, hN9⟩, bw6⟩
      have c6' := c5.trans (bw6.mono c5.size)
      have hN9a := hN9.atP
      rw [hvs] at hN9a
      clear hvs hN9 x0 x1 x2 x3 x4
      go_wp2_with fail
      refine (ck1 q A9 nl c9 U6 c6' (hq.on bw6) hN9a hlen (by omega)).mono ?_
      rintro e U7 ⟨rfl, bw7⟩
      have bb := (bw5.trans (bw6.mono bw5.size))
      have b9 := bb.trans (bw7.mono bb.size)
      have c9' := b8.trans (b9.mono b8.size)
      have k9 := k8.on b9
      have hO9 := hO8.on b9
      clear hN9a hq bw5 bw6 bw7 bb c5 c6'
      have x0 : U7.cell? ⟨W2.heap.size, 0, none⟩ = some (.slice B1 m1 d1) := (k9.cell 0).trans rfl
      have x1 : U7.cell? ⟨W2.heap.size, 1, none⟩ = some (.slice B2 m2 d2) := (k9.cell 1).trans rfl
      have x2 : U7.cell? ⟨W2.heap.size, 2, none⟩ = some (.slice B3 m3 d3) := (k9.cell 2).trans rfl
      have x3 : U7.cell? ⟨W2.heap.size, 3, none⟩ = some (.slice B4 m4 d4) := (k9.cell 3).trans rfl
      have x4 : U7.cell? ⟨W2.heap.size, 4, none⟩ = some (.slice B5 m5 d5) := (k9.cell 4).trans rfl
      go_wp2_with fail
      refine (ck2 ⟨⟨B1, m1, d1⟩, ⟨B2, m2, d2⟩, ⟨B3, m3, d3⟩, ⟨B4, m4, d4⟩, ⟨B5, m5, d5⟩⟩ Al nl cl U7 hO9 (hN.on b9) hlen (by omega)).mono ?_
      rintro e U8 ⟨rfl, bw8⟩
      have b10 := b9.trans (bw8.mono b9.size)
      have R1 := b8.trans (b10.mono b8.size)
      have R2 := k8.on b10
      have R3 := hO8.on b10
      have R4 := hL68.on b10
      have R5 := hL78.on b10
      have R6 := kL.on b10
      clear x0 x1 x2 x3 x4 ck1 ck2 hN k9 hO9 b9 c9' b10 k8 hO8 hL68 hL78 kL b8
      go_wp2_with fail
      go_roundw
      case rel => exact ⟨k + 1, by omega, by go_num, R1, R2, R3, R4, R5, R6⟩
      case measure => simp [intOf]; omega
    · obtain rfl : k = 2 := by omega
      go_wp2_with fail
      go_ret
      exact ⟨rfl, b8⟩
end Go.Proofs.YtcdgmdhfaniciaaDoor.refuteFlaws
