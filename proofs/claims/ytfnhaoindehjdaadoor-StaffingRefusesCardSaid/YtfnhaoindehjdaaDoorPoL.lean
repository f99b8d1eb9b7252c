/- Possible: the loop over the steps. (genpos.py) -/
import Derived.Test.YtfnhaoindehjdaaDoorPoB
import Derived.LoopIn
import Derived.Deep.CutRange
import Derived.Deep.RegionWith
import Derived.Deep.QuietTactic
import Derived.BigQuiet
import Derived.Laws.ResultCell
import Derived.RangeFuncWrites
import Derived.RangeFuncLeaves
import Derived.Sort.CutIn
namespace Go.Proofs.YtfnhaoindehjdaaDoor
open Go.RowKit
set_option linter.unusedVariables false
set_option linter.unusedSimpArgs false
attribute [local go_sem] Oper.semAt_some

/-- The rows of the first k steps. -/
structure PL (w : World) (P : Pr) (A1 A2 A3 A4 A5 : Option Addr) (n1 c1 n2 c2 n3 c3 n4 c4 n5 c5 g3 gO k : Nat) (Ds : List Nat) (W : World) : Prop where
  le : k ≤ n1
  rows : ∃ vs : List Value, Blk W gO 30 vs.toArray ∧ vs.length = n1 ∧ (∀ j, j < k → ∃ A n c, vs[j]? = some (.slice A n c) ∧ OwnI W w.heap.size (.slice A n c) n (possK P j)) ∧ (∀ j, k ≤ j → j < n1 → vs[j]? = some (.slice none 0 0))
  low : Below w.heap.size w W
  bp : Blk W w.heap.size 32 #[.slice A1 n1 c1, .slice A2 n2 c2, .slice A3 n3 c3, .slice A4 n4 c4, .slice A5 n5 c5]
  b3 : Blk W g3 37 #[.slice (some ⟨gO, 0, none⟩) n1 n1]
  opn : OpenM W w.heap.size Ds
theorem PL.on {w : World} {P : Pr} {A1 A2 A3 A4 A5 : Option Addr} {n1 c1 n2 c2 n3 c3 n4 c4 n5 c5 g3 gO k : Nat} {Ds : List Nat} {W W' : World} (h : PL w P A1 A2 A3 A4 A5 n1 c1 n2 c2 n3 c3 n4 c4 n5 c5 g3 gO k Ds W) (hb : Below W.heap.size W W') : PL w P A1 A2 A3 A4 A5 n1 c1 n2 c2 n3 c3 n4 c4 n5 c5 g3 gO k Ds W' := by
  obtain ⟨vs, r1, r2, r3, r4⟩ := h.rows
  exact ⟨h.le, ⟨vs, r1.on hb, r2, fun j hj => by obtain ⟨A, n, c, e, o⟩ := r3 j hj; exact ⟨A, n, c, e, OwnI.on o hb⟩, r4⟩, h.low.trans (hb.mono h.low.size), h.bp.on hb, h.b3.on hb, ⟨h.opn.1, fun D hD => ⟨(h.opn.2 D hD).1, (hb.block D (h.opn.lt hD)).trans (h.opn.2 D hD).2⟩⟩⟩
set_option maxHeartbeats 8000000 in
set_option maxRecDepth 100000 in
theorem pos_loop {w : World} {P : Pr} {A1 A2 A3 A4 A5 : Option Addr} {n1 c1 n2 c2 n3 c3 n4 c4 n5 c5 g3 gO : Nat} (hT : Tab w) (pr : PrAt w w.heap.size ⟨⟨A1, n1, c1⟩, ⟨A2, n2, c2⟩, ⟨A3, n3, c3⟩, ⟨A4, n4, c4⟩, ⟨A5, n5, c5⟩⟩ P) (hc : chkP P = 0) (sm : SmP P) (hsv : solvB P = true) (hgO : w.heap.size ≤ gO)
    (W : World) (hW : PL w P A1 A2 A3 A4 A5 n1 c1 n2 c2 n3 c3 n4 c4 n5 c5 g3 gO 0 [] W)
    (Q : Exit → Act → World → Prop) (cx2 cx4 cx5 cx6 cx7 cx8 cx9 cx10 cx11 cx12 cx13 cx14 cx15 cx16 cx17 cx18 cx19 cx20 cx21 cx22 cx23 cx24 cx25 cx26 cx27 cx28 cx29 cx30 cx31 cx32 cx33 cx34 cx35 cx36 cx37 cx38 cx39 cx40 cx41 cx42 cx43 cx44 cx45 cx46 cx47 cx48 cx49 cx50 cx51 cx52 cx53 cx54 cx55 cx56 cx57 cx58 cx59 cx60 cx61 cx62 cx63 cx64 cx65 cx66 cx67 cx68 : Value)
    (hN : ∀ (Ds : List Nat) (W' : World) (u2 u4 u5 u6 u7 u8 u9 u10 u11 u12 u13 u14 u15 u16 u17 u18 u19 u20 u21 u22 u23 u24 u25 u26 u27 u28 u29 u30 u31 u32 u33 u34 u35 u36 u37 u38 u39 u40 u41 u42 u43 u44 u45 u46 u47 u48 u49 u50 u51 u52 u53 u54 u55 u56 u57 u58 u59 u60 u61 u62 u63 u64 u65 u66 u67 u68 : Value), PL w P A1 A2 A3 A4 A5 n1 c1 n2 c2 n3 c3 n4 c4 n5 c5 g3 gO n1 Ds W' → Q .normal ⟨#[.agg #[.slice A1 n1 c1, .slice A2 n2 c2, .slice A3 n3 c3, .slice A4 n4 c4, .slice A5 n5 c5], .pointer (some ⟨w.heap.size, 0, none⟩), u2, .pointer (some ⟨g3, 0, none⟩), u4, u5, u6, u7, u8, u9, u10, u11, u12, u13, u14, u15, u16, u17, u18, u19, u20, u21, u22, u23, u24, u25, u26, u27, u28, u29, u30, u31, u32, u33, u34, u35, u36, u37, u38, u39, u40, u41, u42, u43, u44, u45, u46, u47, u48, u49, u50, u51, u52, u53, u54, u55, u56, u57, u58, u59, u60, u61, u62, u63, u64, u65, u66, u67, u68], Ds.map markOf⟩ W') :
    (posPart 4).wpIn Fence.wide 5 Tryd.prog Q ⟨#[.agg #[.slice A1 n1 c1, .slice A2 n2 c2, .slice A3 n3 c3, .slice A4 n4 c4, .slice A5 n5 c5], .pointer (some ⟨w.heap.size, 0, none⟩), cx2, .pointer (some ⟨g3, 0, none⟩), cx4, cx5, cx6, cx7, cx8, cx9, cx10, cx11, cx12, cx13, cx14, cx15, cx16, cx17, cx18, cx19, cx20, cx21, cx22, cx23, cx24, cx25, cx26, cx27, cx28, cx29, cx30, cx31, cx32, cx33, cx34, cx35, cx36, cx37, cx38, cx39, cx40, cx41, cx42, cx43, cx44, cx45, cx46, cx47, cx48, cx49, cx50, cx51, cx52, cx53, cx54, cx55, cx56, cx57, cx58, cx59, cx60, cx61, cx62, cx63, cx64, cx65, cx66, cx67, cx68], []⟩ W := by
  have HN := Lib.hid hN
  clear hN
  have hgB := fun (k : Nat) (Ds : List Nat) (W : World) (h : PL w P A1 A2 A3 A4 A5 n1 c1 n2 c2 n3 c3 n4 c4 n5 c5 g3 gO k Ds W) => h.b3.cell 0
  have y3 : W.cell? ⟨g3, 0, none⟩ = some (.slice (some ⟨gO, 0, none⟩) n1 n1) := (hW.b3.cell 0).trans rfl
  have hl1 : P.elig.length = n1 := pr.l1
  have hbn : n1 ≤ 5 := by rw [← hl1]; exact sm.1
  have hbi : (n1 : Int) ≤ 5 := by omega
  have hg0 : 0 < w.heap.size := World.block_lt_of_cell? w _ (hT 0 (by omega))
  have HL1 := Lib.hid hl1
  clear hl1 hgB
  conv => arg 4; whnf
  gi_wp2
  refine wpIn_loop (fun a W' => ∃ (k : Nat) (Ds : List Nat) (u2 u4 u5 u6 u7 u8 u9 u10 u11 u12 u13 u14 u15 u16 u17 u21 u22 u23 u24 u25 u26 u27 u28 u29 u30 u31 u32 u33 u34 u35 u36 u37 u38 u39 u40 u41 u42 u43 u44 u45 u46 u47 u48 u49 u50 u51 u52 u53 u54 u55 u56 u57 u58 u59 u60 u61 u62 u63 u64 u65 u66 u67 u68 : Value), PL w P A1 A2 A3 A4 A5 n1 c1 n2 c2 n3 c3 n4 c4 n5 c5 g3 gO k Ds W' ∧ a = ⟨#[.agg #[.slice A1 n1 c1, .slice A2 n2 c2, .slice A3 n3 c3, .slice A4 n4 c4, .slice A5 n5 c5], .pointer (some ⟨w.heap.size, 0, none⟩), u2, .pointer (some ⟨g3, 0, none⟩), u4, u5, u6, u7, u8, u9, u10, u11, u12, u13, u14, u15, u16, u17, .slice (some ⟨gO, 0, none⟩) n1 n1, .int .i64 (n1 : Int), .int .i64 (k : Int), u21, u22, u23, u24, u25, u26, u27, u28, u29, u30, u31, u32, u33, u34, u35, u36, u37, u38, u39, u40, u41, u42, u43, u44, u45, u46, u47, u48, u49, u50, u51, u52, u53, u54, u55, u56, u57, u58, u59, u60, u61, u62, u63, u64, u65, u66, u67, u68], Ds.map markOf⟩) (fun a _ => n1 - (intOf (a.tmps.getD 20 undef)).toNat) ?start ?round
  case start => exact ⟨0, [], _, _, _, _, _, _, _, _, _, _, _, _, _, _, _, _, _, _, _, _, _, _, _, _, _, _, _, _, _, _, _, _, _, _, _, _, _, _, _, _, _, _, _, _, _, _, _, _, _, _, _, _, _, _, _, _, _, _, _, _, _, _, _, hW, rfl⟩
  case round =>
    intro a9 wr hinv
    obtain ⟨k, hinv⟩ := hinv
    obtain ⟨Ds, hinv⟩ := hinv
    obtain ⟨u2, hinv⟩ := hinv
    obtain ⟨u4, hinv⟩ := hinv
    obtain ⟨u5, hinv⟩ := hinv
    obtain ⟨u6, hinv⟩ := hinv
    obtain ⟨u7, hinv⟩ := hinv
    obtain ⟨u8, hinv⟩ := hinv
    obtain ⟨u9, hinv⟩ := hinv
    obtain ⟨u10, hinv⟩ := hinv
    obtain ⟨u11, hinv⟩ := hinv
    obtain ⟨u12, hinv⟩ := hinv
    obtain ⟨u13, hinv⟩ := hinv
    obtain ⟨u14, hinv⟩ := hinv
    obtain ⟨u15, hinv⟩ := hinv
    obtain ⟨u16, hinv⟩ := hinv
    obtain ⟨u17, hinv⟩ := hinv
    obtain ⟨u21, hinv⟩ := hinv
    obtain ⟨u22, hinv⟩ := hinv
    obtain ⟨u23, hinv⟩ := hinv
    obtain ⟨u24, hinv⟩ := hinv
    obtain ⟨u25, hinv⟩ := hinv
    obtain ⟨u26, hinv⟩ := hinv
    obtain ⟨u27, hinv⟩ := hinv
    obtain ⟨u28, hinv⟩ := hinv
    obtain ⟨u29, hinv⟩ := hinv
    obtain ⟨u30, hinv⟩ := hinv
    obtain ⟨u31, hinv⟩ := hinv
    obtain ⟨u32, hinv⟩ := hinv
    obtain ⟨u33, hinv⟩ := hinv
    obtain ⟨u34, hinv⟩ := hinv
    obtain ⟨u35, hinv⟩ := hinv
    obtain ⟨u36, hinv⟩ := hinv
    obtain ⟨u37, hinv⟩ := hinv
    obtain ⟨u38, hinv⟩ := hinv
    obtain ⟨u39, hinv⟩ := hinv
    obtain ⟨u40, hinv⟩ := hinv
    obtain ⟨u41, hinv⟩ := hinv
    obtain ⟨u42, hinv⟩ := hinv
    obtain ⟨u43, hinv⟩ := hinv
    obtain ⟨u44, hinv⟩ := hinv
    obtain ⟨u45, hinv⟩ := hinv
    obtain ⟨u46, hinv⟩ := hinv
    obtain ⟨u47, hinv⟩ := hinv
    obtain ⟨u48, hinv⟩ := hinv
    obtain ⟨u49, hinv⟩ := hinv
    obtain ⟨u50, hinv⟩ := hinv
    obtain ⟨u51, hinv⟩ := hinv
    obtain ⟨u52, hinv⟩ := hinv
    obtain ⟨u53, hinv⟩ := hinv
    obtain ⟨u54, hinv⟩ := hinv
    obtain ⟨u55, hinv⟩ := hinv
    obtain ⟨u56, hinv⟩ := hinv
    obtain ⟨u57, hinv⟩ := hinv
    obtain ⟨u58, hinv⟩ := hinv
    obtain ⟨u59, hinv⟩ := hinv
    obtain ⟨u60, hinv⟩ := hinv
    obtain ⟨u61, hinv⟩ := hinv
    obtain ⟨u62, hinv⟩ := hinv
    obtain ⟨u63, hinv⟩ := hinv
    obtain ⟨u64, hinv⟩ := hinv
    obtain ⟨u65, hinv⟩ := hinv
    obtain ⟨u66, hinv⟩ := hinv
    obtain ⟨u67, hinv⟩ := hinv
    obtain ⟨u68, hinv⟩ := hinv
    obtain ⟨hL, ha⟩ := hinv
    subst ha
    have hkn := hL.le
    by_cases hlt : k < n1
    · have hlt' : (k : Int) < (n1 : Int) := by omega
      obtain ⟨M, hM⟩ : ∃ M, P.elig[k]? = some M := ⟨_, List.getElem?_eq_getElem (by rw [HL1.out]; exact hlt)⟩
      obtain ⟨b, o, X, rfl, hb2, hcX0, hS⟩ := pr.e1 k M hM

      obtain ⟨Av, nv, cv, hXe, hnc, hnv, hlv, hsvv, _⟩ := id hS
      obtain rfl : X = .slice Av nv cv := by simpa using hXe
      clear hXe
      have HM := Lib.hid hM
      have Hlv := Lib.hid hlv
      have HPr := Lib.hid pr
      clear hM hlv pr
      gi_upto_region 9 with (fail)
      have hL1 := hL.on (bAl (Below.refl wr.heap.size wr) (.cells #[.int .i64 (k : Int)] 3))
      have kk := Blk.new wr 3 #[.int .i64 (k : Int)]
      have zk : (wr.alloc (.cells #[.int .i64 (k : Int)] 3)).heap.size = wr.heap.size + 1 := by simp
      generalize (wr.alloc (.cells #[.int .i64 (k : Int)] 3)) = W1 at hL1 kk zk ⊢
      have y0 : W1.cell? ⟨w.heap.size, 0, none⟩ = some (.slice (some ⟨b, o, none⟩) n1 c1) := (hL1.bp.cell 0).trans rfl
      have yk : W1.cell? ⟨wr.heap.size, 0, none⟩ = some (.int .i64 (k : Int)) := (kk.cell 0).trans rfl
      have hcX : W1.cell? ⟨b, o + k, none⟩ = some (.slice Av nv cv) := (hL1.low.cell (p := ⟨b, o + k, none⟩) hb2).trans hcX0
      gi_wp2
      refine ⟨trivial, (allF_any _ _ _ _ trivial rfl).mono ?_⟩
      rintro e u4 ⟨rfl, rfl⟩
      have bA := bAl (Below.refl W1.heap.size W1) (.cells #[.slice Av nv cv] 63)
      have hL2 := hL1.on bA
      have kk2 := kk.on bA
      have ka := Blk.new W1 63 #[.slice Av nv cv]
      have lt1 := kk.lt
      clear y0 yk hcX y3 bA
      generalize (W1.alloc (.cells #[.slice Av nv cv] 63)) = W2 at hL2 kk2 ka ⊢
      obtain ⟨vs, r1, r2, r3, r4⟩ := hL2.rows
      have hps : Ps w W2 P (some ⟨b, o, none⟩) A2 A3 A4 A5 n1 c1 n2 c2 n3 c3 n4 c4 n5 c5 g3 gO wr.heap.size k vs := ⟨hT, HPr.out, hc, sm, hL2.low, hL2.bp, hL2.b3, kk2, hlt, hgO, r1.lt, r2, r1⟩
      gi_wp2
      rw [zk] at ka
      refine pos_rf hps (wr.heap.size + 1) M Ds HM.out Av nv cv hnc hnv Hlv.out hsvv ((ka.cell 0).trans rfl) ka.lt (r4 k (Nat.le_refl _) hlt) _ _ _ _ _ _ _ _ _ _ _ _ _ _ _ _ _ _ _ _ _ _ _ _ _ _ _ _ _ _ _ _ _ _ _ _ _ _ _ _ _ _ _ _ _ _ _ _ _ _ _ _ _ _ _ _ _ _ _ _ _ _ _ _ _ ?_
      intro D W' hD hPI hDd
      obtain ⟨⟨A, n, c, q1, q2, q3⟩, mv⟩ := hPI
      have hL3 : PL w P (some ⟨b, o, none⟩) A2 A3 A4 A5 n1 c1 n2 c2 n3 c3 n4 c4 n5 c5 g3 gO (k + 1) (D :: Ds) W' := by
        refine ⟨by omega, ⟨_, q1, by rw [List.length_set]; exact r2, fun j hj => ?_, fun j hj hjn => ?_⟩, hL2.low.trans ((mv.below (Nat.le_of_lt r1.lt) (Nat.le_refl _)).mono hgO), mv.blk hL2.bp (hL2.bp.apart r1 (by decide)), mv.blk hL2.b3 (hL2.b3.apart r1 (by decide)), ?_⟩
        · by_cases hjk : j = k
          · subst hjk
            refine ⟨A, n, c, List.getElem?_set_self (by rw [r2]; exact hlt), OwnI.more ?_ hL2.low.size⟩
            have e : possK P j = ((memM M).map fun x : Nat => (x : Int)).filter (pkB P j) := by
              unfold possK
              rw [if_pos hsv]
              unfold eligA memZ
              rw [Int.toNat_natCast, HM.out]
              rfl
            rw [e]
            exact q2
          · obtain ⟨A9, n9, c9, e9, o9⟩ := r3 j (by omega)
            refine ⟨A9, n9, c9, by rw [List.getElem?_set_ne (Ne.symm hjk)]; exact e9, OwnI.same o9 fun i hi => mv.block i (o9.lt i hi).2 fun e => ?_⟩
            obtain ⟨cs, hb9, _⟩ := own_type o9 hi
            rw [e] at hb9
            exact (r1.apart hb9 (by decide)) rfl
        · rw [List.getElem?_set_ne (by omega)]
          exact r4 j (by omega) hjn
        · refine ⟨List.nodup_cons.2 ⟨fun h => by have := hL2.opn.lt h; omega, hL2.opn.1⟩, fun E hE => ?_⟩
          rcases List.mem_cons.1 hE with rfl | hE
          · exact ⟨Nat.le_trans hL2.low.size hD, hDd⟩
          · refine ⟨(hL2.opn.2 E hE).1, (mv.block E (hL2.opn.lt hE) fun e => ?_).trans (hL2.opn.2 E hE).2⟩
            have h9 := (hL2.opn.2 E hE).2
            rw [e, show W2.heap[gO]? = some (.cells vs.toArray 30 (0, 0)) from r1] at h9
            cases h9
      have HL3 := Lib.hid hL3
      clear hL3 q1 q2 q3 mv hps r1 r2 r3 r4 hL2 kk2 ka hL1 kk hDd hL
      gi_wp2
      exact ⟨⟨k + 1, D :: Ds, _, _, _, _, _, _, _, _, _, _, _, _, _, _, _, _, _, _, _, _, _, _, _, _, _, _, _, _, _, _, _, _, _, _, _, _, _, _, _, _, _, _, _, _, _, _, _, _, _, _, _, _, _, _, _, _, _, _, _, _, _, _, _, HL3.out, rfl⟩, by simp [intOf]; omega⟩
    · obtain rfl : k = n1 := by omega
      have hlt' : ¬ (k : Int) < (k : Int) := by omega
      gi_wp2
      exact HN.out Ds wr _ _ _ _ _ _ _ _ _ _ _ _ _ _ _ _ _ _ _ _ _ _ _ _ _ _ _ _ _ _ _ _ _ _ _ _ _ _ _ _ _ _ _ _ _ _ _ _ _ _ _ _ _ _ _ _ _ _ _ _ _ _ _ _ _ _ hL
end Go.Proofs.YtfnhaoindehjdaaDoor
