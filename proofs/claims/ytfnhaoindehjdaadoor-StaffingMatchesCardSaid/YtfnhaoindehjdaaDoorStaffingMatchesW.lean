/- The walk of StaffingMatches. (gensm.py) -/
import Derived.Test.YtfnhaoindehjdaaDoorMade
import Derived.Test.YtfnhaoindehjdaaDoorSd
import Derived.Test.YtfnhaoindehjdaaDoorAwS
import Derived.Test.YtfnhaoindehjdaaDoorSc
import Derived.Test.YtfnhaoindehjdaaDoorRfA
import Derived.Test.YtfnhaoindehjdaaDoorPf
import Derived.Test.YtfnhaoindehjdaaDoorCheck
import Derived.Test.YtfnhaoindehjdaaDoorPl
import Derived.Test.YtfnhaoindehjdaaDoorPrM
import Derived.Test.YtfnhaoindehjdaaDoorRfH
import Derived.Test.YtfnhaoindehjdaaDoorPk
import Derived.Test.YtfnhaoindehjdaaDoorMtF
import Derived.Test.YtfnhaoindehjdaaDoorMtG
import Derived.Deep.CutBlock
import Derived.Deep.RegionLaw
namespace Go.Proofs.YtfnhaoindehjdaaDoor.staffingMatches
open Go.RowKit
set_option linter.unusedVariables false
set_option linter.unusedSimpArgs false

set_option maxHeartbeats 32000000 in
set_option maxRecDepth 100000 in
theorem walk (r : RwV) (R : Rw) (w : World) (h : RwAt w w.heap.size r R) (hT : Tab w) :
    Calls Tryd.prog 11 #[r.v R] w fun e w' => e = .returned (.bool true) ∧ Below w.heap.size w w' := by
  have hg0 : 0 < w.heap.size := World.block_lt_of_cell? w _ (hT 0 (by omega))
  have mk := fun W (hw : Below w.heap.size w W) => made_ap r R W (h.on hw)
  have mf := mkP_few R
  have hc := chkP_mkP R
  have sm := mkP_sm R
  have h4 := mkP_four R
  have hsl := mkP_sols R
  obtain ⟨P, hP⟩ : ∃ P, Hid (P = mkP R) := ⟨_, Lib.hid rfl⟩
  rw [← hP.out] at mf mk hc sm h4 hsl
  have h128 : Few128 P := by rw [hP.out]; exact few128_of (mkP_32 R)
  have okP := chkP_ok hc
  have hlog : ∀ M ∈ P.elig, M.log2 < 256 := fun M hM => by
    have h1 := h128 M hM
    by_cases h0 : M = 0
    · rw [h0]; decide
    · exact Nat.lt_trans ((Nat.log2_lt h0).2 (show M < 2 ^ 7 by omega)) (by omega)
  have hc2 := chkP_of (mat_ok okP sm.1)
  have sm2 : SmP (matP P) := sm
  have hgrP : grL P.elig = grP P := rfl
  have hsv := fun q W (hW : Below w.heap.size w W) (h1 : PrAt W W.heap.size q (matP P)) => solve_any q (matP P) 0 W h1 (hT.below hW hg0) (fun _ => sm2)
  have hck := fun q l Aq nq cq W (hW : Below w.heap.size w W) (h1 : PrAt W W.heap.size q (matP P)) h2 h3 h4 => check_any q (matP P) Aq nq cq l W h1 h2 h3 h4 (hT.below hW hg0)
  have hlen : (solveR (matP P) 0).2.1.length ≤ 1000000 := solveR_len hc2 sm.1 sm2.2 0
  obtain ⟨⟨A1, n1, c1⟩, ⟨A2, n2, c2⟩, ⟨A3, n3, c3⟩, ⟨A4, n4, c4⟩, ⟨A5, n5, c5⟩⟩ := r
  obtain ⟨st, hst⟩ : ∃ st, Hid (st = R.steps) := ⟨_, Lib.hid rfl⟩
  unfold RwV.v Sl.v at mk ⊢
  simp only [] at mk ⊢
  rw [← hst.out] at mk ⊢
  have SM := Lib.hid sm
  have HC := Lib.hid hc
  have H4 := Lib.hid h4
  have HSL := Lib.hid hsl
  have MF := Lib.hid mf
  clear h mf sm hc h4 hsl
  go_enter Tryd.func11, Tryd.ntmps11
  go_wp2_with fail
  have r1 := Blk.new w 25 #[.int .u8 (st : Int), .slice A1 n1 c1, .slice A2 n2 c2, .slice A3 n3 c3, .slice A4 n4 c4, .slice A5 n5 c5]
  have b1 := bAl (Below.refl w.heap.size w) (.cells #[.int .u8 (st : Int), .slice A1 n1 c1, .slice A2 n2 c2, .slice A3 n3 c3, .slice A4 n4 c4, .slice A5 n5 c5] 25)
  generalize (w.alloc (.cells #[.int .u8 (st : Int), .slice A1 n1 c1, .slice A2 n2 c2, .slice A3 n3 c3, .slice A4 n4 c4, .slice A5 n5 c5] 25)) = W0 at r1 b1 ⊢
  refine (awake_any W0 (hT.below b1 hg0)).mono ?_
  rintro e W1 ⟨rfl, ba⟩
  have r2 := r1.on ba
  have b2 := b1.trans (ba.mono b1.size)
  clear r1 b1 ba
  have x0 : W1.cell? ⟨w.heap.size, 0, none⟩ = some (.int .u8 (st : Int)) := (r2.cell 0).trans rfl
  have x1 : W1.cell? ⟨w.heap.size, 1, none⟩ = some (.slice A1 n1 c1) := (r2.cell 1).trans rfl
  have x2 : W1.cell? ⟨w.heap.size, 2, none⟩ = some (.slice A2 n2 c2) := (r2.cell 2).trans rfl
  have x3 : W1.cell? ⟨w.heap.size, 3, none⟩ = some (.slice A3 n3 c3) := (r2.cell 3).trans rfl
  have x4 : W1.cell? ⟨w.heap.size, 4, none⟩ = some (.slice A4 n4 c4) := (r2.cell 4).trans rfl
  have x5 : W1.cell? ⟨w.heap.size, 5, none⟩ = some (.slice A5 n5 c5) := (r2.cell 5).trans rfl
  go_wp2_with fail
  refine (mk W1 b2).mono ?_
  rintro e W2 ⟨⟨⟨E1, i1, j1⟩, ⟨E2, i2, j2⟩, ⟨E3, i3, j3⟩, ⟨E4, i4, j4⟩, ⟨E5, i5, j5⟩⟩, ⟨⟨B1, m1, d1⟩, ⟨B2, m2, d2⟩, ⟨B3, m3, d3⟩, ⟨B4, m4, d4⟩, ⟨B5, m5, d5⟩⟩, AL, nL, cL, rfl, ⟨xs, ms, hq⟩, hap, hpl, oL, hn6, bw2⟩
  have b3 := b2.trans (bw2.mono b2.size)
  have hz1 := b2.size
  have hzz := bw2.size
  simp only [PrV.v, Sl.v]
  clear x0 x1 x2 x3 x4 x5 r2 b2 mk
  have HPL := Lib.hid hpl
  clear hpl
  go_upto_region 4 with (fail)
  have k4 : Blk ((W2.alloc (.cells #[.slice E1 i1 j1, .slice E2 i2 j2, .slice E3 i3 j3, .slice E4 i4 j4, .slice E5 i5 j5] 32)).alloc (.cells #[.slice B1 m1 d1, .slice B2 m2 d2, .slice B3 m3 d3, .slice B4 m4 d4, .slice B5 m5 d5] 36)) W2.heap.size 32 #[.slice E1 i1 j1, .slice E2 i2 j2, .slice E3 i3 j3, .slice E4 i4 j4, .slice E5 i5 j5] := Blk.alloc (Blk.mk' rfl) _
  have bk : Below W2.heap.size W2 ((W2.alloc (.cells #[.slice E1 i1 j1, .slice E2 i2 j2, .slice E3 i3 j3, .slice E4 i4 j4, .slice E5 i5 j5] 32)).alloc (.cells #[.slice B1 m1 d1, .slice B2 m2 d2, .slice B3 m3 d3, .slice B4 m4 d4, .slice B5 m5 d5] 36)) := bAl (bAl (Below.refl _ _) _) _
  generalize ((W2.alloc (.cells #[.slice E1 i1 j1, .slice E2 i2 j2, .slice E3 i3 j3, .slice E4 i4 j4, .slice E5 i5 j5] 32)).alloc (.cells #[.slice B1 m1 d1, .slice B2 m2 d2, .slice B3 m3 d3, .slice B4 m4 d4, .slice B5 m5 d5] 36)) = W4 at k4 bk ⊢
  have b4 := b3.trans (bk.mono b3.size)
  have oq4 := hq.on bk
  have hQ4 := oq4.at
  have oL4 := oL.on bk
  have HLN := Lib.hid oL.len
  have hB4 := hq.at.below bk
  have hz2 := b3.size
  clear hq oL b3 bk bw2
  have x0 : W4.cell? ⟨W2.heap.size, 0, none⟩ = some (.slice E1 i1 j1) := (k4.cell 0).trans rfl
  have x1 : W4.cell? ⟨W2.heap.size, 1, none⟩ = some (.slice E2 i2 j2) := (k4.cell 1).trans rfl
  have x2 : W4.cell? ⟨W2.heap.size, 2, none⟩ = some (.slice E3 i3 j3) := (k4.cell 2).trans rfl
  have x3 : W4.cell? ⟨W2.heap.size, 3, none⟩ = some (.slice E4 i4 j4) := (k4.cell 3).trans rfl
  have x4 : W4.cell? ⟨W2.heap.size, 4, none⟩ = some (.slice E5 i5 j5) := (k4.cell 4).trans rfl
  have f1 := k4.frozen 1
  have f2 := k4.frozen 2
  have f3 := k4.frozen 3
  have hl5 : P.fix.length = i5 := hQ4.l5
  have hl1 : P.elig.length = i1 := hQ4.l1
  have h51 : P.fix.length = P.elig.length := MF.out.f1
  have h15 : i5 = i1 := by omega
  have h1p : 1 ≤ i1 := by rw [← hl1]; exact MF.out.e0
  have h1s : i1 ≤ 5 := by rw [← hl1]; exact SM.out.1
  have HL5 := Lib.hid hl5
  have HL1 := Lib.hid hl1
  have hcj : i5 ≤ j5 := hQ4.c5
  have hzE := k4.lt
  have H4 : HoldP W4 W1.heap.size W2.heap.size ⟨⟨E1, i1, j1⟩, ⟨E2, i2, j2⟩, ⟨E3, i3, j3⟩, ⟨E4, i4, j4⟩, ⟨E5, i5, j5⟩⟩ P xs ms := ⟨oq4.o1, oq4.o2, oq4.o3, oq4.o4, oq4.o5, oq4.x1, oq4.s1, oq4.x4, oq4.s4, k4, oq4.b1, oq4.b2, oq4.b3, oq4.b4, oq4.b5⟩
  have H5 := H4.nil3
  have b5 : Below w.heap.size w (((W4.setCell ⟨W2.heap.size, 2, none⟩ (.slice none 0 0)).setCell ⟨W2.heap.size, 3, none⟩ (.slice none 0 0)).setCell ⟨W2.heap.size, 1, none⟩ (.slice none 0 0)) := ((b4.setCell (p := ⟨W2.heap.size, 2, none⟩) hz2 _).setCell (p := ⟨W2.heap.size, 3, none⟩) hz2 _).setCell (p := ⟨W2.heap.size, 1, none⟩) hz2 _
  obtain ⟨g6, cs6, e6, hg6, _⟩ := own_blk (show OwnI W4 W1.heap.size (.slice E5 i5 j5) i5 P.fix from H4.o5) (by omega)
  subst e6
  have hmat := fun W (hW : Below w.heap.size w W) (h1 : SetsAt W W.heap.size E1 P.elig) => (least_any E1 i1 j1 P.elig W h1 HL1.out (by omega) hlog (hT.below hW hg0)).mono fun e w' h => mat_two okP SM.out.1 h128 (by rw [HL1.out]; rw [hgrP] at h; exact h)
  rw [HL1.out] at hmat
  clear hl5 hl1 h51 hB4 oq4 hQ4
  go_upto_block 0 with (fail)
  obtain ⟨g, hg⟩ : ∃ g, g = W2.heap.size := ⟨_, rfl⟩
  obtain ⟨B, hB⟩ : ∃ B, B = W1.heap.size := ⟨_, rfl⟩
  rw [← hg] at H5 b5 k4 hzE ⊢
  rw [← hB] at H5 hg6
  have hwB : w.heap.size ≤ B := by omega
  have hwg : w.heap.size ≤ g := by omega
  have hBg : B ≤ g := by omega
  generalize (((W4.setCell ⟨g, 2, none⟩ (.slice none 0 0)).setCell ⟨g, 3, none⟩ (.slice none 0 0)).setCell ⟨g, 1, none⟩ (.slice none 0 0)) = W5 at H5 b5 ⊢
  clear hg hB hzE hz1 hz2 hzz f1 f2 f3 k4 H4 x0 x1 x2 x3 x4 b4
  obtain ⟨i0, hi0, hz0, hzs, hzb⟩ := info_parts pair_info
  have h15' : (i5 : Int) = (i1 : Int) := by omega
  have HE := Lib.hid h15
  have h1s' : (i1 : Int) ≤ 5 := by omega
  have M0 : MtH w W5 B g g6 E1 i1 j1 i5 j5 none 0 0 P.elig [] P.fix xs := ⟨H5, b5⟩
  clear H5 b5 h15 h15'
  go_cut [7, 8, 32] from 33 to 53 (fun v7 v8 v32 wx => ∃ (n2 c2 : Nat) (A2 : Option Addr), MtH w wx B g g6 E1 i1 j1 i5 j5 A2 n2 c2 P.elig (dpairs i1) (List.replicate i1 0) xs)
  case first =>
    go_wp2_with fail
    go_loopw [32] (fun v32 wr => ∃ (a n2 c2 : Nat) (A2 : Option Addr), v32 = .int .i64 (a : Int) ∧ a ≤ i1 ∧ MtH w wr B g g6 E1 i1 j1 i5 j5 A2 n2 c2 P.elig (dpairs a) (List.replicate a 0 ++ P.fix.drop a) xs) (fun v32 _ => i1 - (intOf v32).toNat)
    case atStart => exact ⟨0, 0, 0, none, rfl, Nat.zero_le _, M0⟩
    case round =>
      clear M0
      obtain ⟨a, n2, c2, A2, rfl, ha, M⟩ := hrel
      by_cases hlt : a < i1
      · have hlt' : (a : Int) < (i1 : Int) := by omega
        have hlt5 : (a : Int) < (i5 : Int) := by have := HE.out; omega
        have ha5 : a < i5 := by have := HE.out; omega
        obtain ⟨g7, cs7, e7, _, kb7⟩ := own_blk (show OwnI wr B (.slice (some ⟨g6, 0, none⟩) i5 j5) i5 _ from M.h.o5) (by omega)
        injection e7 with e7
        injection e7 with e7 _
        subst e7
        obtain ⟨v9, y9⟩ : ∃ y, wr.cell? ⟨g6, a, none⟩ = some y := by
          obtain ⟨b, o, z', e, hb2, Hz, hc⟩ := Sees.int (k := a) (OwnI.sees (show OwnI wr B (.slice (some ⟨g6, 0, none⟩) i5 j5) i5 _ from M.h.o5)) (by rw [List.length_append, List.length_replicate, List.length_drop, HL5.out]; omega)
          injection e with e
          injection e with e1 e2
          subst e1 e2
          rw [Nat.zero_add] at hc
          exact ⟨_, hc⟩
        have f9 := kb7.frozen a
        have y4 : wr.cell? ⟨g, 4, none⟩ = some (.slice (some ⟨g6, 0, none⟩) i5 j5) := (M.h.blk.cell 4).trans rfl
        go_upto_region 10 with fail
        have M2 : MtH w (wr.setCell ⟨g6, a, none⟩ (.int .i64 0)) B g g6 E1 i1 j1 i5 j5 A2 n2 c2 P.elig (dpairs a) (List.replicate (a + 1) 0 ++ P.fix.drop (a + 1)) xs := ⟨by
          have h := M.h.fix kb7 ha5 0
          simp only [] at h
          rw [fix_step (by rw [HL5.out]; exact ha5)] at h
          exact h, M.bel.setCell (p := ⟨g6, a, none⟩) (Nat.le_trans hwB hg6) _⟩
        generalize (wr.setCell ⟨g6, a, none⟩ (.int .i64 0)) = W7 at M2 ⊢
        clear M kb7 y9 f9 y4
        go_wp2_with fail
        go_loopw [40] (fun v40 wq => ∃ (b n2 c2 : Nat) (A2 : Option Addr), v40 = .int .i64 (b : Int) ∧ b ≤ a ∧ MtH w wq B g g6 E1 i1 j1 i5 j5 A2 n2 c2 P.elig (dpairs a ++ (List.range b).map fun (x : Nat) => ((x : Int), (a : Int))) (List.replicate (a + 1) 0 ++ P.fix.drop (a + 1)) xs) (fun v40 _ => a - (intOf v40).toNat)
        case atStart => exact ⟨0, n2, c2, A2, rfl, Nat.zero_le _, by simpa using M2⟩
        case round =>
          clear M2
          obtain ⟨b, n2, c2, A2, rfl, hb, M⟩ := hrel
          by_cases hlb : b < a
          · have hlb' : (b : Int) < (a : Int) := by omega
            have hib : n2 ≤ 25 := by
              have h1 := own_len2 (f := pv) (fun _ => rfl) M.h.o2
              simp only [List.length_append, List.length_map, List.length_range] at h1
              have h2 := dpairs_few (n := a) (by omega)
              omega
            have hBs : B ≤ wr.heap.size := by have := M.h.blk.lt; omega
            have oA := World.ownsRow.alloc M.h.o2 (.cells #[.int .i64 (b : Int), .int .i64 (a : Int)] 66)
            have kA := M.h.blk.alloc (.cells #[.int .i64 (b : Int), .int .i64 (a : Int)] 66)
            have x1 : wr.cell? ⟨g, 1, none⟩ = some (.slice A2 n2 c2) := (M.h.blk.cell 1).trans rfl
            have f1 := M.h.blk.frozen 1
            go_wp2_with (at_builtin; refine wpList_append_sees _ rfl (.tmp 44) (.tmp 48) _ rfl B _ i0 _ 2 16 Tryd.underlying28 hi0 hz0 hzs hzb rfl (by omega) _ n2 _ rfl oA _ (some ⟨wr.heap.size, 0, none⟩) 1 1 [.int .i64 (b : Int), .int .i64 (a : Int)] rfl (by simp) (Sees.laid wr #[.int .i64 (b : Int), .int .i64 (a : Int)] 66 (0, 0) _ rfl _ rfl) (by simp [Value.oneCell']) (by unfold maxLen; omega) (by omega) (by simp; omega) (n2 + 1) (by omega) _ rfl ?_; intro A9 c9 w9 o9 g9 _; have hb9 := kA.grown g9 (own_off oA kA (by decide)); have y9 : w9.cell? ⟨g, 1, none⟩ = some (.slice A2 n2 c2) := (hb9.cell 1).trans rfl; have f9 := hb9.frozen 1)
            have H9 := HoldP.add2 (M.h.on (bAl (Below.refl _ _) _)) (apN _ _ _ _) o9 g9 (by omega)
            have b9 : Below B wr w9 := below_app ((Below.refl B wr).alloc hBs _) (by simp; omega) oA g9
            have M9 : MtH w (w9.setCell ⟨g, 1, none⟩ (.slice A9 (n2 + 1) c9)) B g g6 E1 i1 j1 i5 j5 A9 (n2 + 1) c9 P.elig (dpairs a ++ (List.range (b + 1)).map fun (x : Nat) => ((x : Int), (a : Int))) (List.replicate (a + 1) 0 ++ P.fix.drop (a + 1)) xs := ⟨by
              rw [List.range_succ, List.map_append, ← List.append_assoc]
              exact H9, (M.bel.trans (b9.mono hwB)).setCell (p := ⟨g, 1, none⟩) hwg _⟩
            generalize (w9.setCell ⟨g, 1, none⟩ (.slice A9 (n2 + 1) c9)) = w8 at M9 ⊢
            clear H9 b9 hb9 y9 f9 o9 g9 kA oA x1 f1
            go_roundw
            case rel => exact ⟨b + 1, n2 + 1, c9, A9, by go_num, by omega, M9⟩
            case measure => simp [intOf]; omega
          · obtain rfl : b = a := by omega
            have hlb' : ¬ (b : Int) < (b : Int) := by omega
            go_wp2_with fail
            rw [← dpairs_succ] at M
            go_roundw
            case rel => exact ⟨b + 1, n2, c2, A2, by go_num, by omega, M⟩
            case measure => simp [intOf]; omega
      · obtain rfl : a = i1 := by omega
        have hlt' : ¬ (a : Int) < (a : Int) := by omega
        rw [fix_end (by rw [HL5.out]; exact HE.out)] at M
        go_wp2_with fail
        go_meet
        exact ⟨n2, c2, A2, M⟩
  case rest =>
    obtain ⟨n2, c2, A2, M⟩ := hcut
    have k5 := M.h.blk
    have b5 := M.bel
    have hQ5 : PrAt wc wc.heap.size ⟨⟨E1, i1, j1⟩, ⟨A2, n2, c2⟩, ⟨none, 0, 0⟩, ⟨none, 0, 0⟩, ⟨some ⟨g6, 0, none⟩, i5, j5⟩⟩ (matP P) := by
      have h := M.h.at
      unfold matP
      rw [HL1.out]
      exact h
    clear M M0
    have hsv := hsv ⟨⟨E1, i1, j1⟩, ⟨A2, n2, c2⟩, ⟨none, 0, 0⟩, ⟨none, 0, 0⟩, ⟨some ⟨g6, 0, none⟩, i5, j5⟩⟩ wc b5 hQ5
    have hck := hck ⟨⟨E1, i1, j1⟩, ⟨A2, n2, c2⟩, ⟨none, 0, 0⟩, ⟨none, 0, 0⟩, ⟨some ⟨g6, 0, none⟩, i5, j5⟩⟩
    unfold SolvePost at hsv
    unfold PrV.v Sl.v at hsv hck
    simp only [] at hsv hck
    obtain ⟨sr, hsr⟩ : ∃ sr, Hid (sr = solveR (matP P) 0) := ⟨_, Lib.hid rfl⟩
    rw [← hsr.out] at hsv hlen
    have x0 : wc.cell? ⟨g, 0, none⟩ = some (.slice E1 i1 j1) := (k5.cell 0).trans rfl
    have x1 : wc.cell? ⟨g, 1, none⟩ = some (.slice A2 n2 c2) := (k5.cell 1).trans rfl
    have x2 : wc.cell? ⟨g, 2, none⟩ = some (.slice none 0 0) := (k5.cell 2).trans rfl
    have x3 : wc.cell? ⟨g, 3, none⟩ = some (.slice none 0 0) := (k5.cell 3).trans rfl
    have x4 : wc.cell? ⟨g, 4, none⟩ = some (.slice (some ⟨g6, 0, none⟩) i5 j5) := (k5.cell 4).trans rfl
    go_wp2_with fail
    refine hsv.mono ?_
    rintro e W5 ⟨Al, nl, cl, An, nn, cn, rfl, ol, ⟨ys, hys, oN⟩, b6⟩
    have hnl2 := ol.len
    go_upto_region 17 with (fail)
    have bA := bAl b6 (.cells #[.slice An nn cn] 46)
    have kr := Blk.new W5 46 #[.slice An nn cn]
    have ol6 := ol.alloc (.cells #[.slice An nn cn] 46)
    have oN6 := (oN.on (bAl (Below.refl W5.heap.size W5) (.cells #[.slice An nn cn] 46))).atP
    rw [hys] at oN6
    have hnn : sr.2.1.length = nn := by rw [← hys, List.length_map]; exact oN.len
    generalize (W5.alloc (.cells #[.slice An nn cn] 46)) = W6 at bA kr ol6 oN6 ⊢
    have b7 := b5.trans (bA.mono b5.size)
    have hQ6 := hQ5.on bA
    have k6 := k5.on bA
    have hmt := hmat W6 b7 (by have h := hQ6.e1; exact h)
    clear hsv ol oN b6 k5 hQ5 bA b5 x0 x1 x2 x3 x4 hys
    have x0 : W6.cell? ⟨g, 0, none⟩ = some (.slice E1 i1 j1) := (k6.cell 0).trans rfl
    go_wp2_with fail
    refine hmt.mono ?_
    rintro e W7 (⟨l, ls, A9, c9, h1, h2, h3, rfl, h4, b8⟩ | ⟨nds, sts, h2, h3, h4, rfl, b8⟩)
    · rw [← hsr.out] at h2
      subst h2
      simp only [Option.getD_some, Option.isSome_some] at *
      have hQ7 := hQ6.on b8
      have k7 := k6.on b8
      have kr7 := kr.on b8
      have ol7 := ol6.on b8
      have oN7 := (NodesAt.below oN6 b8).more b8.size
      have b9 := b7.trans (b8.mono b7.size)
      clear hmt hQ6 k6 kr oN6 b7 x0
      have heq := eqT (W := W7) (c := cl) (c2 := c9) (l := l) ol7.sees h4 hnl2 h3 (by omega)
      have HR := Lib.hid h1
      clear h1
      go_wp2_with fail
      refine heq.mono ?_
      rintro e W8 ⟨rfl, q, rfl⟩
      have bq : Below W7.heap.size W7 (W7.drewN q) := below_drewN (Below.refl _ _) q
      generalize W7.drewN q = W8 at bq ⊢
      have b10 := b9.trans (bq.mono b9.size)
      have hQ8 := hQ7.on bq
      have k8 := k7.on bq
      have kr8 := kr7.on bq
      have oN8 := (NodesAt.below oN7 bq).more bq.size
      have hc8 := hck [] An nn cn W8 b10 hQ8 oN8 hnn (by omega)
      obtain ⟨z1, z2, hz⟩ : ∃ (z1 : Nat) (z2 : Int), chkR (matP P) [] = (z1, z2) := ⟨_, _, rfl⟩
      rw [hz] at hc8
      clear heq hQ7 k7 kr7 oN7 b9 ol7 h4 bq
      have yr := (kr8.cell 0).trans rfl
      have x0 : W8.cell? ⟨g, 0, none⟩ = some (.slice E1 i1 j1) := (k8.cell 0).trans rfl
      have x1 : W8.cell? ⟨g, 1, none⟩ = some (.slice A2 n2 c2) := (k8.cell 1).trans rfl
      have x2 : W8.cell? ⟨g, 2, none⟩ = some (.slice none 0 0) := (k8.cell 2).trans rfl
      have x3 : W8.cell? ⟨g, 3, none⟩ = some (.slice none 0 0) := (k8.cell 3).trans rfl
      have x4 : W8.cell? ⟨g, 4, none⟩ = some (.slice (some ⟨g6, 0, none⟩) i5 j5) := (k8.cell 4).trans rfl
      go_wp2_with fail
      refine hc8.mono ?_
      rintro e W9 ⟨rfl, b11⟩
      have b12 := b10.trans (b11.mono b10.size)
      clear x0 x1 x2 x3 x4 hc8 k8 kr8 yr
      go_wp2_with fail
      go_ret
      exact ⟨rfl, b12⟩
    · rw [← hsr.out] at h2
      subst h2
      simp only [Option.getD_none, Option.isSome_none] at *
      have hQ7 := hQ6.on b8
      have k7 := k6.on b8
      have kr7 := kr.on b8
      have oN7 := (NodesAt.below oN6 b8).more b8.size
      have b9 := b7.trans (b8.mono b7.size)
      have hnb : nn ≤ 1000000 := by omega
      have hc8 := hck nds An nn cn W7 b9 hQ7 oN7 hnn hnb
      rw [h4] at hc8
      clear hmt hQ6 k6 kr oN6 b7 x0
      have yr := (kr7.cell 0).trans rfl
      have x0 : W7.cell? ⟨g, 0, none⟩ = some (.slice E1 i1 j1) := (k7.cell 0).trans rfl
      have x1 : W7.cell? ⟨g, 1, none⟩ = some (.slice A2 n2 c2) := (k7.cell 1).trans rfl
      have x2 : W7.cell? ⟨g, 2, none⟩ = some (.slice none 0 0) := (k7.cell 2).trans rfl
      have x3 : W7.cell? ⟨g, 3, none⟩ = some (.slice none 0 0) := (k7.cell 3).trans rfl
      have x4 : W7.cell? ⟨g, 4, none⟩ = some (.slice (some ⟨g6, 0, none⟩) i5 j5) := (k7.cell 4).trans rfl
      go_wp2_with fail
      refine hc8.mono ?_
      rintro e W9 ⟨rfl, b11⟩
      have b12 := b9.trans (b11.mono b9.size)
      clear x0 x1 x2 x3 x4 hc8 k7 kr7 yr
      go_wp2_with fail
      go_ret
      exact ⟨rfl, b12⟩
end Go.Proofs.YtfnhaoindehjdaaDoor.staffingMatches
