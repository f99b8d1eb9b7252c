/- Make: a problem as the program has it. -/
import Derived.Test.YtcnofhlgiffkjaaGreatDoorPl
import Derived.Test.YtcnofhlgiffkjaaGreatDoorPt
import Derived.Deep.RegionWith
import Derived.Deep.RegionHeld3
import Derived.Deep.RegionLaw
namespace Go.Proofs.YtcnofhlgiffkjaaGreatDoor
open Go.RowKit
set_option linter.unusedVariables false
set_option linter.unusedSimpArgs false

theorem mkB_close {W1 u4 : World} {B2 B3 B5 g n2' c2' n3' c3' n5' c5' : Nat} {A2' A3' A5' : Option Addr} {P : Pr} (q4 : Below W1.heap.size W1 u4)
    (o2 : u4.ownsRow B2 77 2 (.slice A2' n2' c2') n2' (P.dif.flatMap pv)) (o3 : u4.ownsRow B3 77 2 (.slice A3' n3' c3') n3' (P.sam.flatMap pv)) (o5 : OwnI u4 B5 (.slice A5' n5' c5') n5' P.fix)
    (hB2 : W1.heap.size ≤ B2) (hB3 : W1.heap.size ≤ B3) (hB5 : W1.heap.size ≤ B5) (hg : W1.heap.size ≤ g) (m2 : n2' ≤ 1000) (m3 : n3' ≤ 1000) (m5 : n5' ≤ 1000)
    (hb : Blk u4 g 37 #[.slice none 0 0, .slice none 0 0, .slice none 0 0, .slice none 0 0, .slice none 0 0]) :
    ∃ (g' : Nat) (q : PrV), (Value.pointer (some ⟨g, 0, none⟩) = .pointer (some ⟨g', 0, none⟩)) ∧ W1.heap.size ≤ g' ∧ q.s1 = ⟨none, 0, 0⟩ ∧ q.s4 = ⟨none, 0, 0⟩ ∧
      HoldP (((((u4.setCell ⟨g, 0, none⟩ (.slice none 0 0)).setCell ⟨g, 1, none⟩ (.slice A2' n2' c2')).setCell ⟨g, 2, none⟩ (.slice A3' n3' c3')).setCell ⟨g, 3, none⟩ (.slice none 0 0)).setCell ⟨g, 4, none⟩ (.slice A5' n5' c5')) W1.heap.size g' q ⟨[], P.dif, P.sam, [], P.fix⟩ [] [] ∧
      Below W1.heap.size W1 (((((u4.setCell ⟨g, 0, none⟩ (.slice none 0 0)).setCell ⟨g, 1, none⟩ (.slice A2' n2' c2')).setCell ⟨g, 2, none⟩ (.slice A3' n3' c3')).setCell ⟨g, 3, none⟩ (.slice none 0 0)).setCell ⟨g, 4, none⟩ (.slice A5' n5' c5')) := by
  refine ⟨g, ⟨⟨none, 0, 0⟩, ⟨A2', n2', c2'⟩, ⟨A3', n3', c3'⟩, ⟨none, 0, 0⟩, ⟨A5', n5', c5'⟩⟩, rfl, hg, rfl, rfl, ⟨World.ownsRow_nil _ _ _ _, own5 (own_less o2 hB2) hb (by decide), own5 (own_less o3 hB3) hb (by decide), World.ownsRow_nil _ _ _ _, own5 (own_less o5 hB5) hb (by decide), rfl, fun i M hi => by simp at hi, rfl, fun i x hi => by simp at hi, blk5 hb, by simp, m2, m3, by simp, m5⟩, bset5 q4 hg⟩
set_option maxHeartbeats 16000000 in
set_option maxRecDepth 100000 in
/-- Make, the program's. -/
theorem mkp_own (p : PrV) (P : Pr) (w : World) (h : RPrAt w w.heap.size p P) :
    Calls Tryz.prog 6 #[p.v] w fun e w' => ∃ q, e = .returned (PrV.v q) ∧ (∃ xs ms, OwnQ w' w.heap.size q P xs ms) ∧ Below w.heap.size w w' := by
  obtain ⟨⟨A1, n1, c1⟩, ⟨A2, n2, c2⟩, ⟨A3, n3, c3⟩, ⟨A4, n4, c4⟩, ⟨A5, n5, c5⟩⟩ := p
  obtain ⟨l1, l2, l3, l4, l5, e1, e2, e3, e4, e5, b1, b2, b3, b4, b5, cc5, w1, w4⟩ := h
  simp only at l1 l2 l3 l4 l5 e1 e2 e3 e4 e5 b1 b2 b3 b4 b5 cc5
  unfold PrV.v Sl.v
  simp only []
  have d1 : Below w.heap.size w (w.alloc (.cells #[.slice A1 n1 c1, .slice A2 n2 c2, .slice A3 n3 c3, .slice A4 n4 c4, .slice A5 n5 c5] 32)) := (Below.refl _ _).alloc (Nat.le_refl _) _
  have bR := Blk.new w 32 #[.slice A1 n1 c1, .slice A2 n2 c2, .slice A3 n3 c3, .slice A4 n4 c4, .slice A5 n5 c5]
  have box : ∀ W, Blk W w.heap.size 32 #[.slice A1 n1 c1, .slice A2 n2 c2, .slice A3 n3 c3, .slice A4 n4 c4, .slice A5 n5 c5] → W.cell? ⟨w.heap.size, 0, none⟩ = some (.slice A1 n1 c1) ∧ W.cell? ⟨w.heap.size, 1, none⟩ = some (.slice A2 n2 c2) ∧ W.cell? ⟨w.heap.size, 2, none⟩ = some (.slice A3 n3 c3) ∧ W.cell? ⟨w.heap.size, 3, none⟩ = some (.slice A4 n4 c4) ∧ W.cell? ⟨w.heap.size, 4, none⟩ = some (.slice A5 n5 c5) := fun W hb => ⟨(hb.cell 0).trans rfl, (hb.cell 1).trans rfl, (hb.cell 2).trans rfl, (hb.cell 3).trans rfl, (hb.cell 4).trans rfl⟩
  go_enter Tryz.func6, Tryz.ntmps6
  go_wp2_with fail
  have bC := Blk.new (w.alloc (.cells #[.slice A1 n1 c1, .slice A2 n2 c2, .slice A3 n3 c3, .slice A4 n4 c4, .slice A5 n5 c5] 32)) 37 #[.slice none 0 0, .slice none 0 0, .slice none 0 0, .slice none 0 0, .slice none 0 0]
  have bR1 := bR.alloc (.cells #[.slice none 0 0, .slice none 0 0, .slice none 0 0, .slice none 0 0, .slice none 0 0] 37)
  have b11 := bAl d1 (.cells #[.slice none 0 0, .slice none 0 0, .slice none 0 0, .slice none 0 0, .slice none 0 0] 37)
  have sz1 : ((w.alloc (.cells #[.slice A1 n1 c1, .slice A2 n2 c2, .slice A3 n3 c3, .slice A4 n4 c4, .slice A5 n5 c5] 32)).alloc (.cells #[.slice none 0 0, .slice none 0 0, .slice none 0 0, .slice none 0 0, .slice none 0 0] 37)).heap.size = w.heap.size + 2 := by simp
  rw [World.size_alloc] at bC
  clear d1 bR
  generalize ((w.alloc (.cells #[.slice A1 n1 c1, .slice A2 n2 c2, .slice A3 n3 c3, .slice A4 n4 c4, .slice A5 n5 c5] 32)).alloc (.cells #[.slice none 0 0, .slice none 0 0, .slice none 0 0, .slice none 0 0, .slice none 0 0] 37)) = W1 at b11 bC bR1 sz1 ⊢
  have qq : Below W1.heap.size W1 W1.drew := (Below.refl _ _).drew
  have qa : ∀ X, Below W1.heap.size W1 (W1.alloc X).drew := fun X => ((Below.refl W1.heap.size W1).alloc (Nat.le_refl _) X).drew
  have sz2 : w.heap.size + 2 ≤ W1.heap.size := by omega
  clear sz1
  have sB : ∀ W, Below W1.heap.size W1 W → W.cell? ⟨w.heap.size, 1, none⟩ = some (.slice A2 n2 c2) ∧ W.cell? ⟨w.heap.size, 2, none⟩ = some (.slice A3 n3 c3) ∧ W.cell? ⟨w.heap.size, 4, none⟩ = some (.slice A5 n5 c5) ∧ Below W1.heap.size W1 W := fun W hW => ⟨(box W (bR1.on hW)).2.1, (box W (bR1.on hW)).2.2.1, (box W (bR1.on hW)).2.2.2.2, hW⟩
  have hs2 : ∀ W, Below W1.heap.size W1 W → PairsAt W W.heap.size A2 P.dif := fun W hW => ((e2.below b11).more b11.size |>.below hW).more hW.size
  have hs3 : ∀ W, Below W1.heap.size W1 W → PairsAt W W.heap.size A3 P.sam := fun W hW => ((e3.below b11).more b11.size |>.below hW).more hW.size
  have hs5 : ∀ W, Below W1.heap.size W1 W → Sees W W.heap.size A5 (P.fix.map iv) := fun W hW => (e5.on b11).on hW
  go_cut [3] from 3 to 17 (fun v3 wx => ∃ (g : Nat) (q : PrV), v3 = .pointer (some ⟨g, 0, none⟩) ∧ W1.heap.size ≤ g ∧ q.s1 = ⟨none, 0, 0⟩ ∧ q.s4 = ⟨none, 0, 0⟩ ∧ HoldP wx W1.heap.size g q ⟨[], P.dif, P.sam, [], P.fix⟩ [] [] ∧ Below W1.heap.size W1 wx)
  case first =>
    go_region_held3 (fun w' => w'.cell? ⟨w.heap.size, 1, none⟩ = some (.slice A2 n2 c2) ∧ w'.cell? ⟨w.heap.size, 2, none⟩ = some (.slice A3 n3 c3) ∧ w'.cell? ⟨w.heap.size, 4, none⟩ = some (.slice A5 n5 c5) ∧ Below W1.heap.size W1 w')
      ((refine sB _ ?_; first | with_reducible exact qq | with_reducible exact qa _ | with_reducible exact qq.alloc qq.size _ | with_reducible exact q2 | with_reducible exact q2.alloc q2.size _ | with_reducible exact q3 | with_reducible exact q3.alloc q3.size _ | with_reducible exact q4 | with_reducible exact q4.alloc q4.size _ | with_reducible exact bset5 q4 q3.size | with_reducible exact bset5 q4 q2.size | with_reducible exact bset5 q4 (Nat.le_refl _) | with_reducible exact bset5 q4 qq.size | with_reducible exact bset5 (q4.alloc q4.size _) q4.size))
      (first
        | (go_at_call 23; have mm := q3; refine (cloneI_any A5 n5 c5 P.fix _ (by refine hs5 _ ?_; first | with_reducible exact q3 | with_reducible exact q3.alloc q3.size _) l5 (by omega)).mono ?_; rintro e u4 ⟨A5', c5', rfl, o5, bu4⟩; have q4 : Below W1.heap.size W1 u4 := (by first | with_reducible exact q3.trans (bu4.mono q3.size) | with_reducible exact (q3.alloc q3.size _).trans (bu4.mono (q3.alloc q3.size _).size)); (try first | (have B6 : Blk u4 W1.heap.size 37 #[.slice none 0 0, .slice none 0 0, .slice none 0 0, .slice none 0 0, .slice none 0 0] := B5a.on bu4) | (have B6 : Blk u4 u2.heap.size 37 #[.slice none 0 0, .slice none 0 0, .slice none 0 0, .slice none 0 0, .slice none 0 0] := B5b.on bu4) | (have B6 : Blk u4 u3.heap.size 37 #[.slice none 0 0, .slice none 0 0, .slice none 0 0, .slice none 0 0, .slice none 0 0] := (Blk.new u3 37 #[.slice none 0 0, .slice none 0 0, .slice none 0 0, .slice none 0 0, .slice none 0 0]).on bu4)); (try have y0 := (B6.cell 0).trans rfl); (try have y1 := (B6.cell 1).trans rfl); (try have y2 := (B6.cell 2).trans rfl); (try have y3 := (B6.cell 3).trans rfl); (try have y4 := (B6.cell 4).trans rfl); (try have f0 := B6.frozen 0); (try have f1 := B6.frozen 1); (try have f2 := B6.frozen 2); (try have f3 := B6.frozen 3); (try have f4 := B6.frozen 4))
        | (go_at_call 22; have mm := q2; refine (cloneP_any A3 n3 c3 P.sam _ (by refine hs3 _ ?_; first | with_reducible exact q2 | with_reducible exact q2.alloc q2.size _) l3 (by omega)).mono ?_; rintro e u3 ⟨A3', c3', rfl, o3, bu3⟩; have q3 : Below W1.heap.size W1 u3 := (by first | with_reducible exact q2.trans (bu3.mono q2.size) | with_reducible exact (q2.alloc q2.size _).trans (bu3.mono (q2.alloc q2.size _).size)); (try first | (have B5a : Blk u3 W1.heap.size 37 #[.slice none 0 0, .slice none 0 0, .slice none 0 0, .slice none 0 0, .slice none 0 0] := B4a.on bu3) | (have B5b : Blk u3 u2.heap.size 37 #[.slice none 0 0, .slice none 0 0, .slice none 0 0, .slice none 0 0, .slice none 0 0] := (Blk.new u2 37 #[.slice none 0 0, .slice none 0 0, .slice none 0 0, .slice none 0 0, .slice none 0 0]).on bu3)))
        | (go_at_call 22; refine (cloneP_any A2 n2 c2 P.dif _ (by refine hs2 _ ?_; first | with_reducible exact qq | with_reducible exact qa _ | with_reducible exact qq.alloc qq.size _) l2 (by omega)).mono ?_; rintro e u2 ⟨A2', c2', rfl, o2, bu2⟩; have q2 : Below W1.heap.size W1 u2 := (by first | with_reducible exact qq.trans (bu2.mono qq.size) | with_reducible exact (qa _).trans (bu2.mono (qa _).size) | with_reducible exact (qq.alloc qq.size _).trans (bu2.mono (qq.alloc qq.size _).size)); (try have B4a : Blk u2 W1.heap.size 37 #[.slice none 0 0, .slice none 0 0, .slice none 0 0, .slice none 0 0, .slice none 0 0] := (Blk.new W1.drew 37 #[.slice none 0 0, .slice none 0 0, .slice none 0 0, .slice none 0 0, .slice none 0 0]).on bu2)))
    all_goals (go_wp2_with fail; go_meet)
    · have o2' := own_on (own_on o2 bu3) bu4
      have o3' := own_on o3 bu4
      exact ⟨u4.heap.size, ⟨⟨none, 0, 0⟩, ⟨A2', n2, c2'⟩, ⟨A3', n3, c3'⟩, ⟨none, 0, 0⟩, ⟨A5', n5, c5'⟩⟩, rfl, q4.size, rfl, rfl, ⟨World.ownsRow_nil _ _ _ _, (own_less o2' (by simp)).alloc _, (own_less o3' q2.size).alloc _, World.ownsRow_nil _ _ _ _, World.ownsRow.alloc (own_less o5 q3.size) _, rfl, fun i M hi => by simp at hi, rfl, fun i x hi => by simp at hi, Blk.new u4 _ _, by simp, b2, b3, by simp, b5⟩, q4.alloc q4.size _⟩
    · have b34 : Below u3.heap.size u3 u4 := bJoin (bAl (Below.refl _ _) _) bu4
      exact mkB_close q4 (own_on (own_on o2 bu3) b34) (own_on o3 b34) o5 (by simp) q2.size (by simpa using Nat.le_succ_of_le q3.size) q3.size b2 b3 b5 B6
    · have b23 : Below u2.heap.size u2 u3 := bJoin (bAl (Below.refl _ _) _) bu3
      exact mkB_close q4 (own_on (own_on o2 b23) bu4) (own_on o3 bu4) o5 (by simp) (by simpa using Nat.le_succ_of_le q2.size) q3.size q2.size b2 b3 b5 B6
    · exact mkB_close q4 (own_on (own_on o2 bu3) bu4) (own_on o3 bu4) o5 (by simp) q2.size q3.size (Nat.le_refl _) b2 b3 b5 B6
  case rest =>
    obtain ⟨g, q, rfl, hg, hq1, hq4, H0, bw⟩ := hcut
    have hgl := H0.blk.lt
    have hn1 := Lib.hid l1
    have hn4 := Lib.hid l4
    have r0 := (box _ (bR1.on bw)).1
    have hp1 : P.elig.length = n1 := l1
    clear e2 e3 e5 hs2 hs3 hs5 sB qq qa l1 l4
    go_wp2_with fail
    go_loopw [5, 21] (fun v5 v21 wr => ∃ (i : Nat) (q : PrV) (xs : List Value), v21 = .int .i64 i ∧ i ≤ n1 ∧ q.s1.n = i ∧ q.s4 = ⟨none, 0, 0⟩ ∧ HoldP wr W1.heap.size g q ⟨P.elig.take i, P.dif, P.sam, [], P.fix⟩ xs [] ∧ Below W1.heap.size W1 wr) (fun _ v21 _ => n1 - (intOf v21).toNat)
    case atStart => exact ⟨0, q, [], rfl, Nat.zero_le _, by rw [hq1], hq4, H0, bw⟩
    case round =>
      obtain ⟨i, ⟨⟨B1, m1, d1⟩, ⟨B2, m2, d2⟩, ⟨B3, m3, d3⟩, ⟨B4, m4, d4⟩, ⟨B5, m5, d5⟩⟩, xs, rfl, hi, hm1, hq4', H, hB⟩ := hrel
      simp only at hm1 hq4'
      rw [hm1] at H
      clear hm1
      have bwr := b11.trans (hB.mono b11.size)
      have hzw := hB.size
      by_cases hlt : i < n1
      · have hlt' : (i : Int) < (n1 : Int) := by omega
        obtain ⟨M, hM⟩ : ∃ M, P.elig[i]? = some M := ⟨_, List.getElem?_eq_getElem (by rw [hn1.out]; exact hlt)⟩
        have hMb := w1 M (List.mem_of_getElem? hM)
        have hM1 : (P.elig.map wv)[i]? = some (.int .u64 (M : Int)) := by rw [List.getElem?_map, hM]; rfl
        obtain ⟨b, o, rfl, hb1, hc1⟩ := (e1.below bwr) (by intro e; rw [e] at hM1; simp at hM1)
        have hc2 := hc1 i _ hM1
        clear hc1
        have hT : Hid (P.elig.take (i + 1) = P.elig.take i ++ [M]) := Lib.hid (by rw [List.take_add_one, hM]; rfl)
        have y0 : wr.cell? ⟨g, 0, none⟩ = some (.slice B1 i d1) := (H.blk.cell 0).trans rfl
        have y0d : wr.drew.cell? ⟨g, 0, none⟩ = some (.slice B1 i d1) := y0
        clear hM hM1
        go_wp2_with fail
        go_region_law (first
          | (refine step_row1 63 34 _ 1 24 set_info Tryz.underlying34 rfl (by omega) (by omega) _ rfl (.tmp 26) (.tmp 29) rfl w6 W1.heap.size _ i _ rfl H6.o1 #[.slice A7 n7 c7] rfl _ rfl rfl rfl (by simp [Value.oneCell']) (by omega) hz6 (i + 1) rfl ?_; intro A9 c9 w9 o9 g9 b9 _; have hb9 := Blk.grown H6.blk g9 (own_off H6.o1 H6.blk (by decide)); have y9 : w9.cell? ⟨g, 0, none⟩ = some (.slice B1 i d1) := (hb9.cell 0).trans rfl; have f9 := hb9.frozen 0)
          | (rw [if_pos (by rfl)]; go_simp; go_at_call 24; refine (set14_any M wr.drew hMb).mono ?_; rintro e w6 ⟨X, rfl, hX, b6⟩; obtain ⟨A7, n7, c7, e7, _⟩ := id hX; obtain rfl : X = .slice A7 n7 c7 := (by simpa using e7); have hb6 : Below wr.heap.size wr w6 := (Below.refl wr.heap.size wr).drew.trans (b6.mono (Nat.le_refl _)); have hz6 : W1.heap.size ≤ w6.heap.size := Nat.le_trans hzw hb6.size; have H6 := H.on hb6; have y6 : w6.cell? ⟨g, 0, none⟩ = some (.slice B1 i d1) := (H6.blk.cell 0).trans rfl; have y6a : ∀ o, (w6.alloc o).cell? ⟨g, 0, none⟩ = some (.slice B1 i d1) := (fun o => ((H6.blk.alloc o).cell 0).trans rfl); simp only []))
        all_goals (
          have H9 := HoldP.add1 H6 o9 g9 (by omega) hX
          have W9 : Below W1.heap.size W1 (w9.setCell ⟨g, 0, none⟩ (.slice A9 (i + 1) c9)) := ((hB.trans (hb6.mono hzw)).trans b9).setCell (p := ⟨g, 0, none⟩) hg _
          clear hb9 y9 f9 o9 g9 b9
          generalize (w9.setCell ⟨g, 0, none⟩ (.slice A9 (i + 1) c9)) = w8 at H9 W9 ⊢
          go_wp2_with fail
          go_roundw
          case rel => exact ⟨i + 1, _, _, by go_num, by omega, rfl, hq4', by rw [hT.out]; exact H9, W9⟩
          case measure => simp [intOf]; omega)
      · have hlt' : ¬ (i : Int) < (n1 : Int) := by omega
        obtain rfl : i = n1 := by omega
        have r3 := (box _ (bR1.on hB)).2.2.2.1
        have hT : P.elig.take i = P.elig := List.take_of_length_le (by rw [hn1.out]; exact Nat.le_refl _)
        rw [hT] at H
        clear hT
        go_wp2_with fail
        go_loopw [7, 36] (fun v7 v36 wr => ∃ (k : Nat) (q : PrV) (ms : List (Int × Value)), v36 = .int .i64 k ∧ k ≤ n4 ∧ q.s4.n = k ∧ HoldP wr W1.heap.size g q ⟨P.elig, P.dif, P.sam, P.mst.take k, P.fix⟩ xs ms ∧ Below W1.heap.size W1 wr) (fun _ v36 _ => n4 - (intOf v36).toNat)
        case atStart => exact ⟨0, _, [], rfl, Nat.zero_le _, by rw [hq4'], H, hB⟩
        case round =>
          clear H hB bwr r3 hq4' hzw
          obtain ⟨k, ⟨⟨B1, m1, d1⟩, ⟨B2, m2, d2⟩, ⟨B3, m3, d3⟩, ⟨B4, m4, d4⟩, ⟨B5, m5, d5⟩⟩, ms, rfl, hk, hm4, H, hB⟩ := hrel
          simp only at hm4
          rw [hm4] at H
          clear hm4
          have bwr := b11.trans (hB.mono b11.size)
          have hzw := hB.size
          by_cases hlt : k < n4
          · have hlt2 : (k : Int) < (n4 : Int) := by omega
            obtain ⟨⟨z, s⟩, hx⟩ : ∃ x, P.mst[k]? = some x := ⟨_, List.getElem?_eq_getElem (by rw [hn4.out]; exact hlt)⟩
            have hsb := w4 _ (List.mem_of_getElem? hx)
            obtain ⟨b, o, rfl, hb2, hcx, hcy⟩ := (e4.below bwr) k _ hx
            simp only [] at hcx hcy hsb
            have hT : Hid (P.mst.take (k + 1) = P.mst.take k ++ [(z, s)]) := Lib.hid (by rw [List.take_add_one, hx]; rfl)
            have bu := (Below.refl wr.heap.size wr).alloc (Nat.le_refl _) (.cells #[.int .i64 z, .int .u64 (s : Int)] 75)
            have HA := H.on bu
            have BA := hB.alloc hB.size (.cells #[.int .i64 z, .int .u64 (s : Int)] 75)
            have hBl := (Blk.new wr 75 #[.int .i64 z, .int .u64 (s : Int)])
            have z0 : (wr.alloc (.cells #[.int .i64 z, .int .u64 (s : Int)] 75)).cell? ⟨wr.heap.size, 0, none⟩ = some (.int .i64 z) := (hBl.cell 0).trans rfl
            have z1 : (wr.alloc (.cells #[.int .i64 z, .int .u64 (s : Int)] 75)).cell? ⟨wr.heap.size, 1, none⟩ = some (.int .u64 (s : Int)) := (hBl.cell 1).trans rfl
            have y3 : (wr.alloc (.cells #[.int .i64 z, .int .u64 (s : Int)] 75)).cell? ⟨g, 3, none⟩ = some (.slice B4 k d4) := (HA.blk.cell 3).trans rfl
            have hzA := BA.size
            clear hx
            go_wp2_with fail
            go_region_law (first
              | (refine step_row1 81 35 _ 2 32 fmost_info Tryz.underlying35 rfl (by omega) (by omega) _ rfl (.tmp 41) (.tmp 48) rfl w6 W1.heap.size _ k _ rfl H6.o4 #[.int .i64 z, .slice A7 n7 c7] rfl _ rfl rfl rfl (by simp [Value.oneCell']) (by omega) hz6 (k + 1) rfl ?_; intro A9 c9 w9 o9 g9 b9 _; have hb9 := Blk.grown H6.blk g9 (own_off H6.o4 H6.blk (by decide)); have y9 : w9.cell? ⟨g, 3, none⟩ = some (.slice B4 k d4) := (hb9.cell 3).trans rfl; have f9 := hb9.frozen 3)
              | (rw [if_pos (by rfl)]; go_simp; go_at_call 24; refine (set14_any s _ hsb).mono ?_; rintro e w6 ⟨X, rfl, hX, b6⟩; obtain ⟨A7, n7, c7, e7, _⟩ := id hX; obtain rfl : X = .slice A7 n7 c7 := (by simpa using e7); have hb6 : Below (wr.alloc (.cells #[.int .i64 z, .int .u64 (s : Int)] 75)).heap.size (wr.alloc (.cells #[.int .i64 z, .int .u64 (s : Int)] 75)) w6 := (Below.refl _ _).drew.trans (b6.mono (Nat.le_refl _)); have hz6 : W1.heap.size ≤ w6.heap.size := Nat.le_trans hzA hb6.size; have H6 := HA.on hb6; have y6 : w6.cell? ⟨g, 3, none⟩ = some (.slice B4 k d4) := (H6.blk.cell 3).trans rfl; have y6a : ∀ o, (w6.alloc o).cell? ⟨g, 3, none⟩ = some (.slice B4 k d4) := (fun o => ((H6.blk.alloc o).cell 3).trans rfl); have z6 : w6.cell? ⟨wr.heap.size, 0, none⟩ = some (.int .i64 z) := ((hBl.on hb6).cell 0).trans rfl; simp only []))
            all_goals (
              have H9 := HoldP.add4 H6 o9 g9 (by omega) hX
              have W9 : Below W1.heap.size W1 (w9.setCell ⟨g, 3, none⟩ (.slice A9 (k + 1) c9)) := ((BA.trans (hb6.mono hzA)).trans b9).setCell (p := ⟨g, 3, none⟩) hg _
              clear hb9 y9 f9 o9 g9 b9
              generalize (w9.setCell ⟨g, 3, none⟩ (.slice A9 (k + 1) c9)) = w8 at H9 W9 ⊢
              go_wp2_with fail
              go_roundw
              case rel => exact ⟨k + 1, _, _, by go_num, by omega, rfl, by rw [hT.out]; exact H9, W9⟩
              case measure => simp [intOf]; omega)
          · have hlt2 : ¬ (k : Int) < (n4 : Int) := by omega
            obtain rfl : k = n4 := by omega
            have hT : P.mst.take k = P.mst := List.take_of_length_le (by rw [hn4.out]; exact Nat.le_refl _)
            rw [hT] at H
            clear hT
            have u0 : wr.cell? ⟨g, 0, none⟩ = some (.slice B1 m1 d1) := (H.blk.cell 0).trans rfl
            have u1 : wr.cell? ⟨g, 1, none⟩ = some (.slice B2 m2 d2) := (H.blk.cell 1).trans rfl
            have u2 : wr.cell? ⟨g, 2, none⟩ = some (.slice B3 m3 d3) := (H.blk.cell 2).trans rfl
            have u3 : wr.cell? ⟨g, 3, none⟩ = some (.slice B4 k d4) := (H.blk.cell 3).trans rfl
            have u4 : wr.cell? ⟨g, 4, none⟩ = some (.slice B5 m5 d5) := (H.blk.cell 4).trans rfl
            have bCV := bC.on hB
            have y0 : wr.cell? ⟨w.heap.size + 1, 0, none⟩ = some (.slice none 0 0) := (bCV.cell 0).trans rfl
            have y1 : wr.cell? ⟨w.heap.size + 1, 1, none⟩ = some (.slice none 0 0) := (bCV.cell 1).trans rfl
            have y2 : wr.cell? ⟨w.heap.size + 1, 2, none⟩ = some (.slice none 0 0) := (bCV.cell 2).trans rfl
            have y3 : wr.cell? ⟨w.heap.size + 1, 3, none⟩ = some (.slice none 0 0) := (bCV.cell 3).trans rfl
            have y4 : wr.cell? ⟨w.heap.size + 1, 4, none⟩ = some (.slice none 0 0) := (bCV.cell 4).trans rfl
            have f0 := bCV.frozen 0
            have f1 := bCV.frozen 1
            have f2 := bCV.frozen 2
            have f3 := bCV.frozen 3
            have f4 := bCV.frozen 4
            go_wp2_with fail
            refine ret_pr rfl (w.heap.size + 1) ⟨⟨B1, m1, d1⟩, ⟨B2, m2, d2⟩, ⟨B3, m3, d3⟩, ⟨B4, k, d4⟩, ⟨B5, m5, d5⟩⟩ rfl (blk5 bCV) rfl ?_
            refine ⟨⟨⟨B1, m1, d1⟩, ⟨B2, m2, d2⟩, ⟨B3, m3, d3⟩, ⟨B4, k, d4⟩, ⟨B5, m5, d5⟩⟩, rfl, ⟨xs, ms, ?_⟩, ?_⟩
            · exact (H.ownQ.less (by omega)).put5 bCV (by decide)
            · exact bset5 bwr (by omega)
theorem mkp_any (p : PrV) (P : Pr) (w : World) (h : RPrAt w w.heap.size p P) :
    Calls Tryz.prog 6 #[p.v] w fun e w' => ∃ q, e = .returned (PrV.v q) ∧ PrAt w' w'.heap.size q P ∧ Below w.heap.size w w' := by
  refine (mkp_own p P w h).mono ?_
  rintro e w' ⟨q, he, ⟨xs, ms, hq⟩, hb⟩
  exact ⟨q, he, hq.at, hb⟩
end Go.Proofs.YtcnofhlgiffkjaaGreatDoor
