/- The walk of RefuteHall. (genhall.py) -/
import Derived.Test.YtcdgmdhfaniciaaDoorPk
import Derived.Test.YtcdgmdhfaniciaaDoorCheck
import Derived.Test.YtcdgmdhfaniciaaDoorMkB
import Derived.Test.YtcdgmdhfaniciaaDoorRMk3
import Derived.Test.YtcdgmdhfaniciaaDoorPj
import Derived.Test.YtcdgmdhfaniciaaDoorPm
import Derived.Test.YtcdgmdhfaniciaaDoorPn
import Derived.Test.YtcdgmdhfaniciaaDoorAw
namespace Go.Proofs.YtcdgmdhfaniciaaDoor.refuteHall
open Go.RowKit
set_option linter.unusedVariables false
set_option linter.unusedSimpArgs false

theorem rnode1 {W : World} {g : Nat} {x : Nd} {C S : Sl} (hb : Blk W g 72 #[.int .i64 (x.kind : Int), .int .i64 x.step, C.v, S.v]) (hN : NdL W W.heap.size C S x) : RNodesAt W W.heap.size (some ⟨g, 0, none⟩) [x] := fun i y hy => by
  cases i with
  | zero =>
    injection hy with hy
    subst hy
    exact ⟨g, 0, C, S, rfl, hb.lt, (hb.cell 0).trans rfl, (hb.cell 1).trans rfl, (hb.cell 2).trans rfl, (hb.cell 3).trans rfl, hN⟩
  | succ i => simp at hy
set_option maxHeartbeats 32000000 in
set_option maxRecDepth 100000 in
theorem walk (r : RwV) (R : Rw) (A : Option Addr) (n c : Nat) (l : List Int) (w : World) (h : RwAt w w.heap.size r R) (hl : ArgI8 w A n c l) (hT : Tab w) :
    Calls Tryd.prog 7 #[r.v R, .slice A n c] w fun e w' => e = .returned (.bool true) ∧ Below w.heap.size w w' := by
  have hg0 : 0 < w.heap.size := World.block_lt_of_cell? w _ (hT 0 (by omega))
  have mk := fun W (hw : Below w.heap.size w W) => rmake_any r R W (h.on hw)
  have mf := mkP_few R
  have hc := chkP_mkP R
  obtain ⟨P, hP⟩ : ∃ P, Hid (P = mkP R) := ⟨_, Lib.hid rfl⟩
  rw [← hP.out] at mf mk hc
  obtain ⟨hsee, hln, hcap, hmax, hrng⟩ := hl
  unfold maxLen at hmax
  obtain ⟨m, hm⟩ : ∃ m : Nat, Hid (m = min n 6) := ⟨_, Lib.hid rfl⟩
  have hm6 : m ≤ 6 := by have := hm.out; omega
  have hmn : m ≤ n := by have := hm.out; omega
  have hmin : min (n : Int) 6 = (m : Int) := by have := hm.out; omega
  have hnb : (n : Int) ≤ 9223372036854775807 := by omega
  have hmc : (m : Int) ≤ (c : Int) := by omega
  obtain ⟨ls, hls⟩ : ∃ x, Hid (x = l.take m) := ⟨_, Lib.hid rfl⟩
  have hlsl : ls.length = m := by rw [hls.out, List.length_take, hln]; omega
  obtain ⟨hb, hhb⟩ : ∃ x, Hid (x = hallB P ls P.fix) := ⟨_, Lib.hid rfl⟩
  have hck := fun q Aq nq cq W (hW : Below w.heap.size w W) (h1 : PrAt W W.heap.size q P) h2 h3 h4 => check_any q P Aq nq cq [⟨3, 0, [], ls⟩] W h1 h2 h3 h4 (hT.below hW hg0)
  have hce := chkR_hall hc ls
  rw [← hhb.out] at hce
  have hsnd := Lib.hid (@chkR_sound P [⟨3, 0, [], ls⟩])
  have Hln := Lib.hid hln
  have hfl := mf.f1
  obtain ⟨⟨A1, n1, c1⟩, ⟨A2, n2, c2⟩, ⟨A3, n3, c3⟩, ⟨A4, n4, c4⟩, ⟨A5, n5, c5⟩⟩ := r
  obtain ⟨st, hst⟩ : ∃ st, Hid (st = R.steps) := ⟨_, Lib.hid rfl⟩
  unfold RwV.v Sl.v at mk ⊢
  simp only [] at mk ⊢
  rw [← hst.out] at mk ⊢
  have me1 := mf.e1
  clear h mf
  clear hln
  go_enter Tryd.func7, Tryd.ntmps7
  go_wp2_with fail
  have r1 := Blk.new w 25 #[.int .u8 (st : Int), .slice A1 n1 c1, .slice A2 n2 c2, .slice A3 n3 c3, .slice A4 n4 c4, .slice A5 n5 c5]
  have b1 := bAl (Below.refl w.heap.size w) (.cells #[.int .u8 (st : Int), .slice A1 n1 c1, .slice A2 n2 c2, .slice A3 n3 c3, .slice A4 n4 c4, .slice A5 n5 c5] 25)
  generalize (w.alloc (.cells #[.int .u8 (st : Int), .slice A1 n1 c1, .slice A2 n2 c2, .slice A3 n3 c3, .slice A4 n4 c4, .slice A5 n5 c5] 25)) = W0 at r1 b1 ⊢
  refine (awake_any W0 (hT.below b1 hg0)).mono ?_
  rintro e W1 ⟨rfl, ba⟩
  have r2 := r1.on ba
  have b2 := b1.trans (ba.mono b1.size)
  clear r1 b1 ba
  have x0 : W1.cell? ⟨w.heap.size, 0, none⟩ = some (.int .u8 (st : Int)) := (r2.cell 0).trans rfl
  have x1 : W1.cell? ⟨w.heap.size, 1, none⟩ = some (.slice A1 n1 c1) := (r2.cell 1).trans rfl
  have x2 : W1.cell? ⟨w.heap.size, 2, none⟩ = some (.slice A2 n2 c2) := (r2.cell 2).trans rfl
  have x3 : W1.cell? ⟨w.heap.size, 3, none⟩ = some (.slice A3 n3 c3) := (r2.cell 3).trans rfl
  have x4 : W1.cell? ⟨w.heap.size, 4, none⟩ = some (.slice A4 n4 c4) := (r2.cell 4).trans rfl
  have x5 : W1.cell? ⟨w.heap.size, 5, none⟩ = some (.slice A5 n5 c5) := (r2.cell 5).trans rfl
  go_wp2_with fail
  refine (mk W1 b2).mono ?_
  rintro e W2 ⟨⟨⟨B1, m1, d1⟩, ⟨B2, m2, d2⟩, ⟨B3, m3, d3⟩, ⟨B4, m4, d4⟩, ⟨B5, m5, d5⟩⟩, rfl, hO, bw2⟩
  have b3 := b2.trans (bw2.mono b2.size)
  have hO3 := hO.at
  simp only [PrV.v, Sl.v]
  clear x0 x1 x2 x3 x4 x5 r2 b2 bw2 mk
  go_wp2_with fail
  have k4 := Blk.new W2 39 #[.slice B1 m1 d1, .slice B2 m2 d2, .slice B3 m3 d3, .slice B4 m4 d4, .slice B5 m5 d5]
  have bk := bAl (Below.refl W2.heap.size W2) (.cells #[.slice B1 m1 d1, .slice B2 m2 d2, .slice B3 m3 d3, .slice B4 m4 d4, .slice B5 m5 d5] 39)
  have sz4 : W2.heap.size < (W2.alloc (.cells #[.slice B1 m1 d1, .slice B2 m2 d2, .slice B3 m3 d3, .slice B4 m4 d4, .slice B5 m5 d5] 39)).heap.size := by simp
  generalize (W2.alloc (.cells #[.slice B1 m1 d1, .slice B2 m2 d2, .slice B3 m3 d3, .slice B4 m4 d4, .slice B5 m5 d5] 39)) = W4 at k4 bk sz4 ⊢
  have b4 := b3.trans (bk.mono b3.size)
  have hO4 := hO3.on bk
  clear hO3 b3 bk
  have hz4 := b4.size
  go_loopw [6, 21] (fun v6 v21 wr => ∃ (k cc : Nat) (Ak : Option Addr), k ≤ m ∧ v21 = .int .i64 k ∧ v6 = .slice Ak k cc ∧ OwnI wr W4.heap.size (.slice Ak k cc) k (l.take k) ∧ Below W4.heap.size W4 wr) (fun _ v21 _ => m - (intOf v21).toNat)
  case atStart => exact ⟨0, 0, none, Nat.zero_le _, rfl, rfl, OwnI.nil _ _, Below.refl _ _⟩
  case round =>
    clear hmin
    obtain ⟨k, cc, Ak, hk, rfl, rfl, hI, hB⟩ := hrel
    by_cases hlt : k < m
    · have hlt' : (k : Int) < (m : Int) := by omega
      obtain ⟨b9, o9, z, rfl, hb9, Hz, hcz⟩ := Sees.i8 (k := k) (hsee.below (b4.trans (hB.mono hz4))) (by rw [Hln.out]; omega)
      obtain ⟨hz1, hz2⟩ := hrng z (List.mem_of_getElem? Hz.out)
      have HT2 : Hid (l.take (k + 1) = l.take k ++ [z]) := Lib.hid (by rw [List.take_add_one, Hz.out]; rfl)
      clear hck hce
      go_wp2_with (at_builtin; refine wpL_appI1 _ rfl (.tmp 25) (.tmp 28) rfl wr W4.heap.size _ k _ rfl hI z rfl _ rfl rfl (by omega) hB.size (k + 1) rfl ?_; intro A9 c9 w9 o9 g9 b9)
      go_roundw
      case rel => exact ⟨k + 1, c9, A9, by omega, by go_num, rfl, by rw [HT2.out]; exact o9, hB.trans b9⟩
      case measure => simp [intOf]; omega
    · obtain rfl : k = m := by omega
      have hlt' : ¬ (k : Int) < (k : Int) := by omega
      rw [← hls.out] at hI
      have b5 := b4.trans (hB.mono hz4)
      have k5 := k4.on hB
      have hO5 := hO4.on hB
      clear hO4 k4 b4 hB sz4 hz4
      cases hb
      all_goals (
        simp only [Bool.false_eq_true, if_false, if_true] at hce
        rw [hce] at hck
        have x0 : wr.cell? ⟨W2.heap.size, 0, none⟩ = some (.slice B1 m1 d1) := (k5.cell 0).trans rfl
        have x1 : wr.cell? ⟨W2.heap.size, 1, none⟩ = some (.slice B2 m2 d2) := (k5.cell 1).trans rfl
        have x2 : wr.cell? ⟨W2.heap.size, 2, none⟩ = some (.slice B3 m3 d3) := (k5.cell 2).trans rfl
        have x3 : wr.cell? ⟨W2.heap.size, 3, none⟩ = some (.slice B4 m4 d4) := (k5.cell 3).trans rfl
        have x4 : wr.cell? ⟨W2.heap.size, 4, none⟩ = some (.slice B5 m5 d5) := (k5.cell 4).trans rfl
        go_wp2_with fail
        refine (mkp_any ⟨⟨B1, m1, d1⟩, ⟨B2, m2, d2⟩, ⟨B3, m3, d3⟩, ⟨B4, m4, d4⟩, ⟨B5, m5, d5⟩⟩ P wr hO5).mono ?_
        rintro e W6 ⟨q, rfl, hq, bw6⟩
        have b6 := b5.trans (bw6.mono b5.size)
        have k6 := k5.on bw6
        have hO6 := hO5.on bw6
        have hI6 := hI.on bw6
        clear x0 x1 x2 x3 x4 k5 hO5 hI b5 bw6
        go_wp2_with fail
        have bk6 := bAl (Below.refl W6.heap.size W6) (.cells #[.int .i64 3, .int .i64 0, .slice none 0 0, .slice Ak k cc] 72)
        have kN := Blk.new W6 72 #[.int .i64 3, .int .i64 0, .slice none 0 0, .slice Ak k cc]
        generalize (W6.alloc (.cells #[.int .i64 3, .int .i64 0, .slice none 0 0, .slice Ak k cc] 72)) = W7 at bk6 kN ⊢
        have b7 := b6.trans (bk6.mono b6.size)
        have k7 := k6.on bk6
        have hO7 := hO6.on bk6
        have hI7 := hI6.on bk6
        have hq7 := hq.on bk6
        have hN7 : RNodesAt W7 W7.heap.size (some ⟨W6.heap.size, 0, none⟩) [⟨3, 0, [], ls⟩] := rnode1 (x := ⟨3, 0, [], ls⟩) (C := ⟨none, 0, 0⟩) (S := ⟨Ak, k, cc⟩) kN ⟨by show 3 < 256; omega, Sees.nil _ _ _, hI7.sees, rfl, hlsl, Nat.le_refl _, own_room hI7, by show 0 ≤ 1000000; omega, by show k ≤ 1000000; omega⟩
        clear k6 hO6 hI6 hq kN bk6 b6
        refine (nodes41_any _ 1 1 [⟨3, 0, [], ls⟩] W7 hN7 rfl (by omega)).mono ?_
        rintro e W8 ⟨A8, c8, rfl, ⟨ys, hys, hN8⟩, bw8⟩
        have b8 := b7.trans (bw8.mono b7.size)
        have hN8a := hN8.atP
        rw [hys] at hN8a
        have k8 := k7.on bw8
        have hO8 := hO7.on bw8
        have hI8 := hI7.on bw8
        have hq8 := hq7.on bw8
        clear hys hN8 ys hN7 k7 hO7 hI7 hq7 bw8 b7
        go_wp2_with fail
        refine (hck q A8 1 c8 W8 b8 hq8 hN8a rfl (by omega)).mono ?_
        rintro e W9 ⟨rfl, bw9⟩
        have b9 := b8.trans (bw9.mono b8.size)
        have k9 := k8.on bw9
        have hO9 := hO8.on bw9
        have hI9 := hI8.on bw9
        clear k8 hO8 hI8 hq8 hN8a bw9 b8
        have hha := rhall_any ⟨⟨B1, m1, d1⟩, ⟨B2, m2, d2⟩, ⟨B3, m3, d3⟩, ⟨B4, m4, d4⟩, ⟨B5, m5, d5⟩⟩ P Ak B5 k cc m5 d5 ls P.fix W9 hO9 hI9.sees hlsl (by omega) (own_room hI9) hO9.e5 hO9.l5 hfl
        rw [← hhb.out] at hha
        have x0 : W9.cell? ⟨W2.heap.size, 0, none⟩ = some (.slice B1 m1 d1) := (k9.cell 0).trans rfl
        have x1 : W9.cell? ⟨W2.heap.size, 1, none⟩ = some (.slice B2 m2 d2) := (k9.cell 1).trans rfl
        have x2 : W9.cell? ⟨W2.heap.size, 2, none⟩ = some (.slice B3 m3 d3) := (k9.cell 2).trans rfl
        have x3 : W9.cell? ⟨W2.heap.size, 3, none⟩ = some (.slice B4 m4 d4) := (k9.cell 3).trans rfl
        have x4 : W9.cell? ⟨W2.heap.size, 4, none⟩ = some (.slice B5 m5 d5) := (k9.cell 4).trans rfl
        go_wp2_with fail
        refine hha.mono ?_
        rintro e W10 ⟨rfl, bw10⟩
        have b10 := b9.trans (bw10.mono b9.size)
        have k10 := k9.on bw10
        have hO10 := hO9.on bw10
        clear x0 x1 x2 x3 x4 hha)
      · go_wp2_with fail
        go_ret
        exact ⟨rfl, b10⟩
      · have hall8 := all_any ⟨⟨B1, m1, d1⟩, ⟨B2, m2, d2⟩, ⟨B3, m3, d3⟩, ⟨B4, m4, d4⟩, ⟨B5, m5, d5⟩⟩ P W10 hO10 me1
        have hA : allL P = [] := allL_nil_of (fun s => hsnd.out (by rw [hce]) s) 0 _
        rw [hA] at hall8
        have x0 : W10.cell? ⟨W2.heap.size, 0, none⟩ = some (.slice B1 m1 d1) := (k10.cell 0).trans rfl
        have x1 : W10.cell? ⟨W2.heap.size, 1, none⟩ = some (.slice B2 m2 d2) := (k10.cell 1).trans rfl
        have x2 : W10.cell? ⟨W2.heap.size, 2, none⟩ = some (.slice B3 m3 d3) := (k10.cell 2).trans rfl
        have x3 : W10.cell? ⟨W2.heap.size, 3, none⟩ = some (.slice B4 m4 d4) := (k10.cell 3).trans rfl
        have x4 : W10.cell? ⟨W2.heap.size, 4, none⟩ = some (.slice B5 m5 d5) := (k10.cell 4).trans rfl
        clear hA hck hce
        go_wp2_with fail
        refine hall8.mono ?_
        rintro e W11 ⟨A11, n11, c11, rfl, hL, _, bw11⟩
        have hn11 := hL.len
        obtain rfl : 0 = n11 := hn11
        go_wp2_with fail
        go_ret
        exact ⟨rfl, b10.trans (bw11.mono b10.size)⟩
end Go.Proofs.YtcdgmdhfaniciaaDoor.refuteHall
