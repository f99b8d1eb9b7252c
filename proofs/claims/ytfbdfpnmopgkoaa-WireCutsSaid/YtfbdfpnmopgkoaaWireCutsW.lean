/- The walk of the law WireCuts: an encoding that is cut off is refused by the same method, and nothing is taken. -/
import Derived.Test.YtfbdfpnmopgkoaaArgsVal
import Derived.Test.YtfbdfpnmopgkoaaMvds
import Derived.Test.YtfbdfpnmopgkoaaBackP
namespace Go.Proofs.Ytfbdfpnmopgkoaa.wireCuts
open Go.RowKit
set_option linter.unusedVariables false
set_option linter.unusedSimpArgs false

set_option maxHeartbeats 4000000 in
set_option maxRecDepth 100000 in
theorem walk (k0 u0 : Nat) (s0 : Int) (A0 : Option Addr) (n0 c0 : Nat) (b0 : List UInt8) (a1 : Int) (w : World) (w0 : ValIn w w.heap.size k0 u0 s0 A0 n0 c0 b0) (w1 : (Lit.int .u16 a1).wf = true) :
    Calls Try.prog 8 #[valV k0 u0 s0 A0 n0 c0, .int .u16 a1] w fun e w' => e = .returned (.bool true) ∧ Below w.heap.size w w' := by
  obtain ⟨z1, z2⟩ := wf_u16 w1
  obtain ⟨a, rfl⟩ := Int.eq_ofNat_of_zero_le z1
  clear w1
  have hbox := Blk.new w 41 #[.int .u8 (k0 : Int), .int .u64 (u0 : Int), .int .i64 s0, .slice A0 n0 c0]
  have bA : Below w.heap.size w (w.alloc (.cells #[.int .u8 (k0 : Int), .int .u64 (u0 : Int), .int .i64 s0, .slice A0 n0 c0] 41)) := (Below.refl _ _).alloc (Nat.le_refl _) _
  have box : ∀ W, Blk W w.heap.size 41 #[.int .u8 (k0 : Int), .int .u64 (u0 : Int), .int .i64 s0, .slice A0 n0 c0] → W.cell? ⟨w.heap.size, 0, none⟩ = some (.int .u8 (k0 : Int)) ∧ W.cell? ⟨w.heap.size, 1, none⟩ = some (.int .u64 (u0 : Int)) ∧ W.cell? ⟨w.heap.size, 2, none⟩ = some (.int .i64 s0) ∧ W.cell? ⟨w.heap.size, 3, none⟩ = some (.slice A0 n0 c0) := fun W hb => ⟨(hb.cell 0).trans rfl, (hb.cell 1).trans rfl, (hb.cell 2).trans rfl, (hb.cell 3).trans rfl⟩
  have hk := w0.kind
  have haw := awake_any (w.alloc (.cells #[.int .u8 (k0 : Int), .int .u64 (u0 : Int), .int .i64 s0, .slice A0 n0 c0] 41))
  unfold valV
  by_cases h5 : k0 % 7 = 5
  · have hki : (k0 : Int) % 7 = 5 := by omega
    go_enter Try.func8, Try.ntmps8
    go_wp2_with fail
    refine haw.mono ?_
    rintro e u1 ⟨rfl, b1⟩
    obtain ⟨x0, x1, x2, x3⟩ := box u1 (hbox.on b1)
    go_wp2_with fail
    go_ret
    exact ⟨rfl, bA.trans (b1.mono (by simp))⟩
  · obtain ⟨q5, hq5, hq5n⟩ : ∃ q : Int, (k0 : Int) % 7 = q ∧ (q == 5) = false := ⟨_, rfl, beq_false_of_ne (by omega)⟩
    have hcut := fun n => bkV_cut (k := k0) (u := u0) (n := n) (s := s0) b0 w0.num w0.lo w0.hi h5
    have hpos := encV_pos (k := k0) (u := u0) (s := s0) b0 h5
    obtain ⟨E, hE⟩ : ∃ E, E = encV k0 u0 s0 b0 := ⟨_, rfl⟩
    rw [← hE] at hpos hcut
    have HE := Lib.hid hE
    clear hE
    go_enter Try.func8, Try.ntmps8
    go_wp2_with fail
    refine haw.mono ?_
    rintro e u1 ⟨rfl, b1⟩
    have hb1 := hbox.on b1
    obtain ⟨x0, x1, x2, x3⟩ := box u1 hb1
    have bw1 : Below w.heap.size w u1 := bA.trans (b1.mono (by simp))
    have hlt1 := hb1.lt
    go_wp2_with fail
    refine (newWriter_any u1).mono ?_
    rintro e u2 ⟨rfl, h2, b2⟩
    have hb2 := hb1.on b2
    obtain ⟨y0, y1, y2, y3⟩ := box u2 hb2
    have hz1 := bw1.size
    have hV2 := w0.on (bw1.trans (b2.mono hz1)) hz1
    go_wp2_with fail
    refine (lput_any u1.heap.size u1.heap.size _ [] k0 u0 s0 A0 n0 c0 b0 u2 h2 (Nat.le_refl _) (by simp) hV2).mono ?_
    rintro e u3 ⟨A3, n3, c3, rfl, hn3, He, s3, v3, hw3, m3, r3⟩
    rw [List.nil_append, ← HE.out] at hw3
    rw [← HE.out] at He
    have b23 : Below u1.heap.size u2 u3 := m3.below h2.base (Nat.le_refl _) (fun k hk => by cases hk)
    have hb3 := hb2.below b23 hlt1
    have b13 : Below u1.heap.size u1 u3 := b2.trans b23
    have hz3 := b13.size
    have hn3p : 0 < n3 := by rw [← He.out]; exact hpos
    obtain ⟨q, hq, hqlt⟩ : ∃ q : Nat, (a : Int) % (n3 : Int) = (q : Int) ∧ q < n3 := ⟨a % n3, (Int.natCast_emod a n3).symm, Nat.mod_lt _ hn3p⟩
    have hqlt' : (q : Int) < (n3 : Int) := by omega
    have hnz : ((n3 : Int) == 0) = false := beq_false_of_ne (by omega)
    have hn3i : 0 < (n3 : Int) := by omega
    have hqmod : (a : Int).tmod (n3 : Int) = (q : Int) := by rw [Int.tmod_eq_emod_of_nonneg (by omega)]; exact hq
    have hO3 := out_any u1.heap.size u1.heap.size v3 E u3 hw3 (by rw [He.out]; omega)
    rw [He.out] at hO3
    go_wp2_with fail
    refine hO3.mono ?_
    rintro e u4 ⟨A4, c4, rfl, o4, b4⟩
    have hw4 := hw3.on b4
    have hO4 := out_any u1.heap.size u1.heap.size v3 E u4 hw4 (by rw [He.out]; omega)
    rw [He.out] at hO4
    go_wp2_with fail
    refine hO4.mono ?_
    rintro e u5 ⟨A5, c5, rfl, o5, b5⟩
    have hroom := o4.room
    have hq0 : (0 : Int) ≤ (q : Int) := by omega
    have hqc : (q : Int) ≤ (c4 : Int) := by omega
    have hqn : q ≤ n3 := by omega
    have hqc' : q ≤ c4 := by omega
    have b35 : Below u3.heap.size u3 u5 := b4.trans (b5.mono b4.size)
    have s5 : Sees u5 u5.heap.size A4 ((E.take q).map bv) := by rw [List.map_take]; exact (o4.sees.on b5).take_ q
    have hEq : (E.take q).length = q := by rw [List.length_take, He.out]; omega
    have HEq := Lib.hid hEq
    clear hEq
    have b15 := b13.trans (b35.mono hz3)
    go_wp2_with (with_reducible refine wpL_min2 _ rfl (.tmp 26) (.tmp 29) _ rfl _ _ rfl rfl (q : Int) (by omega) ?_)
    refine (newReader_any A4 q c4 (E.take q) u5 s5 HEq.out (by omega)).mono ?_
    rintro e u6 ⟨gr, rfl, hgr, hr6, b6⟩
    have b36 : Below u3.heap.size u3 u6 := b35.trans (b6.mono b35.size)
    have hb6 := hb3.on b36
    obtain ⟨x0, x1, x2, x3⟩ := box u6 hb6
    have b16 := b15.trans (b6.mono b15.size)
    have hV6 := (w0.on (bw1.trans (b16.mono hz1)) (Nat.le_refl _)).on (Below.refl _ _) (show w.heap.size ≤ u6.heap.size from Nat.le_trans hz1 b16.size)
    have hbk := lback_any gr (E.take q) k0 u0 s0 A0 n0 c0 b0 u6 hr6 hV6
    rcases hR : bkV k0 u0 s0 b0 (E.take q) with ⟨R1, R2⟩
    have hc2 := hcut q (by rw [He.out]; exact hqlt)
    rw [hR] at hbk hc2
    obtain rfl : R2 = (E.take q, 6) := hc2
    clear hR hcut
    go_wp2_with fail
    refine hbk.mono ?_
    rintro e u7 ⟨rfl, hr7, m7⟩
    have hl7 := left_any gr _ 6 u7 hr7
    rw [HEq.out] at hl7
    have b17 : Below u1.heap.size u1 u7 := b16.trans (m7.below b16.size (Nat.le_trans b15.size hgr) (fun k hk => by cases hk))
    go_wp2_with fail
    refine (err_any gr _ 6 u7 hr7).mono ?_
    rintro e u8 ⟨rfl, rfl⟩
    go_wp2_with fail
    refine hl7.mono ?_
    rintro e u8 ⟨rfl, rfl⟩
    go_wp2_with fail
    go_ret
    exact ⟨rfl, bw1.trans (b17.mono hz1)⟩
end Go.Proofs.Ytfbdfpnmopgkoaa.wireCuts
