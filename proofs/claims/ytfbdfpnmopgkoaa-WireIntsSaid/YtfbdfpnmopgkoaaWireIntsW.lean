/- The walk of the law WireInts: a number with a sign is read as it was written, or refused outside the ends. -/
import Derived.Test.YtfbdfpnmopgkoaaWireI
import Derived.Test.YtfbdfpnmopgkoaaRefB
import Derived.Test.YtfbdfpnmopgkoaaArgsSpan
import Derived.Deep.CutRange
import Derived.Deep.RegionHeld3
namespace Go.Proofs.Ytfbdfpnmopgkoaa.wireInts
open Go.RowKit
set_option linter.unusedVariables false
set_option linter.unusedSimpArgs false

theorem rdI_enc {z : Int} (h1 : -9223372036854775808 ≤ z) (h2 : z ≤ 9223372036854775807) (low high : Int) : rdI low high (enc (zig z)) = if high < low then (0, enc (zig z), 1) else if z < low ∨ high < z then (0, enc (zig z), 2) else (z, [], 0) := by
  have h := num_enc (zig_lt h1 h2) []
  rw [List.append_nil] at h
  unfold rdI
  rw [h]
  by_cases c1 : high < low
  · rw [if_pos c1, if_pos c1]
  · rw [if_neg c1, if_neg c1, if_neg (by have := enc_pos (zig z); show ¬ (enc (zig z)).length = 0; omega)]
    show (if zag (zig z) < low ∨ high < zag (zig z) then _ else _) = _
    rw [zag_zig]
    by_cases c2 : z < low ∨ high < z
    · rw [if_pos c2, if_pos c2]
    · rw [if_neg c2, if_neg c2, List.drop_of_length_le (Nat.le_refl _)]

set_option maxHeartbeats 4000000 in
set_option maxRecDepth 100000 in
theorem walk (a0 : Int) (x y : Int) (w : World) (w0 : (Lit.int .i64 a0).wf = true) (w1 : (Lit.int .i64 x).wf = true ∧ (Lit.int .i64 y).wf = true) :
    Calls Try.prog 5 #[.int .i64 a0, .agg #[.int .i64 x, .int .i64 y]] w fun e w' => e = .returned (.bool true) ∧ Below w.heap.size w w' := by
  obtain ⟨z1, z2⟩ := wf_i64 w0
  obtain ⟨x1, x2⟩ := wf_i64 w1.1
  obtain ⟨y1, y2⟩ := wf_i64 w1.2
  clear w0 w1
  obtain ⟨V, hVz⟩ : ∃ V, V = zig a0 := ⟨_, rfl⟩
  have hV : V < 18446744073709551616 := by rw [hVz]; exact zig_lt z1 z2
  have HVz := Lib.hid hVz
  clear hVz
  have hl10 := enc_len hV
  have hbox := Blk.new w 44 #[.int .i64 x, .int .i64 y]
  have b0 : Below w.heap.size w (w.alloc (.cells #[.int .i64 x, .int .i64 y] 44)) := (Below.refl _ _).alloc (Nat.le_refl _) _
  go_enter Try.func5, Try.ntmps5
  go_wp2_with fail
  refine (awake_any _).mono ?_
  rintro e u1 ⟨rfl, b1⟩
  have hbx1 := hbox.on b1
  have hs1' := hbx1.lt
  go_wp2_with fail
  refine (newWriter_any u1).mono ?_
  rintro e u2 ⟨rfl, h2, b2⟩
  have hs1 := b1.size
  go_wp2_with fail
  refine (wInt_any u1.heap.size u1.heap.size _ _ a0 u2 h2 z1 z2 (by simp)).mono ?_
  rintro e u3 ⟨rfl, v3, h3, m3, r3⟩
  rw [List.nil_append, ← HVz.out] at h3
  have b3 : Below u1.heap.size u1 u3 := b2.trans (m3.below h2.base (Nat.le_refl _) (fun k hk => by cases hk))
  go_wp2_with fail
  refine (out_any u1.heap.size u1.heap.size v3 _ u3 h3 (by omega)).mono ?_
  rintro e u4 ⟨A4, c4, rfl, o4, b4⟩
  obtain ⟨n, hn⟩ : ∃ n, n = (enc V).length := ⟨_, rfl⟩
  rw [← hn] at o4 hl10 ⊢
  have Hn := Lib.hid hn.symm
  clear hn
  have b34 : Below u1.heap.size u1 u4 := b3.trans (b4.mono b3.size)
  go_wp2_with fail
  refine (newReader_any A4 n c4 (enc V) u4 o4.sees Hn.out (by omega)).mono ?_
  rintro e u5 ⟨g1, rfl, hg1, hr1, b5⟩
  go_wp2_with fail
  refine (newReader_any A4 n c4 (enc V) u5 (o4.sees.on b5) Hn.out (by omega)).mono ?_
  rintro e u6 ⟨g2, rfl, hg2, hr2, b6⟩
  obtain ⟨A', n', c', hI⟩ := id hr1
  have hlt1 := hI.blk.lt
  clear hI
  have hr1' := hr1.on b6
  have s6 := (o4.sees.on b5).on b6
  have b46 : Below u1.heap.size u1 u6 := (b34.trans (b5.mono b34.size)).trans (b6.mono (Nat.le_trans b34.size b5.size))
  have hg1u : u1.heap.size ≤ g1 := Nat.le_trans b34.size hg1
  have hg2u : u1.heap.size ≤ g2 := Nat.le_trans b34.size (Nat.le_trans b5.size hg2)
  have hce : ∀ W, Below u1.heap.size u1 W → W.cell? ⟨w.heap.size, 0, none⟩ = some (.int .i64 x) ∧ W.cell? ⟨w.heap.size, 1, none⟩ = some (.int .i64 y) := by
    intro W hW
    have hb := hbx1.below hW hs1'
    exact ⟨(hb.cell 0).trans rfl, (hb.cell 1).trans rfl⟩
  have e1 : ∀ low high : Int, low ≤ a0 → a0 ≤ high → rdI low high (enc V) = (a0, [], 0) := fun low high h1 h2 => by
    have e1 := rdI_enc z1 z2 low high
    rwa [if_neg (by omega), if_neg (by omega), ← HVz.out] at e1
  have e2 := rdI_enc z1 z2 x y
  rw [← HVz.out] at e2
  have E1 := Lib.hid e1
  have E2 := Lib.hid e2
  clear e1 e2
  have qq : Below u1.heap.size u1 u6.drew := b46.drew
  obtain ⟨q0, q1⟩ := hce _ b46
  have hrA : ∀ W, W = u6.drew → RdAt W g1 (enc V) 0 ∧ RdAt W g2 (enc V) 0 ∧ Sees W W.heap.size A4 ((enc V).map bv) := fun W e => by
    subst e
    exact ⟨hr1'.on (Below.refl _ _).drew, hr2.on (Below.refl _ _).drew, s6.dn 1⟩
  rcases hR : rdI x y (enc V) with ⟨R1, R2, R3⟩
  have HR := Lib.hid hR
  clear hR
  have hI1 : ∀ (W : World) (low high : Int), low ≤ a0 → a0 ≤ high → RdAt W g1 (enc V) 0 → Calls Try.prog 23 #[.pointer (some ⟨g1, 0, none⟩), .int .i64 low, .int .i64 high] W fun e W' => e = .returned (.int .i64 a0) ∧ RdAt W' g1 [] 0 ∧ Only W W' g1 := fun W low high h1 h2 h => by
    have := rInt_any g1 (enc V) low high W h
    rw [E1.out low high h1 h2] at this
    exact this
  have hI2 : ∀ (W : World), RdAt W g2 (enc V) 0 → Calls Try.prog 23 #[.pointer (some ⟨g2, 0, none⟩), .int .i64 x, .int .i64 y] W fun e W' => e = .returned (.int .i64 R1) ∧ RdAt W' g2 R2 R3 ∧ Only W W' g2 := fun W h => by
    have := rInt_any g2 (enc V) x y W h
    rw [HR.out] at this
    exact this
  go_wp2_with fail
  go_cut [9, 10] from 23 to 30 (fun v9 v10 wx => v9 = .int .i64 a0 ∧ v10 = .int .i64 R1 ∧ RdAt wx g1 [] 0 ∧ RdAt wx g2 R2 R3 ∧ Sees wx wx.heap.size A4 ((enc V).map bv) ∧ Below u1.heap.size u1 wx)
  case first =>
    have hSa : ∀ W, Below u1.heap.size u1 W → W.cell? ⟨w.heap.size, 0, none⟩ = some (.int .i64 x) ∧ W.cell? ⟨w.heap.size, 1, none⟩ = some (.int .i64 y) ∧ Below u1.heap.size u1 W := fun W h => ⟨(hce W h).1, (hce W h).2, h⟩
    go_region_held3 (fun w' => w'.cell? ⟨w.heap.size, 0, none⟩ = some (.int .i64 x) ∧ w'.cell? ⟨w.heap.size, 1, none⟩ = some (.int .i64 y) ∧ Below u1.heap.size u1 w')
      (first | exact hSa _ qq | exact hSa _ qb | exact hSa _ qa)
      (first
        | (go_at_call 23; have mm := ma; refine (hI2 _ ((hrA _ rfl).2.1.beside (hrA _ rfl).1 ma (by omega))).mono ?_; rintro e wb ⟨rfl, hrb, mb⟩; have qb : Below u1.heap.size u1 wb := qa.trans (mb.below qa.size hg2u (fun k hk => by cases hk)))
        | (go_at_call 23; refine (hI1 _ _ _ (by omega) (by omega) (hrA _ rfl).1).mono ?_; rintro e wa ⟨rfl, hra, ma⟩; have qa : Below u1.heap.size u1 wa := qq.trans (ma.below qq.size hg1u (fun k hk => by cases hk))))
    all_goals (go_wp2_with fail; go_meet)
    all_goals (
      have hrg := (hrA _ rfl).2.1.beside (hrA _ rfl).1 ma (by omega)
      exact ⟨rfl, rfl, hra.beside hrg mb (by omega), hrb, ((hrA _ rfl).2.2.beside (hrA _ rfl).1 ma).beside hrg mb, qb⟩)
  case rest =>
    obtain ⟨rfl, rfl, hra, hrb, sc, bc⟩ := hcut
    clear hI1 hI2 hrA E1 qq q0 q1
    go_wp2_with fail
    have hput := putInt_any a0 wc z1 z2
    rw [← HVz.out] at hput
    refine hput.mono ?_
    rintro e u9 ⟨A9, n9, c9, rfl, o9, b9⟩
    have b19 : Below u1.heap.size u1 u9 := bc.trans (b9.mono bc.size)
    obtain ⟨q0, q1⟩ := hce _ b19
    go_wp2_with fail
    refine (same_yes A4 A9 n c4 n9 c9 _ u9 (sc.on b9) o9.sees Hn.out o9.len).mono ?_
    rintro e u10 ⟨rfl, rfl⟩
    have bw : Below w.heap.size w u9 := b0.trans ((b1.trans (b19.mono hs1)).mono (by simp))
    go_wp2_with fail
    refine (end_ok g1 _ (hra.on b9)).mono ?_
    rintro e u10 ⟨rfl, rfl⟩
    have hr9 := hrb.on b9
    have E := E2.out
    rw [HR.out] at E
    by_cases c1 : y < x
    · rw [if_pos c1] at E
      injection E with E1 E
      injection E with E3 E4
      subst E1 E3 E4
      have hle := Lib.hid (left_any g2 _ 1 _ hr9)
      have hle2 := Lib.hid (err_any g2 _ 1 _ hr9)
      clear E2 HR
      go_wp2_with fail
      refine hle2.out.mono ?_
      rintro e u10 ⟨rfl, rfl⟩
      go_wp2_with fail
      refine hle.out.mono ?_
      rintro e u10 ⟨rfl, rfl⟩
      rw [Hn.out]
      go_wp2_with fail
      go_ret
      exact ⟨rfl, bw⟩
    · rw [if_neg c1] at E
      have c1' : ¬ y < x := c1
      by_cases c2 : a0 < x ∨ y < a0
      · rw [if_pos c2] at E
        injection E with E1 E
        injection E with E3 E4
        subst E1 E3 E4
        have hle := Lib.hid (left_any g2 _ 2 _ hr9)
        have hle2 := Lib.hid (err_any g2 _ 2 _ hr9)
        have c1i : x ≤ y := by omega
        clear E2 HR c1 c1'
        rcases c2 with c2 | c2
        · go_wp2_with fail
          refine hle2.out.mono ?_
          rintro e u10 ⟨rfl, rfl⟩
          go_wp2_with fail
          refine hle.out.mono ?_
          rintro e u10 ⟨rfl, rfl⟩
          rw [Hn.out]
          go_wp2_with fail
          go_ret
          exact ⟨rfl, bw⟩
        · have c3 : ¬ a0 < x := by omega
          go_wp2_with fail
          refine hle2.out.mono ?_
          rintro e u10 ⟨rfl, rfl⟩
          go_wp2_with fail
          refine hle.out.mono ?_
          rintro e u10 ⟨rfl, rfl⟩
          rw [Hn.out]
          go_wp2_with fail
          go_ret
          exact ⟨rfl, bw⟩
      · rw [if_neg c2] at E
        injection E with E1 E
        injection E with E3 E4
        subst E1 E3 E4
        have c3 : ¬ R1 < x := by omega
        have c4 : ¬ y < R1 := by omega
        have c1i : x ≤ y := by omega
        clear E2 HR c1 c1' c2
        go_wp2_with fail
        refine (end_ok g2 _ hr9).mono ?_
        rintro e u10 ⟨rfl, rfl⟩
        go_wp2_with fail
        go_ret
        exact ⟨rfl, bw⟩
end Go.Proofs.Ytfbdfpnmopgkoaa.wireInts
