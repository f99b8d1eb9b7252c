/- The walk of StaffingLimits. (genlimits.py) -/
import Derived.Test.YtfnhaoindehjdaaDoorMade
import Derived.Test.YtfnhaoindehjdaaDoorMkR
import Derived.Test.YtfnhaoindehjdaaDoorAwS
import Derived.Test.YtfnhaoindehjdaaDoorStS
import Derived.Test.YtfnhaoindehjdaaDoorPk
namespace Go.Proofs.YtfnhaoindehjdaaDoor.staffingLimits
open Go.RowKit
set_option linter.unusedVariables false
set_option linter.unusedSimpArgs false

/-- What Solve gives under a limit. -/
theorem lim_cases {P : Pr} (hc : chkP P = 0) (z : Int) : (z < 0 ∧ solveR P z = (none, [], 1)) ∨ (0 < z ∧ solveR P z = (none, [], 3)) ∨ (0 ≤ z ∧ solveR P z = solveR P 0) := by
  by_cases hz : z < 0
  · left
    refine ⟨hz, ?_⟩
    unfold solveR
    rw [if_neg (by simpa using hc), if_pos hz]
  · obtain ⟨k, rfl⟩ : ∃ k : Nat, z = (k : Int) := ⟨z.toNat, by omega⟩
    rcases solveR_lim hc k with ⟨h1, h2⟩ | ⟨h1, _⟩
    · exact .inr (.inl ⟨by omega, h2⟩)
    · exact .inr (.inr ⟨by omega, h1⟩)
set_option maxHeartbeats 32000000 in
set_option maxRecDepth 100000 in
theorem walk (r : RwV) (R : Rw) (a1 : Int) (w : World) (h : RwAt w w.heap.size r R) (w1 : (Lit.int .i64 a1).wf = true) (hT : Tab w) :
    Calls Tryd.prog 4 #[r.v R, .int .i64 a1] w fun e w' => e = .returned (.bool true) ∧ Below w.heap.size w w' := by
  have hg0 : 0 < w.heap.size := World.block_lt_of_cell? w _ (hT 0 (by omega))
  have mk := fun W (hw : Below w.heap.size w W) => made_any r R W (h.on hw)
  have mf := mkP_few R
  have hc := chkP_mkP R
  have sm := mkP_sm R
  have h4 := mkP_four R
  have hsl := mkP_sols R
  obtain ⟨P, hP⟩ : ∃ P, Hid (P = mkP R) := ⟨_, Lib.hid rfl⟩
  rw [← hP.out] at mf mk hc sm h4 hsl
  obtain ⟨a10, a11⟩ := wf_i64 w1
  have hsv := fun q W (hW : Below w.heap.size w W) (h1 : PrAt W W.heap.size q P) => solve_any q P 2000 W h1 (hT.below hW hg0) (fun _ => sm)
  have hsw := fun q W (hW : Below w.heap.size w W) (h1 : PrAt W W.heap.size q P) => solve_any q P a1 W h1 (hT.below hW hg0) (fun _ => sm)
  have hz := solveR_zero hc
  have hlc := lim_cases hc a1
  rw [solveR_2000 hc mf.e1 h4] at hsv
  have hval := Lib.hid (fun l => (solsL_mem hc l).1)
  rw [hsl] at hz hval
  obtain ⟨⟨A1, n1, c1⟩, ⟨A2, n2, c2⟩, ⟨A3, n3, c3⟩, ⟨A4, n4, c4⟩, ⟨A5, n5, c5⟩⟩ := r
  obtain ⟨st, hst⟩ : ∃ st, Hid (st = R.steps) := ⟨_, Lib.hid rfl⟩
  unfold RwV.v Sl.v at mk ⊢
  simp only [] at mk ⊢
  rw [← hst.out] at mk ⊢
  have SM := Lib.hid sm
  have HC := Lib.hid hc
  have H4 := Lib.hid h4
  have HSL := Lib.hid hsl
  have MF := Lib.hid mf
  clear h mf sm hc h4 hsl
  go_enter Tryd.func4, Tryd.ntmps4
  go_wp2_with fail
  have r1 := Blk.new w 25 #[.int .u8 (st : Int), .slice A1 n1 c1, .slice A2 n2 c2, .slice A3 n3 c3, .slice A4 n4 c4, .slice A5 n5 c5]
  have b1 := bAl (Below.refl w.heap.size w) (.cells #[.int .u8 (st : Int), .slice A1 n1 c1, .slice A2 n2 c2, .slice A3 n3 c3, .slice A4 n4 c4, .slice A5 n5 c5] 25)
  generalize (w.alloc (.cells #[.int .u8 (st : Int), .slice A1 n1 c1, .slice A2 n2 c2, .slice A3 n3 c3, .slice A4 n4 c4, .slice A5 n5 c5] 25)) = W0 at r1 b1 ⊢
  refine (awake_any W0 (hT.below b1 hg0)).mono ?_
  rintro e W1 ⟨rfl, ba⟩
  have r2 := r1.on ba
  have b2 := b1.trans (ba.mono b1.size)
  clear r1 b1 ba
  have x0 : W1.cell? ⟨w.heap.size, 0, none⟩ = some (.int .u8 (st : Int)) := (r2.cell 0).trans rfl
  have x1 : W1.cell? ⟨w.heap.size, 1, none⟩ = some (.slice A1 n1 c1) := (r2.cell 1).trans rfl
  have x2 : W1.cell? ⟨w.heap.size, 2, none⟩ = some (.slice A2 n2 c2) := (r2.cell 2).trans rfl
  have x3 : W1.cell? ⟨w.heap.size, 3, none⟩ = some (.slice A3 n3 c3) := (r2.cell 3).trans rfl
  have x4 : W1.cell? ⟨w.heap.size, 4, none⟩ = some (.slice A4 n4 c4) := (r2.cell 4).trans rfl
  have x5 : W1.cell? ⟨w.heap.size, 5, none⟩ = some (.slice A5 n5 c5) := (r2.cell 5).trans rfl
  go_wp2_with fail
  refine (mk W1 b2).mono ?_
  rintro e W2 ⟨⟨⟨E1, i1, j1⟩, ⟨E2, i2, j2⟩, ⟨E3, i3, j3⟩, ⟨E4, i4, j4⟩, ⟨E5, i5, j5⟩⟩, ⟨⟨B1, m1, d1⟩, ⟨B2, m2, d2⟩, ⟨B3, m3, d3⟩, ⟨B4, m4, d4⟩, ⟨B5, m5, d5⟩⟩, AL, nL, cL, rfl, ⟨xs, ms, hq⟩, hpl, oL, hn6, bw2⟩
  have b3 := b2.trans (bw2.mono b2.size)
  simp only [PrV.v, Sl.v]
  clear x0 x1 x2 x3 x4 x5 r2 b2 mk
  have HPL := Lib.hid hpl
  clear hpl
  go_upto_region 4 with (fail)
  have k4 : Blk ((W2.alloc (.cells #[.slice E1 i1 j1, .slice E2 i2 j2, .slice E3 i3 j3, .slice E4 i4 j4, .slice E5 i5 j5] 32)).alloc (.cells #[.slice B1 m1 d1, .slice B2 m2 d2, .slice B3 m3 d3, .slice B4 m4 d4, .slice B5 m5 d5] 36)) W2.heap.size 32 #[.slice E1 i1 j1, .slice E2 i2 j2, .slice E3 i3 j3, .slice E4 i4 j4, .slice E5 i5 j5] := Blk.alloc (Blk.mk' rfl) _
  have bk : Below W2.heap.size W2 ((W2.alloc (.cells #[.slice E1 i1 j1, .slice E2 i2 j2, .slice E3 i3 j3, .slice E4 i4 j4, .slice E5 i5 j5] 32)).alloc (.cells #[.slice B1 m1 d1, .slice B2 m2 d2, .slice B3 m3 d3, .slice B4 m4 d4, .slice B5 m5 d5] 36)) := bAl (bAl (Below.refl _ _) _) _
  generalize ((W2.alloc (.cells #[.slice E1 i1 j1, .slice E2 i2 j2, .slice E3 i3 j3, .slice E4 i4 j4, .slice E5 i5 j5] 32)).alloc (.cells #[.slice B1 m1 d1, .slice B2 m2 d2, .slice B3 m3 d3, .slice B4 m4 d4, .slice B5 m5 d5] 36)) = W4 at k4 bk ⊢
  have b4 := b3.trans (bk.mono b3.size)
  have oq4 := hq.on bk
  have hQ4 := oq4.at
  have oL4 := oL.on bk
  have HLN := Lib.hid oL.len
  clear hq oL b3 bk bw2
  have x0 : W4.cell? ⟨W2.heap.size, 0, none⟩ = some (.slice E1 i1 j1) := (k4.cell 0).trans rfl
  have x1 : W4.cell? ⟨W2.heap.size, 1, none⟩ = some (.slice E2 i2 j2) := (k4.cell 1).trans rfl
  have x2 : W4.cell? ⟨W2.heap.size, 2, none⟩ = some (.slice E3 i3 j3) := (k4.cell 2).trans rfl
  have x3 : W4.cell? ⟨W2.heap.size, 3, none⟩ = some (.slice E4 i4 j4) := (k4.cell 3).trans rfl
  have x4 : W4.cell? ⟨W2.heap.size, 4, none⟩ = some (.slice E5 i5 j5) := (k4.cell 4).trans rfl
  have hsv := hsv ⟨⟨E1, i1, j1⟩, ⟨E2, i2, j2⟩, ⟨E3, i3, j3⟩, ⟨E4, i4, j4⟩, ⟨E5, i5, j5⟩⟩ W4 b4 hQ4
  have hsw := hsw ⟨⟨E1, i1, j1⟩, ⟨E2, i2, j2⟩, ⟨E3, i3, j3⟩, ⟨E4, i4, j4⟩, ⟨E5, i5, j5⟩⟩
  unfold SolvePost at hsv hsw
  rcases hz with ⟨l, ls, h1, h2⟩ | ⟨h1, nds, sts, h2, _, _⟩
  · rw [h2] at hsv hlc
    simp only [Option.isSome_some, Option.getD_some] at hsv
    have hvl : ValidB P l = true := hval.out l (by rw [h1]; simp)
    obtain ⟨b, o, A', m', c', rfl, hb, hcell, hO⟩ := oL4.get (i := 0) (l := l) (by rw [h1]; rfl)
    have hnL : nL = ls.length + 1 := by rw [← HLN.out, h1]; rfl
    have hpos : (0 : Int) < (nL : Int) := by omega
    have hposn : 0 < nL := by omega
    have hposd : decide (0 < nL) = true := by simpa using hposn
    have hnl := hO.len
    have hll : l.length ≤ 5 := by rw [(good_of_valid hvl).2.1.len]; exact SM.out.1
    clear hval h1 h2 hnL HLN oL4 hvl
    unfold PrV.v Sl.v at hsv hsw
    simp only [] at hsv hsw
    go_wp2_with fail
    refine hsv.mono ?_
    rintro e W5 ⟨Al, nl, cl, An, nn, cn, rfl, ol, _, b5⟩
    have hnl2 := ol.len
    go_upto_region 5 with (fail)
    have bA := bAl b5 (.cells #[.slice An nn cn] 46)
    have ol6 := ol.alloc (.cells #[.slice An nn cn] 46)
    generalize (W5.alloc (.cells #[.slice An nn cn] 46)) = W6 at bA ol6 ⊢
    have b6 := b4.trans (bA.mono b4.size)
    have hQ6 := hQ4.on bA
    have hO6 := hO.on bA
    have k6 := k4.on bA
    have hc6 : W6.cell? ⟨b, o, none⟩ = some (.slice A' m' c') := (bA.cell (p := ⟨b, o, none⟩) hb).trans (by simpa using hcell)
    clear hsv ol b5 hcell hO k4 hQ4 bA b4 x0 x1 x2 x3 x4
    have heq := eqT (W := W6) (c := cl) (c2 := c') (l := l) ol6.sees hO6.sees hnl2 hnl (by omega)
    go_wp2_with fail
    refine heq.mono ?_
    rintro e W7 ⟨rfl, q, rfl⟩
    have bq : Below W6.heap.size W6 (W6.drewN q) := below_drewN (Below.refl _ _) q
    generalize W6.drewN q = W7 at bq ⊢
    have b7 := b6.trans (bq.mono b6.size)
    have hQ7 := hQ6.on bq
    have k7 := k6.on bq
    have ol7 := ol6.on bq
    have hsw := hsw W7 b7 hQ7
    clear heq b6 hQ6 k6 ol6 hO6 hc6 bq
    have x0 : W7.cell? ⟨W2.heap.size, 0, none⟩ = some (.slice E1 i1 j1) := (k7.cell 0).trans rfl
    have x1 : W7.cell? ⟨W2.heap.size, 1, none⟩ = some (.slice E2 i2 j2) := (k7.cell 1).trans rfl
    have x2 : W7.cell? ⟨W2.heap.size, 2, none⟩ = some (.slice E3 i3 j3) := (k7.cell 2).trans rfl
    have x3 : W7.cell? ⟨W2.heap.size, 3, none⟩ = some (.slice E4 i4 j4) := (k7.cell 3).trans rfl
    have x4 : W7.cell? ⟨W2.heap.size, 4, none⟩ = some (.slice E5 i5 j5) := (k7.cell 4).trans rfl
    rcases hlc with ⟨hlz, hr⟩ | ⟨hlz, hr⟩ | ⟨hlz, hr⟩
    · rw [hr] at hsw
      simp only [Option.isSome_none, Option.getD_none] at hsw
      go_wp2_with fail
      refine hsw.mono ?_
      rintro e W8 ⟨Am, nm, cm, Ar, nr, cr, rfl, om, ⟨ys, hys, oN⟩, b8⟩
      obtain rfl : 0 = nm := om.len
      obtain rfl : ys = [] := List.map_eq_nil_iff.1 hys
      obtain rfl : 0 = nr := oN.len
      have b9 := b7.trans (b8.mono b7.size)
      clear x0 x1 x2 x3 x4
      go_wp2_with fail
      go_ret
      exact ⟨rfl, bAl b9 _⟩
    · rw [hr] at hsw
      simp only [Option.isSome_none, Option.getD_none] at hsw
      have hnz : ¬ a1 < 0 := by omega
      go_wp2_with fail
      refine hsw.mono ?_
      rintro e W8 ⟨Am, nm, cm, Ar, nr, cr, rfl, om, ⟨ys, hys, oN⟩, b8⟩
      obtain rfl : 0 = nm := om.len
      obtain rfl : ys = [] := List.map_eq_nil_iff.1 hys
      obtain rfl : 0 = nr := oN.len
      have b9 := b7.trans (b8.mono b7.size)
      clear x0 x1 x2 x3 x4
      go_wp2_with fail
      go_ret
      exact ⟨rfl, bAl b9 _⟩
    · rw [hr] at hsw
      simp only [Option.isSome_some, Option.getD_some] at hsw
      have hnz : ¬ a1 < 0 := by omega
      go_wp2_with fail
      refine hsw.mono ?_
      rintro e W8 ⟨Am, nm, cm, Ar, nr, cr, rfl, om, _, b8⟩
      have b9 := b7.trans (b8.mono b7.size)
      have hnm := om.len
      go_upto_region 8 with (fail)
      have bA := bAl b9 (.cells #[.slice Ar nr cr] 46)
      have om9 := om.alloc (.cells #[.slice Ar nr cr] 46)
      have ol9 := (ol7.on b8).alloc (.cells #[.slice Ar nr cr] 46)
      generalize (W8.alloc (.cells #[.slice Ar nr cr] 46)) = W9 at bA om9 ol9 ⊢
      have heq := eqT (W := W9) (c := cl) (c2 := cm) (l := l) ol9.sees om9.sees hnl2 hnm (by omega)
      clear x0 x1 x2 x3 x4 hsw
      go_wp2_with fail
      refine heq.mono ?_
      rintro e W10 ⟨rfl, q, rfl⟩
      go_wp2_with fail
      go_ret
      exact ⟨rfl, below_drewN bA q⟩
  · rw [h2] at hsv hlc
    simp only [Option.isSome_none, Option.getD_none] at hsv
    have hnL : nL = 0 := by rw [← HLN.out, h1]; rfl
    subst hnL
    clear hval h1 h2 HLN oL4
    unfold PrV.v Sl.v at hsv hsw
    simp only [] at hsv hsw
    go_wp2_with fail
    refine hsv.mono ?_
    rintro e W5 ⟨Al, nl, cl, An, nn, cn, rfl, ol, _, b5⟩
    obtain rfl : 0 = nl := ol.len
    go_upto_region 5 with (fail)
    have bA := bAl b5 (.cells #[.slice An nn cn] 46)
    have ol6 := ol.alloc (.cells #[.slice An nn cn] 46)
    generalize (W5.alloc (.cells #[.slice An nn cn] 46)) = W6 at bA ol6 ⊢
    have b7 := b4.trans (bA.mono b4.size)
    have hQ7 := hQ4.on bA
    have k7 := k4.on bA
    have hsw := hsw W6 b7 hQ7
    clear hsv ol b5 k4 hQ4 bA b4 x0 x1 x2 x3 x4
    have x0 : W6.cell? ⟨W2.heap.size, 0, none⟩ = some (.slice E1 i1 j1) := (k7.cell 0).trans rfl
    have x1 : W6.cell? ⟨W2.heap.size, 1, none⟩ = some (.slice E2 i2 j2) := (k7.cell 1).trans rfl
    have x2 : W6.cell? ⟨W2.heap.size, 2, none⟩ = some (.slice E3 i3 j3) := (k7.cell 2).trans rfl
    have x3 : W6.cell? ⟨W2.heap.size, 3, none⟩ = some (.slice E4 i4 j4) := (k7.cell 3).trans rfl
    have x4 : W6.cell? ⟨W2.heap.size, 4, none⟩ = some (.slice E5 i5 j5) := (k7.cell 4).trans rfl
    rcases hlc with ⟨hlz, hr⟩ | ⟨hlz, hr⟩ | ⟨hlz, hr⟩
    · rw [hr] at hsw
      simp only [Option.isSome_none, Option.getD_none] at hsw
      go_wp2_with fail
      refine hsw.mono ?_
      rintro e W8 ⟨Am, nm, cm, Ar, nr, cr, rfl, om, ⟨ys, hys, oN⟩, b8⟩
      obtain rfl : 0 = nm := om.len
      obtain rfl : ys = [] := List.map_eq_nil_iff.1 hys
      obtain rfl : 0 = nr := oN.len
      have b9 := b7.trans (b8.mono b7.size)
      clear x0 x1 x2 x3 x4
      go_wp2_with fail
      go_ret
      exact ⟨rfl, bAl b9 _⟩
    · rw [hr] at hsw
      simp only [Option.isSome_none, Option.getD_none] at hsw
      have hnz : ¬ a1 < 0 := by omega
      go_wp2_with fail
      refine hsw.mono ?_
      rintro e W8 ⟨Am, nm, cm, Ar, nr, cr, rfl, om, ⟨ys, hys, oN⟩, b8⟩
      obtain rfl : 0 = nm := om.len
      obtain rfl : ys = [] := List.map_eq_nil_iff.1 hys
      obtain rfl : 0 = nr := oN.len
      have b9 := b7.trans (b8.mono b7.size)
      clear x0 x1 x2 x3 x4
      go_wp2_with fail
      go_ret
      exact ⟨rfl, bAl b9 _⟩
    · rw [hr] at hsw
      simp only [Option.isSome_none, Option.getD_none] at hsw
      have hnz : ¬ a1 < 0 := by omega
      go_wp2_with fail
      refine hsw.mono ?_
      rintro e W8 ⟨Am, nm, cm, Ar, nr, cr, rfl, om, _, b8⟩
      have b9 := b7.trans (b8.mono b7.size)
      obtain rfl : 0 = nm := om.len
      go_upto_region 8 with (fail)
      have bA := bAl b9 (.cells #[.slice Ar nr cr] 46)
      have om9 := om.alloc (.cells #[.slice Ar nr cr] 46)
      have ol9 := (ol6.on b8).alloc (.cells #[.slice Ar nr cr] 46)
      generalize (W8.alloc (.cells #[.slice Ar nr cr] 46)) = W9 at bA om9 ol9 ⊢
      have heq := eqT (W := W9) (c := cl) (c2 := cm) (l := []) ol9.sees om9.sees rfl rfl (by simp)
      clear x0 x1 x2 x3 x4 hsw
      go_wp2_with fail
      refine heq.mono ?_
      rintro e W10 ⟨rfl, q, rfl⟩
      go_wp2_with fail
      go_ret
      exact ⟨rfl, below_drewN bA q⟩
end Go.Proofs.YtfnhaoindehjdaaDoor.staffingLimits
