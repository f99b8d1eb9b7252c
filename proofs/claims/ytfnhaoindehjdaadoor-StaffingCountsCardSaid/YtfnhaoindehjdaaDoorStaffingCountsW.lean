/- The walk of StaffingCounts. (gencounts.py) -/
import Derived.Test.YtfnhaoindehjdaaDoorMade
import Derived.Test.YtfnhaoindehjdaaDoorMkQ
import Derived.Test.YtfnhaoindehjdaaDoorAwS
import Derived.Test.YtfnhaoindehjdaaDoorStN
import Derived.Test.YtfnhaoindehjdaaDoorPk
namespace Go.Proofs.YtfnhaoindehjdaaDoor.staffingCounts
open Go.RowKit
set_option linter.unusedVariables false
set_option linter.unusedSimpArgs false

set_option maxHeartbeats 32000000 in
set_option maxRecDepth 100000 in
theorem walk (r : RwV) (R : Rw) (a1 : Int) (w : World) (h : RwAt w w.heap.size r R) (w1 : (Lit.int .i64 a1).wf = true) (hT : Tab w) :
    Calls Tryd.prog 3 #[r.v R, .int .i64 a1] w fun e w' => e = .returned (.bool true) ∧ Below w.heap.size w w' := by
  have hg0 : 0 < w.heap.size := World.block_lt_of_cell? w _ (hT 0 (by omega))
  have mk := fun W (hw : Below w.heap.size w W) => made_any r R W (h.on hw)
  have mf := mkP_few R
  have hc := chkP_mkP R
  have sm := mkP_sm R
  have h4 := mkP_four R
  have hsl := mkP_sols R
  obtain ⟨P, hP⟩ : ∃ P, Hid (P = mkP R) := ⟨_, Lib.hid rfl⟩
  rw [← hP.out] at mf mk hc sm h4 hsl
  obtain ⟨a10, a11⟩ := wf_i64 w1
  have hcn := fun q W (hW : Below w.heap.size w W) (h1 : PrAt W W.heap.size q P) => count_any q P a1 W h1 (hT.below hW hg0) (fun _ => sm)
  have hcr : countR P a1 = if a1 < 1 then (0, 1) else if a1 < ((allL P).length : Int) then (0, 3) else (((allL P).length : Int), 0) := by
    unfold countR; rw [if_neg (by simpa using hc), hsl]
  obtain ⟨⟨A1, n1, c1⟩, ⟨A2, n2, c2⟩, ⟨A3, n3, c3⟩, ⟨A4, n4, c4⟩, ⟨A5, n5, c5⟩⟩ := r
  obtain ⟨st, hst⟩ : ∃ st, Hid (st = R.steps) := ⟨_, Lib.hid rfl⟩
  unfold RwV.v Sl.v at mk ⊢
  simp only [] at mk ⊢
  rw [← hst.out] at mk ⊢
  have SM := Lib.hid sm
  have HC := Lib.hid hc
  have H4 := Lib.hid h4
  have HSL := Lib.hid hsl
  have MF := Lib.hid mf
  clear h mf sm hc h4 hsl
  go_enter Tryd.func3, Tryd.ntmps3
  go_wp2_with fail
  have r1 := Blk.new w 25 #[.int .u8 (st : Int), .slice A1 n1 c1, .slice A2 n2 c2, .slice A3 n3 c3, .slice A4 n4 c4, .slice A5 n5 c5]
  have b1 := bAl (Below.refl w.heap.size w) (.cells #[.int .u8 (st : Int), .slice A1 n1 c1, .slice A2 n2 c2, .slice A3 n3 c3, .slice A4 n4 c4, .slice A5 n5 c5] 25)
  generalize (w.alloc (.cells #[.int .u8 (st : Int), .slice A1 n1 c1, .slice A2 n2 c2, .slice A3 n3 c3, .slice A4 n4 c4, .slice A5 n5 c5] 25)) = W0 at r1 b1 ⊢
  refine (awake_any W0 (hT.below b1 hg0)).mono ?_
  rintro e W1 ⟨rfl, ba⟩
  have r2 := r1.on ba
  have b2 := b1.trans (ba.mono b1.size)
  clear r1 b1 ba
  have x0 : W1.cell? ⟨w.heap.size, 0, none⟩ = some (.int .u8 (st : Int)) := (r2.cell 0).trans rfl
  have x1 : W1.cell? ⟨w.heap.size, 1, none⟩ = some (.slice A1 n1 c1) := (r2.cell 1).trans rfl
  have x2 : W1.cell? ⟨w.heap.size, 2, none⟩ = some (.slice A2 n2 c2) := (r2.cell 2).trans rfl
  have x3 : W1.cell? ⟨w.heap.size, 3, none⟩ = some (.slice A3 n3 c3) := (r2.cell 3).trans rfl
  have x4 : W1.cell? ⟨w.heap.size, 4, none⟩ = some (.slice A4 n4 c4) := (r2.cell 4).trans rfl
  have x5 : W1.cell? ⟨w.heap.size, 5, none⟩ = some (.slice A5 n5 c5) := (r2.cell 5).trans rfl
  go_wp2_with fail
  refine (mk W1 b2).mono ?_
  rintro e W2 ⟨⟨⟨E1, i1, j1⟩, ⟨E2, i2, j2⟩, ⟨E3, i3, j3⟩, ⟨E4, i4, j4⟩, ⟨E5, i5, j5⟩⟩, ⟨⟨B1, m1, d1⟩, ⟨B2, m2, d2⟩, ⟨B3, m3, d3⟩, ⟨B4, m4, d4⟩, ⟨B5, m5, d5⟩⟩, AL, nL, cL, rfl, ⟨xs, ms, hq⟩, hpl, oL, hn6, bw2⟩
  have b3 := b2.trans (bw2.mono b2.size)
  simp only [PrV.v, Sl.v]
  clear x0 x1 x2 x3 x4 x5 r2 b2 mk
  have HPL := Lib.hid hpl
  clear hpl
  go_upto_region 4 with (fail)
  have k4 : Blk ((W2.alloc (.cells #[.slice E1 i1 j1, .slice E2 i2 j2, .slice E3 i3 j3, .slice E4 i4 j4, .slice E5 i5 j5] 32)).alloc (.cells #[.slice B1 m1 d1, .slice B2 m2 d2, .slice B3 m3 d3, .slice B4 m4 d4, .slice B5 m5 d5] 36)) W2.heap.size 32 #[.slice E1 i1 j1, .slice E2 i2 j2, .slice E3 i3 j3, .slice E4 i4 j4, .slice E5 i5 j5] := Blk.alloc (Blk.mk' rfl) _
  have bk : Below W2.heap.size W2 ((W2.alloc (.cells #[.slice E1 i1 j1, .slice E2 i2 j2, .slice E3 i3 j3, .slice E4 i4 j4, .slice E5 i5 j5] 32)).alloc (.cells #[.slice B1 m1 d1, .slice B2 m2 d2, .slice B3 m3 d3, .slice B4 m4 d4, .slice B5 m5 d5] 36)) := bAl (bAl (Below.refl _ _) _) _
  generalize ((W2.alloc (.cells #[.slice E1 i1 j1, .slice E2 i2 j2, .slice E3 i3 j3, .slice E4 i4 j4, .slice E5 i5 j5] 32)).alloc (.cells #[.slice B1 m1 d1, .slice B2 m2 d2, .slice B3 m3 d3, .slice B4 m4 d4, .slice B5 m5 d5] 36)) = W4 at k4 bk ⊢
  have b4 := b3.trans (bk.mono b3.size)
  have oq4 := hq.on bk
  have hQ4 := oq4.at
  have oL4 := oL.on bk
  have HLN := Lib.hid oL.len
  clear hq oL b3 bk bw2
  have x0 : W4.cell? ⟨W2.heap.size, 0, none⟩ = some (.slice E1 i1 j1) := (k4.cell 0).trans rfl
  have x1 : W4.cell? ⟨W2.heap.size, 1, none⟩ = some (.slice E2 i2 j2) := (k4.cell 1).trans rfl
  have x2 : W4.cell? ⟨W2.heap.size, 2, none⟩ = some (.slice E3 i3 j3) := (k4.cell 2).trans rfl
  have x3 : W4.cell? ⟨W2.heap.size, 3, none⟩ = some (.slice E4 i4 j4) := (k4.cell 3).trans rfl
  have x4 : W4.cell? ⟨W2.heap.size, 4, none⟩ = some (.slice E5 i5 j5) := (k4.cell 4).trans rfl
  have hcn := hcn ⟨⟨E1, i1, j1⟩, ⟨E2, i2, j2⟩, ⟨E3, i3, j3⟩, ⟨E4, i4, j4⟩, ⟨E5, i5, j5⟩⟩ W4 b4 hQ4
  rw [hcr, HLN.out] at hcn
  unfold PrV.v Sl.v at hcn
  simp only [] at hcn
  have fin : ∀ W, Below W4.heap.size W4 W → Below w.heap.size w W := fun W hW => b4.trans (hW.mono b4.size)
  by_cases h1 : a1 < 1
  · rw [if_pos h1] at hcn
    go_wp2_with fail
    refine hcn.mono ?_
    rintro e W5 ⟨rfl, b5⟩
    have b5 := fin W5 b5
    go_wp2_with fail
    go_ret
    exact ⟨rfl, b5⟩
  · rw [if_neg h1] at hcn
    by_cases h2 : a1 < (nL : Int)
    · rw [if_pos h2] at hcn
      go_wp2_with fail
      refine hcn.mono ?_
      rintro e W5 ⟨rfl, b5⟩
      have b5 := fin W5 b5
      go_wp2_with fail
      go_ret
      exact ⟨rfl, b5⟩
    · rw [if_neg h2] at hcn
      go_wp2_with fail
      refine hcn.mono ?_
      rintro e W5 ⟨rfl, b5⟩
      have b5 := fin W5 b5
      go_wp2_with fail
      go_ret
      exact ⟨rfl, b5⟩
end Go.Proofs.YtfnhaoindehjdaaDoor.staffingCounts
