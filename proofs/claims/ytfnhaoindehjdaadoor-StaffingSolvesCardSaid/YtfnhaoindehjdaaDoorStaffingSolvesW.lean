/- The walk of StaffingSolves. (gensolves.py) -/
import Derived.Test.YtfnhaoindehjdaaDoorMade
import Derived.Test.YtfnhaoindehjdaaDoorMkR
import Derived.Test.YtfnhaoindehjdaaDoorAwS
import Derived.Test.YtfnhaoindehjdaaDoorStS
import Derived.Test.YtfnhaoindehjdaaDoorPf
import Derived.Test.YtfnhaoindehjdaaDoorCheck
import Derived.Test.YtfnhaoindehjdaaDoorPk
namespace Go.Proofs.YtfnhaoindehjdaaDoor.staffingSolves
open Go.RowKit
set_option linter.unusedVariables false
set_option linter.unusedSimpArgs false

set_option maxHeartbeats 32000000 in
set_option maxRecDepth 100000 in
theorem walk (r : RwV) (R : Rw) (w : World) (h : RwAt w w.heap.size r R) (hT : Tab w) :
    Calls Tryd.prog 5 #[r.v R] w fun e w' => e = .returned (.bool true) ∧ Below w.heap.size w w' := by
  have hg0 : 0 < w.heap.size := World.block_lt_of_cell? w _ (hT 0 (by omega))
  have mk := fun W (hw : Below w.heap.size w W) => made_any r R W (h.on hw)
  have mf := mkP_few R
  have hc := chkP_mkP R
  have sm := mkP_sm R
  have h4 := mkP_four R
  have hsl := mkP_sols R
  obtain ⟨P, hP⟩ : ∃ P, Hid (P = mkP R) := ⟨_, Lib.hid rfl⟩
  rw [← hP.out] at mf mk hc sm h4 hsl
  have hsv := fun q W (hW : Below w.heap.size w W) (h1 : PrAt W W.heap.size q P) => solve_any q P 0 W h1 (hT.below hW hg0) (fun _ => sm)
  have hva := fun q A n c l W (hW : Below w.heap.size w W) (h1 : PrAt W W.heap.size q P) hl hn hb => Valid_any q P A n c l W h1 hl hn hb (hT.below hW hg0)
  have hck := fun q l Aq nq cq W (hW : Below w.heap.size w W) (h1 : PrAt W W.heap.size q P) h2 h3 h4 => check_any q P Aq nq cq l W h1 h2 h3 h4 (hT.below hW hg0)
  have hz := solveR_zero hc
  have hlen : (solveR P 0).2.1.length ≤ 1000000 := solveR_len hc mf.e1 sm.2 0
  have hval := Lib.hid (fun l => (solsL_mem hc l).1)
  have hpos0 := fun l => nodes_pos (P := P) (l := l) hc
  rw [hsl] at hz hval
  obtain ⟨⟨A1, n1, c1⟩, ⟨A2, n2, c2⟩, ⟨A3, n3, c3⟩, ⟨A4, n4, c4⟩, ⟨A5, n5, c5⟩⟩ := r
  obtain ⟨st, hst⟩ : ∃ st, Hid (st = R.steps) := ⟨_, Lib.hid rfl⟩
  unfold RwV.v Sl.v at mk ⊢
  simp only [] at mk ⊢
  rw [← hst.out] at mk ⊢
  have SM := Lib.hid sm
  have HC := Lib.hid hc
  have H4 := Lib.hid h4
  have HSL := Lib.hid hsl
  have MF := Lib.hid mf
  clear h mf sm hc h4 hsl
  go_enter Tryd.func5, Tryd.ntmps5
  go_wp2_with fail
  have r1 := Blk.new w 25 #[.int .u8 (st : Int), .slice A1 n1 c1, .slice A2 n2 c2, .slice A3 n3 c3, .slice A4 n4 c4, .slice A5 n5 c5]
  have b1 := bAl (Below.refl w.heap.size w) (.cells #[.int .u8 (st : Int), .slice A1 n1 c1, .slice A2 n2 c2, .slice A3 n3 c3, .slice A4 n4 c4, .slice A5 n5 c5] 25)
  generalize (w.alloc (.cells #[.int .u8 (st : Int), .slice A1 n1 c1, .slice A2 n2 c2, .slice A3 n3 c3, .slice A4 n4 c4, .slice A5 n5 c5] 25)) = W0 at r1 b1 ⊢
  refine (awake_any W0 (hT.below b1 hg0)).mono ?_
  rintro e W1 ⟨rfl, ba⟩
  have r2 := r1.on ba
  have b2 := b1.trans (ba.mono b1.size)
  clear r1 b1 ba
  have x0 : W1.cell? ⟨w.heap.size, 0, none⟩ = some (.int .u8 (st : Int)) := (r2.cell 0).trans rfl
  have x1 : W1.cell? ⟨w.heap.size, 1, none⟩ = some (.slice A1 n1 c1) := (r2.cell 1).trans rfl
  have x2 : W1.cell? ⟨w.heap.size, 2, none⟩ = some (.slice A2 n2 c2) := (r2.cell 2).trans rfl
  have x3 : W1.cell? ⟨w.heap.size, 3, none⟩ = some (.slice A3 n3 c3) := (r2.cell 3).trans rfl
  have x4 : W1.cell? ⟨w.heap.size, 4, none⟩ = some (.slice A4 n4 c4) := (r2.cell 4).trans rfl
  have x5 : W1.cell? ⟨w.heap.size, 5, none⟩ = some (.slice A5 n5 c5) := (r2.cell 5).trans rfl
  go_wp2_with fail
  refine (mk W1 b2).mono ?_
  rintro e W2 ⟨⟨⟨E1, i1, j1⟩, ⟨E2, i2, j2⟩, ⟨E3, i3, j3⟩, ⟨E4, i4, j4⟩, ⟨E5, i5, j5⟩⟩, ⟨⟨B1, m1, d1⟩, ⟨B2, m2, d2⟩, ⟨B3, m3, d3⟩, ⟨B4, m4, d4⟩, ⟨B5, m5, d5⟩⟩, AL, nL, cL, rfl, ⟨xs, ms, hq⟩, hpl, oL, hn6, bw2⟩
  have b3 := b2.trans (bw2.mono b2.size)
  simp only [PrV.v, Sl.v]
  clear x0 x1 x2 x3 x4 x5 r2 b2 mk
  have HPL := Lib.hid hpl
  clear hpl
  go_upto_region 4 with (fail)
  have k4 : Blk ((W2.alloc (.cells #[.slice E1 i1 j1, .slice E2 i2 j2, .slice E3 i3 j3, .slice E4 i4 j4, .slice E5 i5 j5] 32)).alloc (.cells #[.slice B1 m1 d1, .slice B2 m2 d2, .slice B3 m3 d3, .slice B4 m4 d4, .slice B5 m5 d5] 36)) W2.heap.size 32 #[.slice E1 i1 j1, .slice E2 i2 j2, .slice E3 i3 j3, .slice E4 i4 j4, .slice E5 i5 j5] := Blk.alloc (Blk.mk' rfl) _
  have bk : Below W2.heap.size W2 ((W2.alloc (.cells #[.slice E1 i1 j1, .slice E2 i2 j2, .slice E3 i3 j3, .slice E4 i4 j4, .slice E5 i5 j5] 32)).alloc (.cells #[.slice B1 m1 d1, .slice B2 m2 d2, .slice B3 m3 d3, .slice B4 m4 d4, .slice B5 m5 d5] 36)) := bAl (bAl (Below.refl _ _) _) _
  generalize ((W2.alloc (.cells #[.slice E1 i1 j1, .slice E2 i2 j2, .slice E3 i3 j3, .slice E4 i4 j4, .slice E5 i5 j5] 32)).alloc (.cells #[.slice B1 m1 d1, .slice B2 m2 d2, .slice B3 m3 d3, .slice B4 m4 d4, .slice B5 m5 d5] 36)) = W4 at k4 bk ⊢
  have b4 := b3.trans (bk.mono b3.size)
  have oq4 := hq.on bk
  have hQ4 := oq4.at
  have oL4 := oL.on bk
  have HLN := Lib.hid oL.len
  clear hq oL b3 bk bw2
  have x0 : W4.cell? ⟨W2.heap.size, 0, none⟩ = some (.slice E1 i1 j1) := (k4.cell 0).trans rfl
  have x1 : W4.cell? ⟨W2.heap.size, 1, none⟩ = some (.slice E2 i2 j2) := (k4.cell 1).trans rfl
  have x2 : W4.cell? ⟨W2.heap.size, 2, none⟩ = some (.slice E3 i3 j3) := (k4.cell 2).trans rfl
  have x3 : W4.cell? ⟨W2.heap.size, 3, none⟩ = some (.slice E4 i4 j4) := (k4.cell 3).trans rfl
  have x4 : W4.cell? ⟨W2.heap.size, 4, none⟩ = some (.slice E5 i5 j5) := (k4.cell 4).trans rfl
  have hsv := hsv ⟨⟨E1, i1, j1⟩, ⟨E2, i2, j2⟩, ⟨E3, i3, j3⟩, ⟨E4, i4, j4⟩, ⟨E5, i5, j5⟩⟩ W4 b4 hQ4
  have hva := fun A n c l => hva ⟨⟨E1, i1, j1⟩, ⟨E2, i2, j2⟩, ⟨E3, i3, j3⟩, ⟨E4, i4, j4⟩, ⟨E5, i5, j5⟩⟩ A n c l
  have hck := hck ⟨⟨E1, i1, j1⟩, ⟨E2, i2, j2⟩, ⟨E3, i3, j3⟩, ⟨E4, i4, j4⟩, ⟨E5, i5, j5⟩⟩
  unfold SolvePost at hsv
  rcases hz with ⟨l, ls, h1, h2⟩ | ⟨h1, nds, sts, h2, _, h3⟩
  · rw [h2] at hsv
    simp only [Option.isSome_some, Option.getD_some] at hsv
    have hvl : ValidB P l = true := hval.out l (by rw [h1]; simp)
    obtain ⟨b, o, A', m', c', rfl, hb, hcell, hO⟩ := oL4.get (i := 0) (l := l) (by rw [h1]; rfl)
    have hnL : nL = ls.length + 1 := by rw [← HLN.out, h1]; rfl
    have hpos : (0 : Int) < (nL : Int) := by omega
    have hposn : 0 < nL := by omega
    have hposd : decide (0 < nL) = true := by simpa using hposn
    have hva := fun A n c => hva A n c l
    rw [hvl] at hva
    have hnl := hO.len
    have hll : l.length ≤ 5 := by rw [(good_of_valid hvl).2.1.len]; exact SM.out.1
    clear hlen hpos0 hval hck h1 h2 hnL HLN oL4 hvl
    unfold PrV.v Sl.v at hsv hva
    simp only [] at hsv hva
    go_wp2_with fail
    refine hsv.mono ?_
    rintro e W5 ⟨Al, nl, cl, An, nn, cn, rfl, ol, ⟨ys, hys, oN⟩, b5⟩
    obtain rfl : ys = [] := List.map_eq_nil_iff.1 hys
    obtain rfl : 0 = nn := oN.len
    have hnl2 := ol.len
    go_upto_region 5 with (fail)
    have bA := bAl b5 (.cells #[.slice An 0 cn] 46)
    have kr := Blk.new W5 46 #[.slice An 0 cn]
    have ol6 := ol.alloc (.cells #[.slice An 0 cn] 46)
    generalize (W5.alloc (.cells #[.slice An 0 cn] 46)) = W6 at bA kr ol6 ⊢
    have b6 := b4.trans (bA.mono b4.size)
    have hQ6 := hQ4.on bA
    have hO6 := hO.on bA
    have k6 := k4.on bA
    have hc6 : W6.cell? ⟨b, o, none⟩ = some (.slice A' m' c') := (bA.cell (p := ⟨b, o, none⟩) hb).trans (by simpa using hcell)
    clear hsv ol oN b5 hcell hO k4 hQ4 bA b4 x0 x1 x2 x3 x4
    have heq := eqT (W := W6) (c := cl) (c2 := c') (l := l) ol6.sees hO6.sees hnl2 hnl (by omega)
    go_wp2_with fail
    refine heq.mono ?_
    rintro e W7 ⟨rfl, q, rfl⟩
    have bq : Below W6.heap.size W6 (W6.drewN q) := below_drewN (Below.refl _ _) q
    generalize W6.drewN q = W7 at bq ⊢
    have b7 := b6.trans (bq.mono b6.size)
    have hQ7 := hQ6.on bq
    have k7 := k6.on bq
    have kr7 := kr.on bq
    have ol7 := ol6.on bq
    have hv7 := hva _ _ cl W7 b7 hQ7 ol7.sees hnl2 (by omega)
    clear heq hva b6 hQ6 k6 kr ol6 hO6 hc6 bq
    have x0 : W7.cell? ⟨W2.heap.size, 0, none⟩ = some (.slice E1 i1 j1) := (k7.cell 0).trans rfl
    have x1 : W7.cell? ⟨W2.heap.size, 1, none⟩ = some (.slice E2 i2 j2) := (k7.cell 1).trans rfl
    have x2 : W7.cell? ⟨W2.heap.size, 2, none⟩ = some (.slice E3 i3 j3) := (k7.cell 2).trans rfl
    have x3 : W7.cell? ⟨W2.heap.size, 3, none⟩ = some (.slice E4 i4 j4) := (k7.cell 3).trans rfl
    have x4 : W7.cell? ⟨W2.heap.size, 4, none⟩ = some (.slice E5 i5 j5) := (k7.cell 4).trans rfl
    go_wp2_with fail
    refine hv7.mono ?_
    rintro e W8 ⟨rfl, b8⟩
    have b9 := b7.trans (b8.mono b7.size)
    have yr := ((kr7.on b8).cell 0).trans rfl
    clear x0 x1 x2 x3 x4 hv7 kr7 k7
    go_wp2_with fail
    go_ret
    exact ⟨rfl, b9⟩
  · rw [h2] at hsv hlen
    simp only [Option.isSome_none, Option.getD_none] at hsv hlen
    have hnds := hpos0 nds h3
    have hck := fun Aq nq cq => hck nds Aq nq cq
    rw [h3] at hck
    have hnL : nL = 0 := by rw [← HLN.out, h1]; rfl
    subst hnL
    clear hpos0 hval hva h1 h2 h3 HLN oL4
    unfold PrV.v Sl.v at hsv hck
    simp only [] at hsv hck
    go_wp2_with fail
    refine hsv.mono ?_
    rintro e W5 ⟨Al, nl, cl, An, nn, cn, rfl, ol, ⟨ys, hys, oN⟩, b5⟩
    obtain rfl : 0 = nl := ol.len
    have hnn : nds.length = nn := by rw [← hys, List.length_map]; exact oN.len
    have hpn : (0 : Int) < (nn : Int) := by omega
    have hpnn : 0 < nn := by omega
    have hpnd : decide (0 < nn) = true := by simpa using hpnn
    go_upto_region 5 with (fail)
    have bA := bAl b5 (.cells #[.slice An nn cn] 46)
    have kr := Blk.new W5 46 #[.slice An nn cn]
    have oN6 := (oN.on (bAl (Below.refl W5.heap.size W5) (.cells #[.slice An nn cn] 46))).atP
    rw [hys] at oN6
    generalize (W5.alloc (.cells #[.slice An nn cn] 46)) = W6 at bA kr oN6 ⊢
    have b6 := b4.trans (bA.mono b4.size)
    have hQ6 := hQ4.on bA
    have k6 := k4.on bA
    have hc6 := hck An nn cn W6 b6 hQ6 oN6 hnn (by omega)
    clear hsv ol oN b5 hck k4 hQ4 bA b4 x0 x1 x2 x3 x4 hys oN6 hnn hnds hlen hQ6
    have yr := (kr.cell 0).trans rfl
    have x0 : W6.cell? ⟨W2.heap.size, 0, none⟩ = some (.slice E1 i1 j1) := (k6.cell 0).trans rfl
    have x1 : W6.cell? ⟨W2.heap.size, 1, none⟩ = some (.slice E2 i2 j2) := (k6.cell 1).trans rfl
    have x2 : W6.cell? ⟨W2.heap.size, 2, none⟩ = some (.slice E3 i3 j3) := (k6.cell 2).trans rfl
    have x3 : W6.cell? ⟨W2.heap.size, 3, none⟩ = some (.slice E4 i4 j4) := (k6.cell 3).trans rfl
    have x4 : W6.cell? ⟨W2.heap.size, 4, none⟩ = some (.slice E5 i5 j5) := (k6.cell 4).trans rfl
    go_wp2_with fail
    refine hc6.mono ?_
    rintro e W7 ⟨rfl, b7⟩
    have b9 := b6.trans (b7.mono b6.size)
    have yr := ((kr.on b7).cell 0).trans rfl
    clear x0 x1 x2 x3 x4 hc6 k6
    go_wp2_with fail
    go_ret
    exact ⟨rfl, b9⟩
end Go.Proofs.YtfnhaoindehjdaaDoor.staffingSolves
