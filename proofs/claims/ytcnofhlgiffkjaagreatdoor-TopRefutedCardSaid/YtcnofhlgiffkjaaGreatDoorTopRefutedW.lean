/- The walk of TopRefuted. (gentop.py) -/
import Derived.Test.YtcnofhlgiffkjaaGreatDoorLaD
import Derived.Test.YtcnofhlgiffkjaaGreatDoorMkB
import Derived.Test.YtcnofhlgiffkjaaGreatDoorRMk3
import Derived.Test.YtcnofhlgiffkjaaGreatDoorPj
import Derived.Test.YtcnofhlgiffkjaaGreatDoorPm
import Derived.Test.YtcnofhlgiffkjaaGreatDoorPk
import Derived.Test.YtcnofhlgiffkjaaGreatDoorPf
import Derived.Test.YtcnofhlgiffkjaaGreatDoorCheck
import Derived.Test.YtcnofhlgiffkjaaGreatDoorSd
import Derived.Test.YtcnofhlgiffkjaaGreatDoorSc
import Derived.Test.YtcnofhlgiffkjaaGreatDoorEqI
import Derived.Test.YtcnofhlgiffkjaaGreatDoorRead
import Derived.Test.YtcnofhlgiffkjaaGreatDoorByW
import Derived.Test.YtcnofhlgiffkjaaGreatDoorRsP
import Derived.Test.YtcnofhlgiffkjaaGreatDoorRtP
import Derived.Test.YtcnofhlgiffkjaaGreatDoorEqN
import Derived.Deep.CutBlock
namespace Go.Proofs.YtcnofhlgiffkjaaGreatDoor.topRefuted
open Go.RowKit
set_option linter.unusedVariables false
set_option linter.unusedSimpArgs false

theorem bnd4 : ∀ n, n ≤ 5 → bnd 4 n ≤ 9000 := by decide
theorem solveR_few {P : Pr} (hc : chkP P = 0) (h5 : P.elig.length ≤ 5) (h4 : ∀ z : Nat, (memZ (eligA P z)).length ≤ 4) : (solveR P 0).2.1.length ≤ 10000 := by
  have ok := chkP_ok hc
  have hl := (visitF_le (limit := 0) (each := eachS) ok h4 P.fix.length P.fix 0 ⟨[nd0], 0, none⟩ (openN_le _)).1
  have hb : bnd 4 P.fix.length ≤ 9000 := bnd4 _ (by rw [ok.fixl]; exact h5)
  have h1 : ([nd0] : List Nd).length = 1 := rfl
  have hl : (visitF P 0 eachS P.fix.length P.fix 0 ⟨[nd0], 0, none⟩).2.nds.length ≤ 1 + bnd 4 P.fix.length := hl
  unfold solveR
  rw [if_neg (by simpa using hc), if_neg (by omega)]
  split
  · simp
  · split
    · simp
    · exact Nat.le_trans hl (by omega)
theorem eqTT {W : World} {A A2 : Option Addr} {n c n2 c2 : Nat} {l : List Int} (h : Sees W W.heap.size A (l.map iv)) (h2 : Sees W W.heap.size A2 (l.map iv)) (hn : l.length = n) (hn2 : l.length = n2) (hb : n ≤ 140737488355328) :
    Calls Tryz.prog 10 #[.slice A n c, .slice A2 n2 c2] W fun e w' => e = .returned (.bool true) ∧ ∃ q, w' = W.drewN q := by
  have h1 := equalI_any A A2 n c n2 c2 l l W h h2 hn hn2 hb
  rw [show (l == l) = true from by simp] at h1
  exact h1
set_option maxHeartbeats 32000000 in
set_option maxRecDepth 100000 in
theorem walk (r : RwV) (R : Rw) (A : Option Addr) (n c : Nat) (l : List UInt8) (w : World) (h : RwAt w w.heap.size r R) (hl : ArgB w A n c l) (hT : Tab w) :
    Calls Tryz.prog 3 #[r.v R, .slice A n c] w fun e w' => e = .returned (.bool true) ∧ Below w.heap.size w w' := by
  have hg0 : 0 < w.heap.size := World.block_lt_of_cell? w _ (hT 0 (by omega))
  obtain ⟨hsee, hln, hcap, hmax⟩ := hl
  unfold maxLen at hmax
  have Hln := Lib.hid hln
  clear hln
  obtain ⟨zs, hzs⟩ : ∃ x : List Int, Hid (x = l.map fun b => ((b.toNat % 6 : Nat) : Int)) := ⟨_, Lib.hid rfl⟩
  have hzl : Hid (zs.length = n) := Lib.hid (by rw [hzs.out, List.length_map, Hln.out])
  have mk := fun W (hw : Below w.heap.size w W) => rmake_any r R W (h.on hw)
  have mf := mkP_few R
  have hc := chkP_mkP R
  have h32 := mkP_32 R
  have sm := mkP_sm R
  have h4 := mkP_four R
  have hsl := mkP_sols R
  obtain ⟨P, hP⟩ : ∃ P, Hid (P = mkP R) := ⟨_, Lib.hid rfl⟩
  rw [← hP.out] at mf mk hc h32 sm h4 hsl
  have okP := chkP_ok hc
  have me1 := mf.e1
  have hz := solveR_zero hc
  have hfew := solveR_few hc me1 h4
  have hval := Lib.hid (fun l => (solsL_mem hc l).1)
  have hnv := Lib.hid (fun (h0 : solsL P = []) l => no_valid hc h0 l)
  have rsm := Lib.hid (fun (l : List Nd) (sts : List (List Int)) (h : RefOk P l sts) (hn : l.length ≤ 10000) => ref_small h okP me1 (mem5 h32) hn)
  have hcount := count_10000 hc sm
  obtain ⟨N0, hN0⟩ : ∃ N0, Hid (N0 = (allL P).length) := ⟨_, Lib.hid rfl⟩
  rw [hsl] at hz hval hnv hcount
  rw [← hN0.out] at hcount
  have hsv := fun q W (hW : Below w.heap.size w W) (h1 : PrAt W W.heap.size q P) => solve_any q P 0 W h1 (hT.below hW hg0) (fun _ => sm)
  have hcn := fun q W (hW : Below w.heap.size w W) (h1 : PrAt W W.heap.size q P) => count_any q P 10000 W h1 (hT.below hW hg0) (fun _ => sm)
  have hva := fun q A n c l W (hW : Below w.heap.size w W) (h1 : PrAt W W.heap.size q P) hl hn hb => Valid_any q P A n c l W h1 hl hn hb (hT.below hW hg0)
  have hck := fun q l Aq nq cq W (hW : Below w.heap.size w W) (h1 : PrAt W W.heap.size q P) h2 h3 h4 => check_any q P Aq nq cq l W h1 h2 h3 h4 (hT.below hW hg0)
  have hall := fun q W (h1 : RPrAt W W.heap.size q P) => all_any q P W h1 me1
  rw [hcount] at hcn
  obtain ⟨sr, hsr⟩ : ∃ sr, Hid (sr = solveR P 0) := ⟨_, Lib.hid rfl⟩
  rw [← hsr.out] at hz hfew hsv
  unfold SolvePost at hsv
  obtain ⟨⟨A1, n1, c1⟩, ⟨A2, n2, c2⟩, ⟨A3, n3, c3⟩, ⟨A4, n4, c4⟩, ⟨A5, n5, c5⟩⟩ := r
  obtain ⟨st, hst⟩ : ∃ st, Hid (st = R.steps) := ⟨_, Lib.hid rfl⟩
  unfold RwV.v Sl.v at mk ⊢
  simp only [] at mk ⊢
  rw [← hst.out] at mk ⊢
  have HZ := Lib.hid hz
  have MF := Lib.hid mf
  clear h mf sm hc h4 hsl h32 hz okP hcount
  go_enter Tryz.func3, Tryz.ntmps3
  go_wp2_with fail
  have r1 := Blk.new w 25 #[.int .u8 (st : Int), .slice A1 n1 c1, .slice A2 n2 c2, .slice A3 n3 c3, .slice A4 n4 c4, .slice A5 n5 c5]
  have b1 := bAl (Below.refl w.heap.size w) (.cells #[.int .u8 (st : Int), .slice A1 n1 c1, .slice A2 n2 c2, .slice A3 n3 c3, .slice A4 n4 c4, .slice A5 n5 c5] 25)
  generalize (w.alloc (.cells #[.int .u8 (st : Int), .slice A1 n1 c1, .slice A2 n2 c2, .slice A3 n3 c3, .slice A4 n4 c4, .slice A5 n5 c5] 25)) = W0 at r1 b1 ⊢
  refine (awake23_any W0 (hT.below b1 hg0)).mono ?_
  rintro e W1 ⟨rfl, ba⟩
  have r2 := r1.on ba
  have b2 := b1.trans (ba.mono b1.size)
  clear r1 b1 ba
  have x0 : W1.cell? ⟨w.heap.size, 0, none⟩ = some (.int .u8 (st : Int)) := (r2.cell 0).trans rfl
  have x1 : W1.cell? ⟨w.heap.size, 1, none⟩ = some (.slice A1 n1 c1) := (r2.cell 1).trans rfl
  have x2 : W1.cell? ⟨w.heap.size, 2, none⟩ = some (.slice A2 n2 c2) := (r2.cell 2).trans rfl
  have x3 : W1.cell? ⟨w.heap.size, 3, none⟩ = some (.slice A3 n3 c3) := (r2.cell 3).trans rfl
  have x4 : W1.cell? ⟨w.heap.size, 4, none⟩ = some (.slice A4 n4 c4) := (r2.cell 4).trans rfl
  have x5 : W1.cell? ⟨w.heap.size, 5, none⟩ = some (.slice A5 n5 c5) := (r2.cell 5).trans rfl
  go_wp2_with fail
  refine (mk W1 b2).mono ?_
  rintro e W2 ⟨⟨⟨B1, m1, d1⟩, ⟨B2, m2, d2⟩, ⟨B3, m3, d3⟩, ⟨B4, m4, d4⟩, ⟨B5, m5, d5⟩⟩, rfl, hO, bw2⟩
  have b3 := b2.trans (bw2.mono b2.size)
  simp only [PrV.v, Sl.v]
  have hO := hO.at
  clear x0 x1 x2 x3 x4 x5 r2 b2 mk bw2
  go_upto_region 4 with (fail)
  have kT := Blk.new W2 32 #[.slice B1 m1 d1, .slice B2 m2 d2, .slice B3 m3 d3, .slice B4 m4 d4, .slice B5 m5 d5]
  have bT := bAl (Below.refl W2.heap.size W2) (.cells #[.slice B1 m1 d1, .slice B2 m2 d2, .slice B3 m3 d3, .slice B4 m4 d4, .slice B5 m5 d5] 32)
  have hO3 := hO.on bT
  have b4 := b3.trans (bT.mono b3.size)
  obtain ⟨gt, hgt⟩ : ∃ gt, gt = W2.heap.size := ⟨_, rfl⟩
  rw [← hgt] at kT ⊢
  clear hgt
  generalize (W2.alloc (.cells #[.slice B1 m1 d1, .slice B2 m2 d2, .slice B3 m3 d3, .slice B4 m4 d4, .slice B5 m5 d5] 32)) = W3 at kT hO3 b4 ⊢
  clear hO b3 bT
  have y0 : W3.cell? ⟨gt, 0, none⟩ = some (.slice B1 m1 d1) := (kT.cell 0).trans rfl
  have y1 : W3.cell? ⟨gt, 1, none⟩ = some (.slice B2 m2 d2) := (kT.cell 1).trans rfl
  have y2 : W3.cell? ⟨gt, 2, none⟩ = some (.slice B3 m3 d3) := (kT.cell 2).trans rfl
  have y3 : W3.cell? ⟨gt, 3, none⟩ = some (.slice B4 m4 d4) := (kT.cell 3).trans rfl
  have y4 : W3.cell? ⟨gt, 4, none⟩ = some (.slice B5 m5 d5) := (kT.cell 4).trans rfl
  have hmk := mkp_any ⟨⟨B1, m1, d1⟩, ⟨B2, m2, d2⟩, ⟨B3, m3, d3⟩, ⟨B4, m4, d4⟩, ⟨B5, m5, d5⟩⟩ P W3 hO3
  unfold PrV.v Sl.v at hmk
  simp only [] at hmk
  go_wp2_with fail
  refine hmk.mono ?_
  rintro e W4 ⟨⟨⟨E1, i1, j1⟩, ⟨E2, i2, j2⟩, ⟨E3, i3, j3⟩, ⟨E4, i4, j4⟩, ⟨E5, i5, j5⟩⟩, rfl, hQ, bw4⟩
  have b5 := b4.trans (bw4.mono b4.size)
  have kT4 := kT.on bw4
  have hO4 := hO3.on bw4
  clear y0 y1 y2 y3 y4 kT hO3 b4 bw4 hmk
  simp only [PrV.v, Sl.v]
  go_upto_region 5 with (fail)
  have kP := Blk.new W4 37 #[.slice E1 i1 j1, .slice E2 i2 j2, .slice E3 i3 j3, .slice E4 i4 j4, .slice E5 i5 j5]
  have bP := bAl (Below.refl W4.heap.size W4) (.cells #[.slice E1 i1 j1, .slice E2 i2 j2, .slice E3 i3 j3, .slice E4 i4 j4, .slice E5 i5 j5] 37)
  have hQ5 := hQ.on bP
  have kT5 := kT4.on bP
  have hO5 := hO4.on bP
  have b6 := b5.trans (bP.mono b5.size)
  obtain ⟨gp, hgp⟩ : ∃ gp, gp = W4.heap.size := ⟨_, rfl⟩
  rw [← hgp] at kP ⊢
  clear hgp
  generalize (W4.alloc (.cells #[.slice E1 i1 j1, .slice E2 i2 j2, .slice E3 i3 j3, .slice E4 i4 j4, .slice E5 i5 j5] 37)) = W5 at kP hQ5 kT5 hO5 b6 ⊢
  clear hQ kT4 hO4 b5 bP
  have hl1 : P.elig.length = i1 := hQ5.l1
  have HL1 := Lib.hid hl1
  have hi5 : i1 ≤ 5 := by rw [← hl1]; exact me1
  clear hl1
  obtain ⟨m, hm⟩ : ∃ m : Nat, Hid (m = min n i1) := ⟨_, Lib.hid rfl⟩
  have hm5 : m ≤ 5 := by have := hm.out; omega
  have hmn : m ≤ n := by have := hm.out; omega
  have hmin : min (n : Int) (i1 : Int) = (m : Int) := by have := hm.out; omega
  have hnb : (n : Int) ≤ 9223372036854775807 := by omega
  have hmc : (m : Int) ≤ (c : Int) := by omega
  have hsv := hsv ⟨⟨E1, i1, j1⟩, ⟨E2, i2, j2⟩, ⟨E3, i3, j3⟩, ⟨E4, i4, j4⟩, ⟨E5, i5, j5⟩⟩ W5 b6 hQ5
  have hcn := hcn ⟨⟨E1, i1, j1⟩, ⟨E2, i2, j2⟩, ⟨E3, i3, j3⟩, ⟨E4, i4, j4⟩, ⟨E5, i5, j5⟩⟩
  have hva := hva ⟨⟨E1, i1, j1⟩, ⟨E2, i2, j2⟩, ⟨E3, i3, j3⟩, ⟨E4, i4, j4⟩, ⟨E5, i5, j5⟩⟩
  have hck := hck ⟨⟨E1, i1, j1⟩, ⟨E2, i2, j2⟩, ⟨E3, i3, j3⟩, ⟨E4, i4, j4⟩, ⟨E5, i5, j5⟩⟩
  have hall := hall ⟨⟨B1, m1, d1⟩, ⟨B2, m2, d2⟩, ⟨B3, m3, d3⟩, ⟨B4, m4, d4⟩, ⟨B5, m5, d5⟩⟩
  unfold PrV.v Sl.v at hsv hcn hva hck hall
  simp only [] at hsv hcn hva hck hall
  have x0 : W5.cell? ⟨gp, 0, none⟩ = some (.slice E1 i1 j1) := (kP.cell 0).trans rfl
  have x1 : W5.cell? ⟨gp, 1, none⟩ = some (.slice E2 i2 j2) := (kP.cell 1).trans rfl
  have x2 : W5.cell? ⟨gp, 2, none⟩ = some (.slice E3 i3 j3) := (kP.cell 2).trans rfl
  have x3 : W5.cell? ⟨gp, 3, none⟩ = some (.slice E4 i4 j4) := (kP.cell 3).trans rfl
  have x4 : W5.cell? ⟨gp, 4, none⟩ = some (.slice E5 i5 j5) := (kP.cell 4).trans rfl
  go_wp2_with fail
  refine hsv.mono ?_
  rintro e W6 ⟨Al, nl, cl, An, nn, cn, rfl, ol, ⟨ys, hys, oN⟩, bw6⟩
  have hnl2 := ol.len
  have hnn : sr.2.1.length = nn := by rw [← hys, List.length_map]; exact oN.len
  go_upto_region 6 with (fail)
  have bA := bAl bw6 (.cells #[.slice An nn cn] 41)
  have kr := Blk.new W6 41 #[.slice An nn cn]
  have ol6 := ol.alloc (.cells #[.slice An nn cn] 41)
  have oN6 := (oN.on (bAl (Below.refl W6.heap.size W6) (.cells #[.slice An nn cn] 41))).atP
  rw [hys] at oN6
  obtain ⟨gr, hgr⟩ : ∃ gr, gr = W6.heap.size := ⟨_, rfl⟩
  rw [← hgr] at kr ⊢
  clear hgr
  generalize (W6.alloc (.cells #[.slice An nn cn] 41)) = W7 at bA kr ol6 oN6 ⊢
  have b7 := b6.trans (bA.mono b6.size)
  have hQ7 := hQ5.on bA
  have kP7 := kP.on bA
  have kT7 := kT5.on bA
  have hO7 := hO5.on bA
  clear hsv ol oN bw6 kP hQ5 kT5 hO5 bA b6 x0 x1 x2 x3 x4 hys
  have hcn := hcn W7 b7 hQ7
  have x0 : W7.cell? ⟨gp, 0, none⟩ = some (.slice E1 i1 j1) := (kP7.cell 0).trans rfl
  have x1 : W7.cell? ⟨gp, 1, none⟩ = some (.slice E2 i2 j2) := (kP7.cell 1).trans rfl
  have x2 : W7.cell? ⟨gp, 2, none⟩ = some (.slice E3 i3 j3) := (kP7.cell 2).trans rfl
  have x3 : W7.cell? ⟨gp, 3, none⟩ = some (.slice E4 i4 j4) := (kP7.cell 3).trans rfl
  have x4 : W7.cell? ⟨gp, 4, none⟩ = some (.slice E5 i5 j5) := (kP7.cell 4).trans rfl
  go_wp2_with fail
  refine hcn.mono ?_
  rintro e W8 ⟨rfl, bw8⟩
  have b8 := b7.trans (bw8.mono b7.size)
  have hQ8 := hQ7.on bw8
  have kP8 := kP7.on bw8
  have kT8 := kT7.on bw8
  have hO8 := hO7.on bw8
  have kr8 := kr.on bw8
  have ol8 := ol6.on bw8
  have oN8 := (NodesAt.below oN6 bw8).more bw8.size
  clear hcn hQ7 kP7 kT7 hO7 kr ol6 oN6 b7 x0 x1 x2 x3 x4 bw8
  have hall := hall W8 hO8
  have y0 : W8.cell? ⟨gt, 0, none⟩ = some (.slice B1 m1 d1) := (kT8.cell 0).trans rfl
  have y1 : W8.cell? ⟨gt, 1, none⟩ = some (.slice B2 m2 d2) := (kT8.cell 1).trans rfl
  have y2 : W8.cell? ⟨gt, 2, none⟩ = some (.slice B3 m3 d3) := (kT8.cell 2).trans rfl
  have y3 : W8.cell? ⟨gt, 3, none⟩ = some (.slice B4 m4 d4) := (kT8.cell 3).trans rfl
  have y4 : W8.cell? ⟨gt, 4, none⟩ = some (.slice B5 m5 d5) := (kT8.cell 4).trans rfl
  go_wp2_with fail
  refine hall.mono ?_
  rintro e W9 ⟨AL, nL, cL, rfl, oL, hn6, bw9⟩
  have b9 := b8.trans (bw9.mono b8.size)
  have hQ9 := hQ8.on bw9
  have kP9 := kP8.on bw9
  have kr9 := kr8.on bw9
  have ol9 := ol8.on bw9
  have oN9 := (NodesAt.below oN8 bw9).more bw9.size
  obtain rfl : N0 = nL := by rw [hN0.out]; exact oL.len
  clear hall hQ8 kP8 kT8 hO8 kr8 ol8 oN8 b8 y0 y1 y2 y3 y4 bw9
  rcases HZ.out with ⟨l1, ls, h1, h2⟩ | ⟨h1, nds, sts, h2, h3, h4⟩
  · subst h2
    simp only [Option.getD_some, Option.isSome_some] at *
    have hvl : ValidB P l1 = true := hval.out l1 (by rw [h1]; simp)
    obtain ⟨b, o, A', m', c', rfl, hb, hcell, hO⟩ := oL.get (i := 0) (l := l1) (by rw [h1]; rfl)
    have hnL : N0 = ls.length + 1 := by rw [hN0.out, h1]; rfl
    have hpos : (0 : Int) < (N0 : Int) := by omega
    have hposn : 0 < N0 := by omega
    have hposd : decide (0 < N0) = true := by simpa using hposn
    have hva := fun A n c => hva A n c l1
    rw [hvl] at hva
    have hnl := hO.len
    have hO9 := hO.sees
    have hll : l1.length ≤ 5 := by rw [(good_of_valid hvl).2.1.len]; exact me1
    clear hfew hval h1 hnL oL hvl hck oN9 hO hnv rsm
    go_upto_region 11 with fail
    have yE : W9.cell? ⟨gp, 0, none⟩ = some (.slice E1 i1 j1) := (kP9.cell 0).trans rfl
    go_wp2_with fail
    go_loopw [14, 68] (fun v14 v68 wr => ∃ (k cc : Nat) (Ak : Option Addr), k ≤ m ∧ v68 = .int .i64 (k : Int) ∧ v14 = .slice Ak k cc ∧ OwnI wr W9.heap.size (.slice Ak k cc) k (zs.take k) ∧ Below W9.heap.size W9 wr) (fun _ v68 _ => m - (intOf v68).toNat)
    case atStart => exact ⟨0, 0, none, Nat.zero_le _, rfl, rfl, OwnI.nil _ _, Below.refl _ _⟩
    case round =>
      clear hmin yE
      obtain ⟨k, cc, Ak, hk, rfl, rfl, hI, hB⟩ := hrel
      by_cases hlt : k < m
      · have hlt' : (k : Int) < (m : Int) := by omega
        obtain ⟨b9', o9', y, rfl, hb9', Hz, hcz⟩ := Sees.byte (k := k) (hsee.below (b9.trans (hB.mono b9.size))) (by rw [Hln.out]; omega)
        obtain ⟨q, hq⟩ : ∃ q : Nat, Hid (q = y.toNat % 6) := ⟨_, Lib.hid rfl⟩
        have hq6 : q < 6 := by have := hq.out; omega
        have HT2 : Hid (zs.take (k + 1) = zs.take k ++ [(q : Int)]) := Lib.hid (by rw [List.take_add_one, hzs.out, List.getElem?_map, Hz.out, hq.out]; rfl)
        have hyt : (y.toNat : Int).tmod 6 = (q : Int) := by rw [Int.tmod_eq_emod_of_nonneg (by omega)]; have := hq.out; omega
        have hyy := y.toNat_lt
        go_wp2_with (at_builtin; refine wpL_appI1 _ rfl (.tmp 72) (.tmp 76) rfl wr W9.heap.size _ k _ rfl hI (q : Int) rfl _ rfl rfl (by omega) hB.size (k + 1) rfl ?_; intro A9 c9 w9 o9 g9 b9'')
        go_roundw
        case rel => exact ⟨k + 1, c9, A9, by omega, by go_num, rfl, by rw [HT2.out]; exact o9, hB.trans b9''⟩
        case measure => simp [intOf]; omega
      · obtain rfl : k = m := by omega
        have hlt' : ¬ (k : Int) < (k : Int) := by omega
        have kP10 := kP9.on hB
        have kr10 := kr9.on hB
        have hQ10 := hQ9.on hB
        have b10 := b9.trans (hB.mono b9.size)
        have ol10 := ol9.on hB
        have hc10 : wr.cell? ⟨b, o, none⟩ = some (.slice A' m' c') := (hB.cell (p := ⟨b, o, none⟩) hb).trans (by simpa using hcell)
        have hO10 := hO9.on hB
        have heq := eqTT (W := wr) (c := cl) (c2 := c') (l := l1) ol10.sees hO10 hnl2 hnl (by omega)
        go_wp2_with fail
        refine heq.mono ?_
        rintro e W11 ⟨rfl, q, rfl⟩
        have bq : Below wr.heap.size wr (wr.drewN q) := below_drewN (Below.refl _ _) q
        generalize wr.drewN q = W11 at bq ⊢
        have b11 := b10.trans (bq.mono b10.size)
        have hQ11 := hQ10.on bq
        have kP11 := kP10.on bq
        have ol11 := ol10.on bq
        have hv11 := hva _ _ cl W11 b11 hQ11 ol11.sees hnl2 (by omega)
        have x0 : W11.cell? ⟨gp, 0, none⟩ = some (.slice E1 i1 j1) := (kP11.cell 0).trans rfl
        have x1 : W11.cell? ⟨gp, 1, none⟩ = some (.slice E2 i2 j2) := (kP11.cell 1).trans rfl
        have x2 : W11.cell? ⟨gp, 2, none⟩ = some (.slice E3 i3 j3) := (kP11.cell 2).trans rfl
        have x3 : W11.cell? ⟨gp, 3, none⟩ = some (.slice E4 i4 j4) := (kP11.cell 3).trans rfl
        have x4 : W11.cell? ⟨gp, 4, none⟩ = some (.slice E5 i5 j5) := (kP11.cell 4).trans rfl
        go_wp2_with fail
        refine hv11.mono ?_
        rintro e W12 ⟨rfl, b12⟩
        go_wp2_with fail
        go_ret
        exact ⟨rfl, b11.trans (b12.mono b11.size)⟩
  · subst h2
    simp only [Option.getD_none, Option.isSome_none] at *
    have hn10 : nds.length ≤ 10000 := hfew
    obtain ⟨hsm, hok, htot, hbl, hblen⟩ := rsm.out nds sts h3 hn10
    have hrt := rdN_enc hok (by omega)
    have hinv : Hid (ValidB P (zs.take m) = false) := Lib.hid (hnv.out h1 _)
    have hN00 : N0 = 0 := by rw [hN0.out, h1]; rfl
    have hz0 : ¬ 0 < N0 := by omega
    have hz0i : ¬ (0 : Int) < (N0 : Int) := by omega
    have hz0d : decide (0 < N0) = false := by simpa using hN00
    clear hN00
    have hchk := Lib.hid h4
    have HRT := Lib.hid hrt
    obtain ⟨LQ, hLQ⟩ : ∃ L, Hid (L = bytesL nds) := ⟨_, Lib.hid rfl⟩
    rw [← hLQ.out] at hblen
    have HBL := Lib.hid hblen
    have HTOT := Lib.hid htot
    have HNN := Lib.hid hnn
    have hnn6 : nn ≤ 10000 := by omega
    clear hfew hval h1 oL hsm hok hbl h3 hnv rsm h4 hrt hblen htot hnn hN0
    go_upto_region 11 with fail
    have yE : W9.cell? ⟨gp, 0, none⟩ = some (.slice E1 i1 j1) := (kP9.cell 0).trans rfl
    go_wp2_with fail
    go_loopw [14, 68] (fun v14 v68 wr => ∃ (k cc : Nat) (Ak : Option Addr), k ≤ m ∧ v68 = .int .i64 (k : Int) ∧ v14 = .slice Ak k cc ∧ OwnI wr W9.heap.size (.slice Ak k cc) k (zs.take k) ∧ Below W9.heap.size W9 wr) (fun _ v68 _ => m - (intOf v68).toNat)
    case atStart => exact ⟨0, 0, none, Nat.zero_le _, rfl, rfl, OwnI.nil _ _, Below.refl _ _⟩
    case round =>
      clear hmin yE
      obtain ⟨k, cc, Ak, hk, rfl, rfl, hI, hB⟩ := hrel
      by_cases hlt : k < m
      · have hlt' : (k : Int) < (m : Int) := by omega
        obtain ⟨b9', o9', y, rfl, hb9', Hz, hcz⟩ := Sees.byte (k := k) (hsee.below (b9.trans (hB.mono b9.size))) (by rw [Hln.out]; omega)
        obtain ⟨q, hq⟩ : ∃ q : Nat, Hid (q = y.toNat % 6) := ⟨_, Lib.hid rfl⟩
        have hq6 : q < 6 := by have := hq.out; omega
        have HT2 : Hid (zs.take (k + 1) = zs.take k ++ [(q : Int)]) := Lib.hid (by rw [List.take_add_one, hzs.out, List.getElem?_map, Hz.out, hq.out]; rfl)
        have hyt : (y.toNat : Int).tmod 6 = (q : Int) := by rw [Int.tmod_eq_emod_of_nonneg (by omega)]; have := hq.out; omega
        have hyy := y.toNat_lt
        go_wp2_with (at_builtin; refine wpL_appI1 _ rfl (.tmp 72) (.tmp 76) rfl wr W9.heap.size _ k _ rfl hI (q : Int) rfl _ rfl rfl (by omega) hB.size (k + 1) rfl ?_; intro A9 c9 w9 o9 g9 b9'')
        go_roundw
        case rel => exact ⟨k + 1, c9, A9, by omega, by go_num, rfl, by rw [HT2.out]; exact o9, hB.trans b9''⟩
        case measure => simp [intOf]; omega
      · obtain rfl : k = m := by omega
        have hlt' : ¬ (k : Int) < (k : Int) := by omega
        have kP10 := kP9.on hB
        have kr10 := kr9.on hB
        have hQ10 := hQ9.on hB
        have b10 := b9.trans (hB.mono b9.size)
        have oN10 := (NodesAt.below oN9 hB).more hB.size
        have hc10 := hck nds An nn cn wr b10 hQ10 oN10 HNN.out (by omega)
        rw [hchk.out] at hc10
        have yr := (kr10.cell 0).trans rfl
        have x0 : wr.cell? ⟨gp, 0, none⟩ = some (.slice E1 i1 j1) := (kP10.cell 0).trans rfl
        have x1 : wr.cell? ⟨gp, 1, none⟩ = some (.slice E2 i2 j2) := (kP10.cell 1).trans rfl
        have x2 : wr.cell? ⟨gp, 2, none⟩ = some (.slice E3 i3 j3) := (kP10.cell 2).trans rfl
        have x3 : wr.cell? ⟨gp, 3, none⟩ = some (.slice E4 i4 j4) := (kP10.cell 3).trans rfl
        have x4 : wr.cell? ⟨gp, 4, none⟩ = some (.slice E5 i5 j5) := (kP10.cell 4).trans rfl
        go_wp2_with fail
        refine hc10.mono ?_
        rintro e W11 ⟨rfl, bw11⟩
        have b11 := b10.trans (bw11.mono b10.size)
        have hQ11 := hQ10.on bw11
        have kP11 := kP10.on bw11
        have kr11 := kr10.on bw11
        have oN11 := (NodesAt.below oN10 bw11).more bw11.size
        have hI11 := hI.on bw11
        clear x0 x1 x2 x3 x4 yr hc10 hQ10 kP10 kr10 oN10 b10 hck
        have yr : W11.cell? ⟨gr, 0, none⟩ = some (.slice An nn cn) := (kr11.cell 0).trans rfl
        have hby := pBytes_any An nn cn nds W11 oN11 HNN.out (by have := HTOT.out; omega) (by omega)
        rw [← hLQ.out] at hby
        go_wp2_with fail
        refine hby.mono ?_
        rintro e W12 ⟨Aq, cq, rfl, oq, bw12⟩
        have b12 := b11.trans (bw12.mono b11.size)
        have hQ12 := hQ11.on bw12
        have kP12 := kP11.on bw12
        have kr12 := kr11.on bw12
        have oN12 := (NodesAt.below oN11 bw12).more bw12.size
        have hI12 := hI11.on bw12
        clear hby hQ11 kP11 kr11 oN11 hI11 b11 yr
        have HR := Lib.hid (read_walk Aq LQ.length cq LQ W12 oq.sees rfl HBL.out)
        have hrd := HR.out
        rw [hLQ.out, HRT.out.1, HRT.out.2, ← hLQ.out] at hrd
        unfold RdPost at hrd
        simp only [if_true] at hrd
        go_wp2_with fail
        refine hrd.mono ?_
        rintro e W13 ⟨A7, n7, c7, rfl, hgood, _, hn76, bw13⟩
        obtain ⟨ys7, hy7, o7⟩ := hgood trivial
        have hn7 : nds.length = n7 := by rw [← hy7, List.length_map]; exact o7.len
        have b13 := b12.trans (bw13.mono b12.size)
        have hQ13 := hQ12.on bw13
        have kP13 := kP12.on bw13
        have kr13 := kr12.on bw13
        have oN13 := (NodesAt.below oN12 bw13).more bw13.size
        have hI13 := hI12.on bw13
        clear hrd hgood hQ12 kP12 kr12 oN12 hI12 b12
        go_upto_region 20 with fail
        have ky := Blk.new W13 41 #[.slice A7 n7 c7]
        have by8 := bAl (Below.refl W13.heap.size W13) (.cells #[.slice A7 n7 c7] 41)
        have o78 := (o7.on by8).atP
        rw [hy7] at o78
        obtain ⟨gy, hgy⟩ : ∃ gy, gy = W13.heap.size := ⟨_, rfl⟩
        rw [← hgy] at ky ⊢
        clear hgy
        generalize (W13.alloc (.cells #[.slice A7 n7 c7] 41)) = W14 at ky by8 o78 ⊢
        have b14 := b13.trans (by8.mono b13.size)
        have hQ14 := hQ13.on by8
        have kP14 := kP13.on by8
        have kr14 := kr13.on by8
        have oN14 := (NodesAt.below oN13 by8).more by8.size
        have hI14 := hI13.on by8
        clear hQ13 kP13 kr13 oN13 hI13 b13 by8 o7 hy7
        have hq := requal_any A7 An n7 c7 nn cn nds nds W14 o78 oN14 hn7 HNN.out (by omega)
        rw [show decide (nds = nds) = true by simp] at hq
        have yr : W14.cell? ⟨gr, 0, none⟩ = some (.slice An nn cn) := (kr14.cell 0).trans rfl
        have yy : W14.cell? ⟨gy, 0, none⟩ = some (.slice A7 n7 c7) := (ky.cell 0).trans rfl
        go_wp2_with fail
        refine hq.mono ?_
        rintro e W15 ⟨rfl, bw15⟩
        have b15 := b14.trans (bw15.mono b14.size)
        have hQ15 := hQ14.on bw15
        have kP15 := kP14.on bw15
        have hI15 := hI14.on bw15
        clear hq hQ14 kP14 kr14 oN14 hI14 b14 yr yy ky o78
        have hv15 := hva Ak k cc (zs.take k) W15 b15 hQ15 hI15.sees (by rw [List.length_take, hzl.out]; omega) (by omega)
        rw [hinv.out] at hv15
        have x0 : W15.cell? ⟨gp, 0, none⟩ = some (.slice E1 i1 j1) := (kP15.cell 0).trans rfl
        have x1 : W15.cell? ⟨gp, 1, none⟩ = some (.slice E2 i2 j2) := (kP15.cell 1).trans rfl
        have x2 : W15.cell? ⟨gp, 2, none⟩ = some (.slice E3 i3 j3) := (kP15.cell 2).trans rfl
        have x3 : W15.cell? ⟨gp, 3, none⟩ = some (.slice E4 i4 j4) := (kP15.cell 3).trans rfl
        have x4 : W15.cell? ⟨gp, 4, none⟩ = some (.slice E5 i5 j5) := (kP15.cell 4).trans rfl
        go_wp2_with fail
        refine hv15.mono ?_
        rintro e W16 ⟨rfl, bw16⟩
        go_wp2_with fail
        go_ret
        exact ⟨rfl, b15.trans (bw16.mono b15.size)⟩
end Go.Proofs.YtcnofhlgiffkjaaGreatDoor.topRefuted
