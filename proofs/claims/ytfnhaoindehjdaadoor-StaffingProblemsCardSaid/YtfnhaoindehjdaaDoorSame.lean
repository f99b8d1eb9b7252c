/- arbaclaw42.same, of equal problems. (gensp.py) -/
import Derived.Test.YtfnhaoindehjdaaDoorEqF
import Derived.Test.YtfnhaoindehjdaaDoorEqI
import Derived.Test.YtfnhaoindehjdaaDoorAwS
import Derived.Deep.CutBlock
import Derived.Deep.RegionHeld3
import Derived.Deep.CutRange
namespace Go.Proofs.YtfnhaoindehjdaaDoor
open Go.RowKit
set_option linter.unusedVariables false
set_option linter.unusedSimpArgs false

set_option maxHeartbeats 8000000 in
set_option maxRecDepth 100000 in
theorem same_true (p q : PrV) (P : Pr) (w : World) (hp : PrAt w w.heap.size p P) (hq : PrAt w w.heap.size q P) :
    Calls Tryd.prog 35 #[p.v, q.v] w fun e w' => e = .returned (.bool true) ∧ Below w.heap.size w w' := by
  obtain ⟨⟨A1, n1, c1⟩, ⟨A2, n2, c2⟩, ⟨A3, n3, c3⟩, ⟨A4, n4, c4⟩, ⟨A5, n5, c5⟩⟩ := p
  obtain ⟨⟨D1, m1, d1⟩, ⟨D2, m2, d2⟩, ⟨D3, m3, d3⟩, ⟨D4, m4, d4⟩, ⟨D5, m5, d5⟩⟩ := q
  obtain rfl : n1 = m1 := by have a := hp.l1; have b := hq.l1; simp only at a b; omega
  obtain rfl : n2 = m2 := by have a := hp.l2; have b := hq.l2; simp only at a b; omega
  obtain rfl : n3 = m3 := by have a := hp.l3; have b := hq.l3; simp only at a b; omega
  obtain rfl : n4 = m4 := by have a := hp.l4; have b := hq.l4; simp only at a b; omega
  obtain rfl : n5 = m5 := by have a := hp.l5; have b := hq.l5; simp only at a b; omega
  unfold PrV.v Sl.v
  simp only []
  go_enter Tryd.func35, Tryd.ntmps35
  go_upto_region 1 with (fail)
  have kp : Blk ((w.alloc (.cells #[.slice A1 n1 c1, .slice A2 n2 c2, .slice A3 n3 c3, .slice A4 n4 c4, .slice A5 n5 c5] 32)).alloc (.cells #[.slice D1 n1 d1, .slice D2 n2 d2, .slice D3 n3 d3, .slice D4 n4 d4, .slice D5 n5 d5] 32)) w.heap.size 32 #[.slice A1 n1 c1, .slice A2 n2 c2, .slice A3 n3 c3, .slice A4 n4 c4, .slice A5 n5 c5] := (Blk.new w _ _).alloc _
  have kq : Blk ((w.alloc (.cells #[.slice A1 n1 c1, .slice A2 n2 c2, .slice A3 n3 c3, .slice A4 n4 c4, .slice A5 n5 c5] 32)).alloc (.cells #[.slice D1 n1 d1, .slice D2 n2 d2, .slice D3 n3 d3, .slice D4 n4 d4, .slice D5 n5 d5] 32)) (w.heap.size + 1) 32 #[.slice D1 n1 d1, .slice D2 n2 d2, .slice D3 n3 d3, .slice D4 n4 d4, .slice D5 n5 d5] := Blk.mk' (by simp)
  have bb : Below w.heap.size w ((w.alloc (.cells #[.slice A1 n1 c1, .slice A2 n2 c2, .slice A3 n3 c3, .slice A4 n4 c4, .slice A5 n5 c5] 32)).alloc (.cells #[.slice D1 n1 d1, .slice D2 n2 d2, .slice D3 n3 d3, .slice D4 n4 d4, .slice D5 n5 d5] 32)) := bAl (bAl (Below.refl _ _) _) _
  generalize ((w.alloc (.cells #[.slice A1 n1 c1, .slice A2 n2 c2, .slice A3 n3 c3, .slice A4 n4 c4, .slice A5 n5 c5] 32)).alloc (.cells #[.slice D1 n1 d1, .slice D2 n2 d2, .slice D3 n3 d3, .slice D4 n4 d4, .slice D5 n5 d5] 32)) = W0 at kp kq bb ⊢
  have hp := hp.on bb
  have hq := hq.on bb
  have x0 : W0.cell? ⟨w.heap.size, 0, none⟩ = some (.slice A1 n1 c1) := (kp.cell 0).trans rfl
  have y0 : W0.cell? ⟨w.heap.size + 1, 0, none⟩ = some (.slice D1 n1 d1) := (kq.cell 0).trans rfl
  go_wp2_with fail
  refine (eqSets_true A1 D1 n1 c1 d1 P.elig W0 hp.e1 hq.e1 hp.l1 hp.b1).mono ?_
  rintro e W1 ⟨rfl, bz⟩
  have kp := kp.on bz
  have kq := kq.on bz
  have hp := hp.on bz
  have hq := hq.on bz
  have bb := bb.trans (bz.mono bb.size)
  clear bz x0 y0
  have x1 : W1.cell? ⟨w.heap.size, 1, none⟩ = some (.slice A2 n2 c2) := (kp.cell 1).trans rfl
  have y1 : W1.cell? ⟨w.heap.size + 1, 1, none⟩ = some (.slice D2 n2 d2) := (kq.cell 1).trans rfl
  go_wp2_with fail
  refine (eqP_true A2 D2 n2 c2 d2 P.dif W1 hp.e2 hq.e2 hp.l2 hp.b2).mono ?_
  rintro e W2 ⟨rfl, bz⟩
  have kp := kp.on bz
  have kq := kq.on bz
  have hp := hp.on bz
  have hq := hq.on bz
  have bb := bb.trans (bz.mono bb.size)
  clear bz x1 y1
  have x2 : W2.cell? ⟨w.heap.size, 2, none⟩ = some (.slice A3 n3 c3) := (kp.cell 2).trans rfl
  have y2 : W2.cell? ⟨w.heap.size + 1, 2, none⟩ = some (.slice D3 n3 d3) := (kq.cell 2).trans rfl
  go_wp2_with fail
  refine (eqP_true A3 D3 n3 c3 d3 P.sam W2 hp.e3 hq.e3 hp.l3 hp.b3).mono ?_
  rintro e W3 ⟨rfl, bz⟩
  have kp := kp.on bz
  have kq := kq.on bz
  have hp := hp.on bz
  have hq := hq.on bz
  have bb := bb.trans (bz.mono bb.size)
  clear bz x2 y2
  have x3 : W3.cell? ⟨w.heap.size, 3, none⟩ = some (.slice A4 n4 c4) := (kp.cell 3).trans rfl
  have y3 : W3.cell? ⟨w.heap.size + 1, 3, none⟩ = some (.slice D4 n4 d4) := (kq.cell 3).trans rfl
  go_wp2_with fail
  refine (eqMosts_true A4 D4 n4 c4 d4 P.mst W3 hp.e4 hq.e4 hp.l4 hp.b4).mono ?_
  rintro e W4 ⟨rfl, bz⟩
  have kp := kp.on bz
  have kq := kq.on bz
  have hp := hp.on bz
  have hq := hq.on bz
  have bb := bb.trans (bz.mono bb.size)
  clear bz x3 y3
  have x4 : W4.cell? ⟨w.heap.size, 4, none⟩ = some (.slice A5 n5 c5) := (kp.cell 4).trans rfl
  have y4 : W4.cell? ⟨w.heap.size + 1, 4, none⟩ = some (.slice D5 n5 d5) := (kq.cell 4).trans rfl
  go_wp2_with fail
  refine (eqT (W := W4) (n := n5) (n2 := n5) (c := c5) (c2 := d5) hp.e5 hq.e5 hp.l5 hq.l5 (Nat.le_trans hp.b5 (by omega))).mono ?_
  rintro e W5 ⟨rfl, q, rfl⟩
  have b9 := bb.trans ((below_drewN (Below.refl W4.heap.size W4) q).mono bb.size)
  go_wp2_with fail
  go_ret
  exact ⟨rfl, b9⟩
end Go.Proofs.YtfnhaoindehjdaaDoor
