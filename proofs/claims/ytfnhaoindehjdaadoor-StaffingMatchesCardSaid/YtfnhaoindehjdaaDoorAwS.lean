/- The walk of layer 42's examples. (genaws.py) -/
import Derived.Test.YtfnhaoindehjdaaDoorAwP
import Derived.Test.YtfnhaoindehjdaaDoorSf
import Derived.Test.YtfnhaoindehjdaaDoorEqI
namespace Go.Proofs.YtfnhaoindehjdaaDoor
open Go.RowKit
set_option linter.unusedVariables false
set_option linter.unusedSimpArgs false

theorem prQ1 {W : World} {g g1 g2 g3 : Nat} {Aa Ab Ac : Option Addr} {na ca nb cb nc cc : Nat} (sa : SetAt W W.heap.size (.agg #[.slice Aa na ca]) (ofL [1, 2])) (sb : SetAt W W.heap.size (.agg #[.slice Ab nb cb]) (ofL [1, 2])) (sc : SetAt W W.heap.size (.agg #[.slice Ac nc cc]) (ofL [1, 2, 3]))
    (k1 : Blk W g 63 #[.slice Aa na ca, .slice Ab nb cb, .slice Ac nc cc]) (k2 : Blk W g1 66 #[.int .i64 0, .int .i64 1]) (k4 : Blk W g2 66 #[.int .i64 1, .int .i64 2]) (k3 : Blk W g3 3 #[.int .i64 0, .int .i64 0, .int .i64 0]) :
    PrAt W W.heap.size ⟨⟨some ⟨g, 0, none⟩, 3, 3⟩, ⟨some ⟨g1, 0, none⟩, 1, 1⟩, ⟨some ⟨g2, 0, none⟩, 1, 1⟩, ⟨none, 0, 0⟩, ⟨some ⟨g3, 0, none⟩, 3, 3⟩⟩ awQ1 :=
  ⟨rfl, rfl, rfl, rfl, rfl, SetsAt.blk k1 (get3 ⟨_, rfl, sa⟩ ⟨_, rfl, sb⟩ ⟨_, rfl, sc⟩), PairsAt.blk k2 (get1 ⟨rfl, rfl⟩), PairsAt.blk k4 (get1 ⟨rfl, rfl⟩), MostAt.nil _ _ _, Blk.sees (xs := [.int .i64 0, .int .i64 0, .int .i64 0]) k3, by simp, by simp, by simp, by simp, by simp, by simp⟩
theorem prQ2 {W : World} {g g1 g3 : Nat} {Aa Ab Ac : Option Addr} {na ca nb cb nc cc : Nat} (sa : SetAt W W.heap.size (.agg #[.slice Aa na ca]) (ofL [1, 2])) (sb : SetAt W W.heap.size (.agg #[.slice Ab nb cb]) (ofL [1, 2])) (sc : SetAt W W.heap.size (.agg #[.slice Ac nc cc]) (ofL [1, 2]))
    (k1 : Blk W g 63 #[.slice Aa na ca, .slice Ab nb cb, .slice Ac nc cc]) (k2 : Blk W g1 66 #[.int .i64 0, .int .i64 1, .int .i64 1, .int .i64 2, .int .i64 0, .int .i64 2]) (k3 : Blk W g3 3 #[.int .i64 0, .int .i64 0, .int .i64 0]) :
    PrAt W W.heap.size ⟨⟨some ⟨g, 0, none⟩, 3, 3⟩, ⟨some ⟨g1, 0, none⟩, 3, 3⟩, ⟨none, 0, 0⟩, ⟨none, 0, 0⟩, ⟨some ⟨g3, 0, none⟩, 3, 3⟩⟩ awQ2 :=
  ⟨rfl, rfl, rfl, rfl, rfl, SetsAt.blk k1 (get3 ⟨_, rfl, sa⟩ ⟨_, rfl, sb⟩ ⟨_, rfl, sc⟩), PairsAt.blk k2 (get3 ⟨rfl, rfl⟩ ⟨rfl, rfl⟩ ⟨rfl, rfl⟩), PairsAt.nil _ _ _, MostAt.nil _ _ _, Blk.sees (xs := [.int .i64 0, .int .i64 0, .int .i64 0]) k3, by simp, by simp, by simp, by simp, by simp, by simp⟩

/-- Solve, as awake calls it. -/
theorem svAw {w W : World} {p : PrV} {P : Pr} {r : Option (List Int) × List Nd × Int} {b : Bool} {z : Int} {l : List Int} {ns : List Nd} (hT : Tab w) (hw : Below w.heap.size w W) (h : PrAt W W.heap.size p P) (hs : SmP P) (hr : solveR P 0 = r) (hb : r.1.isSome = b) (hz : r.2.2 = z) (hl : r.1.getD [] = l) (hn : r.2.1 = ns) :
    Calls Tryd.prog 15 #[p.v, .int .i64 0] W fun e w' => ∃ A n c An nn cn, e = .returned (.tuple #[.slice A n c, .agg #[.slice An nn cn], .bool b, .int .i64 z]) ∧ OwnI w' W.heap.size (.slice A n c) n l ∧
      (∃ ys : List NdS, ys.map (·.x) = ns ∧ OwnNs .u8 103 w' W.heap.size (.slice An nn cn) nn ys) ∧ Below W.heap.size W w' := by
  have h1 := solve_any p P 0 W h (hT.below hw (World.block_lt_of_cell? w _ (hT 0 (by omega)))) (fun _ => hs)
  rw [hr] at h1
  subst hb hz hl hn
  exact h1
theorem cnAw {w W : World} {p : PrV} {P : Pr} {lim a z : Int} (hT : Tab w) (hw : Below w.heap.size w W) (h : PrAt W W.heap.size p P) (hs : SmP P) (hr : countR P lim = (a, z)) :
    Calls Tryd.prog 14 #[p.v, .int .i64 lim] W fun e w' => e = .returned (.tuple #[.int .i64 a, .int .i64 z]) ∧ Below W.heap.size W w' := by
  have h1 := count_any p P lim W h (hT.below hw (World.block_lt_of_cell? w _ (hT 0 (by omega)))) (fun _ => hs)
  rw [hr] at h1
  exact h1
theorem crAw {w W : World} {p : PrV} {P : Pr} {l : List Int} (hT : Tab w) (hw : Below w.heap.size w W) (h : PrAt W W.heap.size p P) (hs : SmP P) (hr : critL P = l) :
    Calls Tryd.prog 23 #[p.v] W fun e w' => ∃ A n c, e = .returned (.slice A n c) ∧ OwnI w' W.heap.size (.slice A n c) n l ∧ Below W.heap.size W w' := by
  have h1 := critical_any p P W h (hT.below hw (World.block_lt_of_cell? w _ (hT 0 (by omega)))) (fun _ => hs)
  rw [hr] at h1
  exact h1
theorem eqT {W : World} {A A2 : Option Addr} {n c n2 c2 : Nat} {l : List Int} (h : Sees W W.heap.size A (l.map iv)) (h2 : Sees W W.heap.size A2 (l.map iv)) (hn : l.length = n) (hn2 : l.length = n2) (hb : n ≤ 140737488355328) :
    Calls Tryd.prog 16 #[.slice A n c, .slice A2 n2 c2] W fun e w' => e = .returned (.bool true) ∧ ∃ q, w' = W.drewN q := by
  have h1 := equalI_any A A2 n c n2 c2 l l W h h2 hn hn2 hb
  rw [show (l == l) = true from by simp] at h1
  exact h1
set_option maxHeartbeats 8000000 in
set_option maxRecDepth 100000 in
/-- awake. -/
theorem awake_any (w : World) (hT : Tab w) : Calls Tryd.prog 12 #[] w fun e w' => e = .returned (.bool true) ∧ Below w.heap.size w w' := by
  have hg0 : 0 < w.heap.size := World.block_lt_of_cell? w _ (hT 0 (by omega))
  go_enter Tryd.func12, Tryd.ntmps12
  go_wp2_with fail
  refine (ofLit w [1, 2] _ 2 _ rfl rfl (by simp) (by omega) rfl).mono ?_
  rintro e w1 ⟨Aa, na, ca, rfl, sa, b1⟩
  go_wp2_with fail
  refine (ofLit w1 [1, 2] _ 2 _ rfl rfl (by simp) (by omega) rfl).mono ?_
  rintro e w2 ⟨Ab, nb, cb, rfl, sb, b2⟩
  go_wp2_with fail
  refine (ofLit w2 [1, 2, 3] _ 3 _ rfl rfl (by simp) (by omega) rfl).mono ?_
  rintro e w3 ⟨Ac, nc, cc, rfl, sc, b3⟩
  have B3 : Below w.heap.size w w3 := bJoin (bJoin b1 b2) b3
  have sa3 := (sa.at b2).at b3
  have sb3 := sb.at b3
  clear sa sb b1 b2 b3
  go_wp2_with fail
  have hW := World.size_alloc
  refine (ofLit _ [1, 2] _ 2 _ rfl rfl (by simp) (by omega) (by simp)).mono ?_
  rintro e w4 ⟨Ad, nd, cd, rfl, sd, b4⟩
  have kS : Blk w4 w3.heap.size 63 #[.slice Aa na ca, .slice Ab nb cb, .slice Ac nc cc] := Blk.on (by repeat (first | exact Blk.mk' (by simp) | refine Blk.alloc ?_ _)) b4
  have k1 : Blk w4 (w3.heap.size + 1) 66 #[.int .i64 0, .int .i64 1] := Blk.on (by repeat (first | exact Blk.mk' (by simp) | refine Blk.alloc ?_ _)) b4
  have k2 : Blk w4 (w3.heap.size + 1 + 1) 66 #[.int .i64 1, .int .i64 2] := Blk.on (by repeat (first | exact Blk.mk' (by simp) | refine Blk.alloc ?_ _)) b4
  have k3 : Blk w4 (w3.heap.size + 1 + 1 + 1) 3 #[.int .i64 0, .int .i64 0, .int .i64 0] := Blk.on (by repeat (first | exact Blk.mk' (by simp) | refine Blk.alloc ?_ _)) b4
  have kp : Blk w4 (w3.heap.size + 1 + 1 + 1 + 1) 32 #[.slice (some ⟨w3.heap.size, 0, none⟩) 3 3, .slice (some ⟨w3.heap.size + 1, 0, none⟩) 1 1, .slice (some ⟨w3.heap.size + 1 + 1, 0, none⟩) 1 1, .slice none 0 0, .slice (some ⟨w3.heap.size + 1 + 1 + 1, 0, none⟩) 3 3] := Blk.on (by repeat (first | exact Blk.mk' (by simp) | refine Blk.alloc ?_ _)) b4
  have B34 : Below w3.heap.size w3 w4 := bJoin (by repeat (first | exact Below.refl _ _ | refine bAl ?_ _)) b4
  have hP1 := prQ1 (sa3.at B34) (sb3.at B34) (sc.at B34) kS k1 k2 k3
  have B4 := bJoin B3 B34
  clear kS k1 k2 k3 sa3 sb3 sc b4 B34 B3
  go_wp2_with fail
  refine (ofLit w4 [1, 2] _ 2 _ rfl rfl (by simp) (by omega) rfl).mono ?_
  rintro e w5 ⟨Ae, ne, ce, rfl, se, b5⟩
  go_wp2_with fail
  refine (ofLit w5 [1, 2] _ 2 _ rfl rfl (by simp) (by omega) rfl).mono ?_
  rintro e w6 ⟨Af, nf, cf, rfl, sf, b6⟩
  have b46 := bJoin b5 b6
  have sd6 := sd.at b46
  have se6 := se.at b6
  have kp6 := kp.on b46
  have hP6 := hP1.on b46
  have B6 := bJoin B4 b46
  clear sd se b5 b6 kp hP1 b46 B4
  go_upto_region 3 with (fail)
  have kS : Blk ((((w6.alloc (.cells #[.slice Ad nd cd, .slice Ae ne ce, .slice Af nf cf] 63)).alloc (.cells #[.int .i64 0, .int .i64 1, .int .i64 1, .int .i64 2, .int .i64 0, .int .i64 2] 66)).alloc (.cells #[.int .i64 0, .int .i64 0, .int .i64 0] 3)).alloc (.cells #[.slice (some ⟨w6.heap.size, 0, none⟩) 3 3, .slice (some ⟨w6.heap.size + 1, 0, none⟩) 3 3, .slice none 0 0, .slice none 0 0, .slice (some ⟨w6.heap.size + 1 + 1, 0, none⟩) 3 3] 32)) w6.heap.size 63 #[.slice Ad nd cd, .slice Ae ne ce, .slice Af nf cf] := by repeat (first | exact Blk.mk' (by simp) | refine Blk.alloc ?_ _)
  have k1 : Blk ((((w6.alloc (.cells #[.slice Ad nd cd, .slice Ae ne ce, .slice Af nf cf] 63)).alloc (.cells #[.int .i64 0, .int .i64 1, .int .i64 1, .int .i64 2, .int .i64 0, .int .i64 2] 66)).alloc (.cells #[.int .i64 0, .int .i64 0, .int .i64 0] 3)).alloc (.cells #[.slice (some ⟨w6.heap.size, 0, none⟩) 3 3, .slice (some ⟨w6.heap.size + 1, 0, none⟩) 3 3, .slice none 0 0, .slice none 0 0, .slice (some ⟨w6.heap.size + 1 + 1, 0, none⟩) 3 3] 32)) (w6.heap.size + 1) 66 #[.int .i64 0, .int .i64 1, .int .i64 1, .int .i64 2, .int .i64 0, .int .i64 2] := by repeat (first | exact Blk.mk' (by simp) | refine Blk.alloc ?_ _)
  have k3 : Blk ((((w6.alloc (.cells #[.slice Ad nd cd, .slice Ae ne ce, .slice Af nf cf] 63)).alloc (.cells #[.int .i64 0, .int .i64 1, .int .i64 1, .int .i64 2, .int .i64 0, .int .i64 2] 66)).alloc (.cells #[.int .i64 0, .int .i64 0, .int .i64 0] 3)).alloc (.cells #[.slice (some ⟨w6.heap.size, 0, none⟩) 3 3, .slice (some ⟨w6.heap.size + 1, 0, none⟩) 3 3, .slice none 0 0, .slice none 0 0, .slice (some ⟨w6.heap.size + 1 + 1, 0, none⟩) 3 3] 32)) (w6.heap.size + 1 + 1) 3 #[.int .i64 0, .int .i64 0, .int .i64 0] := by repeat (first | exact Blk.mk' (by simp) | refine Blk.alloc ?_ _)
  have kq : Blk ((((w6.alloc (.cells #[.slice Ad nd cd, .slice Ae ne ce, .slice Af nf cf] 63)).alloc (.cells #[.int .i64 0, .int .i64 1, .int .i64 1, .int .i64 2, .int .i64 0, .int .i64 2] 66)).alloc (.cells #[.int .i64 0, .int .i64 0, .int .i64 0] 3)).alloc (.cells #[.slice (some ⟨w6.heap.size, 0, none⟩) 3 3, .slice (some ⟨w6.heap.size + 1, 0, none⟩) 3 3, .slice none 0 0, .slice none 0 0, .slice (some ⟨w6.heap.size + 1 + 1, 0, none⟩) 3 3] 32)) (w6.heap.size + 1 + 1 + 1) 32 #[.slice (some ⟨w6.heap.size, 0, none⟩) 3 3, .slice (some ⟨w6.heap.size + 1, 0, none⟩) 3 3, .slice none 0 0, .slice none 0 0, .slice (some ⟨w6.heap.size + 1 + 1, 0, none⟩) 3 3] := by repeat (first | exact Blk.mk' (by simp) | refine Blk.alloc ?_ _)
  have B67 : Below w6.heap.size w6 ((((w6.alloc (.cells #[.slice Ad nd cd, .slice Ae ne ce, .slice Af nf cf] 63)).alloc (.cells #[.int .i64 0, .int .i64 1, .int .i64 1, .int .i64 2, .int .i64 0, .int .i64 2] 66)).alloc (.cells #[.int .i64 0, .int .i64 0, .int .i64 0] 3)).alloc (.cells #[.slice (some ⟨w6.heap.size, 0, none⟩) 3 3, .slice (some ⟨w6.heap.size + 1, 0, none⟩) 3 3, .slice none 0 0, .slice none 0 0, .slice (some ⟨w6.heap.size + 1 + 1, 0, none⟩) 3 3] 32)) := by repeat (first | exact Below.refl _ _ | refine bAl ?_ _)
  generalize ((((w6.alloc (.cells #[.slice Ad nd cd, .slice Ae ne ce, .slice Af nf cf] 63)).alloc (.cells #[.int .i64 0, .int .i64 1, .int .i64 1, .int .i64 2, .int .i64 0, .int .i64 2] 66)).alloc (.cells #[.int .i64 0, .int .i64 0, .int .i64 0] 3)).alloc (.cells #[.slice (some ⟨w6.heap.size, 0, none⟩) 3 3, .slice (some ⟨w6.heap.size + 1, 0, none⟩) 3 3, .slice none 0 0, .slice none 0 0, .slice (some ⟨w6.heap.size + 1 + 1, 0, none⟩) 3 3] 32)) = W7 at kS k1 k3 kq B67 ⊢
  have hP2 := prQ2 (sd6.at B67) (se6.at B67) (sf.at B67) kS k1 k3
  have hP7 := hP6.on B67
  have kp7 := kp6.on B67
  have B7 := bJoin B6 B67
  clear kS k1 k3 sd6 se6 sf B67 hP6 kp6 B6
  have x0 := (kp7.cell 0).trans rfl
  have x1 := (kp7.cell 1).trans rfl
  have x2 := (kp7.cell 2).trans rfl
  have x3 := (kp7.cell 3).trans rfl
  have x4 := (kp7.cell 4).trans rfl
  go_wp2_with fail
  refine (svAw (p := ⟨⟨some ⟨w3.heap.size, 0, none⟩, 3, 3⟩, ⟨some ⟨w3.heap.size + 1, 0, none⟩, 1, 1⟩, ⟨some ⟨w3.heap.size + 1 + 1, 0, none⟩, 1, 1⟩, ⟨none, 0, 0⟩, ⟨some ⟨w3.heap.size + 1 + 1 + 1, 0, none⟩, 3, 3⟩⟩) hT B7 hP7 awq5 awq1 rfl rfl rfl rfl).mono ?_
  rintro e w7 ⟨Al, nl, cl, Ar, nr, cr, rfl, ol, _, b7⟩
  go_upto_region 4 with (fail)
  have bA := bAl b7 (.cells #[.slice Ar nr cr] 46)
  have ol8 := ol.alloc (.cells #[.slice Ar nr cr] 46)
  generalize (w7.alloc (.cells #[.slice Ar nr cr] 46)) = W8 at bA ol8 ⊢
  have hP1 := hP7.on bA
  have hP2 := hP2.on bA
  have kp8 := kp7.on bA
  have kq8 := kq.on bA
  have B8 := bJoin B7 bA
  clear hP7 kp7 kq B7 bA ol b7 x0 x1 x2 x3 x4
  have y0 := (kq8.cell 0).trans rfl
  have y1 := (kq8.cell 1).trans rfl
  have y2 := (kq8.cell 2).trans rfl
  have y3 := (kq8.cell 3).trans rfl
  have y4 := (kq8.cell 4).trans rfl
  go_wp2_with fail
  refine (svAw (p := ⟨⟨some ⟨w6.heap.size, 0, none⟩, 3, 3⟩, ⟨some ⟨w6.heap.size + 1, 0, none⟩, 3, 3⟩, ⟨none, 0, 0⟩, ⟨none, 0, 0⟩, ⟨some ⟨w6.heap.size + 1 + 1, 0, none⟩, 3, 3⟩⟩) hT B8 hP2 (b := false) (l := []) awq6 rfl (by rw [awq2.1]; rfl) awq2.2.1 (by rw [awq2.1]; rfl) rfl).mono ?_
  rintro e w9 ⟨Am, nm, cm, An, nn, cn', rfl, om, ⟨ys, hys, oN⟩, b9⟩
  go_upto_region 5 with (fail)
  have bA := bAl b9 (.cells #[.slice An nn cn'] 46)
  have om9 := om.alloc (.cells #[.slice An nn cn'] 46)
  have oN9 := oN.on (bAl (Below.refl w9.heap.size w9) (.cells #[.slice An nn cn'] 46))
  have kr := Blk.new w9 46 #[.slice An nn cn']
  generalize (w9.alloc (.cells #[.slice An nn cn'] 46)) = W9 at bA om9 oN9 kr ⊢
  have hP1 := hP1.on bA
  have hP2 := hP2.on bA
  have kp9 := kp8.on bA
  have kq9 := kq8.on bA
  have ol9 := ol8.on bA
  have B9 := bJoin B8 bA
  clear kp8 kq8 B8 bA om oN ol8 b9 y0 y1 y2 y3 y4
  have x0 := (kp9.cell 0).trans rfl
  have x1 := (kp9.cell 1).trans rfl
  have x2 := (kp9.cell 2).trans rfl
  have x3 := (kp9.cell 3).trans rfl
  have x4 := (kp9.cell 4).trans rfl
  go_wp2_with fail
  refine (cnAw (p := ⟨⟨some ⟨w3.heap.size, 0, none⟩, 3, 3⟩, ⟨some ⟨w3.heap.size + 1, 0, none⟩, 1, 1⟩, ⟨some ⟨w3.heap.size + 1 + 1, 0, none⟩, 1, 1⟩, ⟨none, 0, 0⟩, ⟨some ⟨w3.heap.size + 1 + 1 + 1, 0, none⟩, 3, 3⟩⟩) hT B9 hP1 awq5 awq3).mono ?_
  rintro e w10 ⟨rfl, b10⟩
  have hP1 := hP1.on b10
  have hP2 := hP2.on b10
  have kp10 := kp9.on b10
  have kq10 := kq9.on b10
  have kr10 := kr.on b10
  have ol10 := ol9.on b10
  have om10 := om9.on b10
  have oN10 := oN9.on b10
  have B10 := bJoin B9 b10
  clear kp9 kq9 kr ol9 om9 oN9 B9 b10 x0 x1 x2 x3 x4
  have y0 := (kq10.cell 0).trans rfl
  have y1 := (kq10.cell 1).trans rfl
  have y2 := (kq10.cell 2).trans rfl
  have y3 := (kq10.cell 3).trans rfl
  have y4 := (kq10.cell 4).trans rfl
  have yr := (kr10.cell 0).trans rfl
  have hN := oN10.atP
  have hnl : (solveR awQ2 0).2.1.length = nn := by rw [← hys, List.length_map]; exact oN10.len
  rw [hys] at hN
  go_wp2_with fail
  refine (ck (p := ⟨⟨some ⟨w6.heap.size, 0, none⟩, 3, 3⟩, ⟨some ⟨w6.heap.size + 1, 0, none⟩, 3, 3⟩, ⟨none, 0, 0⟩, ⟨none, 0, 0⟩, ⟨some ⟨w6.heap.size + 1 + 1, 0, none⟩, 3, 3⟩⟩) (cn := cn') hT B10 hP2 hN hnl (by rw [← hnl]; exact awq2.2.2.2) awq2.2.2.1).mono ?_
  rintro e w11 ⟨rfl, b11⟩
  have hP1 := hP1.on b11
  have kp11 := kp10.on b11
  have ol11 := ol10.on b11
  have om11 := om10.on b11
  have B11 := bJoin B10 b11
  obtain rfl : 3 = nl := ol11.len
  obtain rfl : 0 = nm := om11.len
  clear hP2 hN hnl hys kp10 kq10 kr10 ol10 om10 oN10 B10 b11 y0 y1 y2 y3 y4 yr
  go_wp2_with fail
  refine (eqT (l := [1, 2, 2]) (ol11.alloc _).sees (Sees.laid w11 #[.int .i64 1, .int .i64 2, .int .i64 2] 3 (0, 0) _ rfl _ rfl) rfl rfl (by simp)).mono ?_
  rintro e w12 ⟨rfl, q, rfl⟩
  have bq : Below w11.heap.size w11 ((w11.alloc (.cells #[.int .i64 1, .int .i64 2, .int .i64 2] 3)).drewN q) := below_drewN (bAl (Below.refl _ _) _) q
  generalize ((w11.alloc (.cells #[.int .i64 1, .int .i64 2, .int .i64 2] 3)).drewN q) = W12 at bq ⊢
  have hP1 := hP1.on bq
  have kp12 := kp11.on bq
  have B12 := bJoin B11 bq
  clear bq kp11 ol11 om11 B11
  have x0 := (kp12.cell 0).trans rfl
  have x1 := (kp12.cell 1).trans rfl
  have x2 := (kp12.cell 2).trans rfl
  have x3 := (kp12.cell 3).trans rfl
  have x4 := (kp12.cell 4).trans rfl
  go_wp2_with fail
  refine (crAw (p := ⟨⟨some ⟨w3.heap.size, 0, none⟩, 3, 3⟩, ⟨some ⟨w3.heap.size + 1, 0, none⟩, 1, 1⟩, ⟨some ⟨w3.heap.size + 1 + 1, 0, none⟩, 1, 1⟩, ⟨none, 0, 0⟩, ⟨some ⟨w3.heap.size + 1 + 1 + 1, 0, none⟩, 3, 3⟩⟩) hT B12 hP1 awq5 awq4).mono ?_
  rintro e w13 ⟨Az, nz, cz, rfl, oz, b13⟩
  have B13 := bJoin B12 b13
  obtain rfl : 2 = nz := oz.len
  clear hP1 kp12 B12 b13 x0 x1 x2 x3 x4
  go_wp2_with fail
  refine (eqT (l := [1, 2]) (oz.alloc _).sees (Sees.laid w13 #[.int .i64 1, .int .i64 2] 3 (0, 0) _ rfl _ rfl) rfl rfl (by simp)).mono ?_
  rintro e w14 ⟨rfl, q, rfl⟩
  go_wp2_with fail
  go_ret
  exact ⟨rfl, below_drewN (bAl B13 _) q⟩
end Go.Proofs.YtfnhaoindehjdaaDoor
