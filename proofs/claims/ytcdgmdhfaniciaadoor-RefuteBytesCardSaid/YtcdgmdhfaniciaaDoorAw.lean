/- The walk of layer 41's examples. -/
import Derived.Test.YtcdgmdhfaniciaaDoorPc
import Derived.Test.YtcdgmdhfaniciaaDoorCheck
namespace Go.Proofs.YtcdgmdhfaniciaaDoor
open Go.RowKit
set_option linter.unusedVariables false
set_option linter.unusedSimpArgs false

def awP1 : Pr := ⟨[ofL [1], ofL [1]], [(0, 1)], [], [], [0, 0]⟩
def awP2 (z : Int) : Pr := ⟨[ofL [1, 2]], [], [], [], [z]⟩
def awN1 : List Nd := [⟨3, 0, [], [0, 1]⟩]
def awN2 : List Nd := [⟨1, 0, [1], []⟩, ⟨1, 1, [2], []⟩, ⟨2, 0, [], []⟩]
def awN3 : List Nd := [⟨2, 0, [], []⟩]
def awN4 : List Nd := [⟨1, 0, [1, 2], []⟩, ⟨2, 0, [], []⟩, ⟨2, 0, [], []⟩]
theorem aw1 : chkR awP1 awN1 = (1, 0) := by decide +kernel
theorem aw2 : chkR awP1 awN2 = (1, 0) := by decide +kernel
theorem aw3 : chkR (awP2 3) awN3 = (1, 0) := by decide +kernel
theorem aw4 : chkR (awP2 0) awN4 = (4, 1) := by decide +kernel
theorem aw5 : ValidB (awP2 0) [2] = true := by decide +kernel
theorem aw6 : ValidB (awP2 0) [3] = false := by decide +kernel

/-- bits.Of of a literal that was just laid. -/
theorem ofLit (w : World) (l : List Nat) (cs : Array Value) (n : Nat) (g : Nat) (hc : cs.toList = niv l) (hn : l.length = n) (hl : ∀ i ∈ l, i < 4096) (hb : n ≤ 1000) (hg : g = w.heap.size) :
    Calls Tryd.prog 38 #[.slice (some ⟨g, 0, none⟩) n n] (w.alloc (.cells cs 3)) fun e w' => ∃ A n c, e = .returned (.agg #[.slice A n c]) ∧ SetAt w' w'.heap.size (.agg #[.slice A n c]) (ofL l) ∧ Below w.heap.size w w' :=
  (of_any (some ⟨g, 0, none⟩) n n l _ (Sees.laid w _ _ _ _ hc _ hg) hn hl (by omega)).mono (by
    rintro e w' ⟨v, rfl, hs, hb⟩
    obtain ⟨A, n, c, rfl, _⟩ := id hs
    exact ⟨A, n, c, rfl, hs, ((Below.refl _ _).alloc (Nat.le_refl _) _).trans (hb.mono (by simp))⟩)

theorem prA {W : World} {g g1 g3 : Nat} {Aa Ab : Option Addr} {na ca nb cb : Nat} (sa : SetAt W W.heap.size (.agg #[.slice Aa na ca]) (ofL [1])) (sb : SetAt W W.heap.size (.agg #[.slice Ab nb cb]) (ofL [1]))
    (k1 : Blk W g 96 #[.slice Aa na ca, .slice Ab nb cb]) (k2 : Blk W g1 98 #[.int .i64 0, .int .i64 1]) (k3 : Blk W g3 3 #[.int .i64 0, .int .i64 0]) :
    PrAt W W.heap.size ⟨⟨some ⟨g, 0, none⟩, 2, 2⟩, ⟨some ⟨g1, 0, none⟩, 1, 1⟩, ⟨none, 0, 0⟩, ⟨none, 0, 0⟩, ⟨some ⟨g3, 0, none⟩, 2, 2⟩⟩ awP1 :=
  ⟨rfl, rfl, rfl, rfl, rfl, SetsAt.blk k1 (get2 ⟨_, rfl, sa⟩ ⟨_, rfl, sb⟩), PairsAt.blk k2 (get1 ⟨rfl, rfl⟩), PairsAt.nil _ _ _, MostAt.nil _ _ _, Blk.sees (xs := [.int .i64 0, .int .i64 0]) k3, by simp, by simp, by simp, by simp, by simp, by simp⟩
theorem prB {W : World} {g g3 : Nat} {z : Int} {Aa : Option Addr} {na ca : Nat} (sa : SetAt W W.heap.size (.agg #[.slice Aa na ca]) (ofL [1, 2]))
    (k1 : Blk W g 96 #[.slice Aa na ca]) (k3 : Blk W g3 3 #[.int .i64 z]) :
    PrAt W W.heap.size ⟨⟨some ⟨g, 0, none⟩, 1, 1⟩, ⟨none, 0, 0⟩, ⟨none, 0, 0⟩, ⟨none, 0, 0⟩, ⟨some ⟨g3, 0, none⟩, 1, 1⟩⟩ (awP2 z) :=
  ⟨rfl, rfl, rfl, rfl, rfl, SetsAt.blk k1 (get1 ⟨_, rfl, sa⟩), PairsAt.nil _ _ _, PairsAt.nil _ _ _, MostAt.nil _ _ _, Blk.sees (xs := [.int .i64 z]) k3, by simp, by simp, by simp, by simp, by simp, by simp⟩
theorem ndl_nil (w : World) (k : Nat) (s : Int) (hk : k < 256) : NdL w w.heap.size ⟨none, 0, 0⟩ ⟨none, 0, 0⟩ ⟨k, s, [], []⟩ := ⟨hk, Sees.nil _ _ _, Sees.nil _ _ _, rfl, rfl, Nat.le_refl _, Nat.le_refl _, by simp, by simp⟩
theorem ndA {W : World} {g gs : Nat} (k : Blk W g 90 #[.int .u8 3, .int .i64 0, .slice none 0 0, .slice (some ⟨gs, 0, none⟩) 2 2]) (ks : Blk W gs 3 #[.int .i64 0, .int .i64 1]) :
    NodesAt W W.heap.size (some ⟨g, 0, none⟩) awN1 := NodesAt.blk k (get1 ⟨⟨none, 0, 0⟩, ⟨some ⟨gs, 0, none⟩, 2, 2⟩, rfl, rfl, rfl, rfl, by simp, Sees.nil _ _ _, Blk.sees (xs := [.int .i64 0, .int .i64 1]) ks, rfl, rfl, by simp, by simp, by simp, by simp⟩)
theorem ndB {W : World} {g ga gb : Nat} (k : Blk W g 90 #[.int .u8 1, .int .i64 0, .slice (some ⟨ga, 0, none⟩) 1 1, .slice none 0 0, .int .u8 1, .int .i64 1, .slice (some ⟨gb, 0, none⟩) 1 1, .slice none 0 0, .int .u8 2, .int .i64 0, .slice none 0 0, .slice none 0 0])
    (ka : Blk W ga 3 #[.int .i64 1]) (kb : Blk W gb 3 #[.int .i64 2]) :
    NodesAt W W.heap.size (some ⟨g, 0, none⟩) awN2 := NodesAt.blk k (get3 ⟨⟨some ⟨ga, 0, none⟩, 1, 1⟩, ⟨none, 0, 0⟩, rfl, rfl, rfl, rfl, by simp, Blk.sees (xs := [.int .i64 1]) ka, Sees.nil _ _ _, rfl, rfl, by simp, by simp, by simp, by simp⟩
    ⟨⟨some ⟨gb, 0, none⟩, 1, 1⟩, ⟨none, 0, 0⟩, rfl, rfl, rfl, rfl, by simp, Blk.sees (xs := [.int .i64 2]) kb, Sees.nil _ _ _, rfl, rfl, by simp, by simp, by simp, by simp⟩ ⟨⟨none, 0, 0⟩, ⟨none, 0, 0⟩, rfl, rfl, rfl, rfl, ndl_nil _ _ _ (by simp)⟩)
theorem ndC {W : World} {g : Nat} (k : Blk W g 90 #[.int .u8 2, .int .i64 0, .slice none 0 0, .slice none 0 0]) :
    NodesAt W W.heap.size (some ⟨g, 0, none⟩) awN3 := NodesAt.blk k (get1 ⟨⟨none, 0, 0⟩, ⟨none, 0, 0⟩, rfl, rfl, rfl, rfl, ndl_nil _ _ _ (by simp)⟩)
theorem ndD {W : World} {g ga : Nat} (k : Blk W g 90 #[.int .u8 1, .int .i64 0, .slice (some ⟨ga, 0, none⟩) 2 2, .slice none 0 0, .int .u8 2, .int .i64 0, .slice none 0 0, .slice none 0 0, .int .u8 2, .int .i64 0, .slice none 0 0, .slice none 0 0])
    (ka : Blk W ga 3 #[.int .i64 1, .int .i64 2]) :
    NodesAt W W.heap.size (some ⟨g, 0, none⟩) awN4 := NodesAt.blk k (get3 ⟨⟨some ⟨ga, 0, none⟩, 2, 2⟩, ⟨none, 0, 0⟩, rfl, rfl, rfl, rfl, by simp, Blk.sees (xs := [.int .i64 1, .int .i64 2]) ka, Sees.nil _ _ _, rfl, rfl, by simp, by simp, by simp, by simp⟩
    ⟨⟨none, 0, 0⟩, ⟨none, 0, 0⟩, rfl, rfl, rfl, rfl, ndl_nil _ _ _ (by simp)⟩ ⟨⟨none, 0, 0⟩, ⟨none, 0, 0⟩, rfl, rfl, rfl, rfl, ndl_nil _ _ _ (by simp)⟩)
/-- Check, as awake calls it. -/
theorem ck {w W : World} {p : PrV} {P : Pr} {An : Option Addr} {n cn : Nat} {l : List Nd} {r1 : Nat} {r2 : Int} (hT : Tab w) (hw : Below w.heap.size w W) (h : PrAt W W.heap.size p P) (hN : NodesAt W W.heap.size An l) (hn : l.length = n) (hb : n ≤ 1000000) (hr : chkR P l = (r1, r2)) :
    Calls Tryd.prog 17 #[p.v, .agg #[.slice An n cn]] W fun e w' => e = .returned (.tuple #[.int .u8 (r1 : Int), .int .i64 r2]) ∧ Below W.heap.size W w' := by
  have h1 := check_any p P An n cn l W h hN hn hb (hT.below hw (World.block_lt_of_cell? w _ (hT 0 (by omega))))
  rw [hr] at h1
  exact h1

/-- Valid, as awake calls it. -/
theorem vd {w W : World} {p : PrV} {P : Pr} {g : Nat} {z : Int} {r : Bool} (hT : Tab w) (hw : Below w.heap.size w W) (h : PrAt W W.heap.size p P) (hl : Blk W g 3 #[.int .i64 z]) (hr : ValidB P [z] = r) :
    Calls Tryd.prog 28 #[p.v, .slice (some ⟨g, 0, none⟩) 1 1] W fun e w' => e = .returned (.bool r) ∧ Below W.heap.size W w' := by
  have h1 := Valid_any p P (some ⟨g, 0, none⟩) 1 1 [z] W h (Blk.sees (xs := [.int .i64 z]) hl) rfl (by simp) (hT.below hw (World.block_lt_of_cell? w _ (hT 0 (by omega))))
  rw [hr] at h1
  exact h1

set_option maxHeartbeats 8000000 in
set_option maxRecDepth 100000 in
/-- awake. -/
theorem awake_any (w : World) (hT : Tab w) : Calls Tryd.prog 12 #[] w fun e w' => e = .returned (.bool true) ∧ Below w.heap.size w w' := by
  have hg0 : 0 < w.heap.size := World.block_lt_of_cell? w _ (hT 0 (by omega))
  go_enter Tryd.func12, Tryd.ntmps12
  go_wp2_with fail
  refine (ofLit w [1] _ 1 _ rfl rfl (by simp) (by omega) rfl).mono ?_
  rintro e w1 ⟨Aa, na, ca, rfl, sa, b1⟩
  go_wp2_with fail
  refine (ofLit w1 [1] _ 1 _ rfl rfl (by simp) (by omega) rfl).mono ?_
  rintro e w2 ⟨Ab, nb, cb, rfl, sb, b2⟩
  have B2 := b1.trans (b2.mono b1.size)
  have sa2 := sa.at b2
  have z1 := B2.size
  go_wp2_with fail
  have hW := World.size_alloc
  refine (ck (n := 1) (cn := 1) hT ?_ (prA (sa2.at ?_) (sb.at ?_) ?_ ?_ ?_) (ndA (gs := w2.heap.size + 1 + 1 + 1 + 1) ?_ ?_) rfl (by simp) aw1).mono ?_
  case refine_1 => exact bJoin B2 (by repeat (first | exact Below.refl _ _ | refine bAl ?_ _))
  case refine_2 => repeat (first | exact Below.refl _ _ | refine bAl ?_ _)
  case refine_3 => repeat (first | exact Below.refl _ _ | refine bAl ?_ _)
  case refine_4 => repeat (first | exact Blk.mk' (by simp) | refine Blk.alloc ?_ _)
  case refine_5 => repeat (first | exact Blk.mk' (by simp) | refine Blk.alloc ?_ _)
  case refine_6 => repeat (first | exact Blk.mk' (by simp) | refine Blk.alloc ?_ _)
  case refine_7 => repeat (first | exact Blk.mk' (by simp) | refine Blk.alloc ?_ _)
  case refine_8 => repeat (first | exact Blk.mk' (by simp) | refine Blk.alloc ?_ _)
  rintro e w3 ⟨rfl, b3⟩
  have B3 : Below w2.heap.size w2 w3 := bJoin (by repeat (first | exact Below.refl _ _ | refine bAl ?_ _)) b3
  have k1 : Blk w3 w2.heap.size 96 #[.slice Aa na ca, .slice Ab nb cb] := Blk.on (by repeat (first | exact Blk.mk' (by simp) | refine Blk.alloc ?_ _)) b3
  have k2 : Blk w3 (w2.heap.size + 1) 98 #[.int .i64 0, .int .i64 1] := Blk.on (by repeat (first | exact Blk.mk' (by simp) | refine Blk.alloc ?_ _)) b3
  have k3 : Blk w3 (w2.heap.size + 1 + 1) 3 #[.int .i64 0, .int .i64 0] := Blk.on (by repeat (first | exact Blk.mk' (by simp) | refine Blk.alloc ?_ _)) b3
  have k4 : Blk w3 (w2.heap.size + 1 + 1 + 1) 35 #[.slice (some ⟨w2.heap.size, 0, none⟩) 2 2, .slice (some ⟨w2.heap.size + 1, 0, none⟩) 1 1, .slice none 0 0, .slice none 0 0, .slice (some ⟨w2.heap.size + 1 + 1, 0, none⟩) 2 2] := Blk.on (by repeat (first | exact Blk.mk' (by simp) | refine Blk.alloc ?_ _)) b3
  have x0 := (k4.cell 0).trans rfl
  have x1 := (k4.cell 1).trans rfl
  have x2 := (k4.cell 2).trans rfl
  have x3 := (k4.cell 3).trans rfl
  have x4 := (k4.cell 4).trans rfl
  have sa3 := sa2.at B3
  have sb3 := sb.at B3
  have B13 := bJoin B2 B3
  go_wp2_with fail
  refine (ck (n := 3) (cn := 3) hT ?_ (prA (sa3.at ?_) (sb3.at ?_) ?_ ?_ ?_) (ndB (ga := w3.heap.size) (gb := w3.heap.size + 1) ?_ ?_ ?_) rfl (by simp) aw2).mono ?_
  case refine_1 => exact bJoin B13 (by repeat (first | exact Below.refl _ _ | refine bAl ?_ _))
  case refine_2 => repeat (first | exact Below.refl _ _ | refine bAl ?_ _)
  case refine_3 => repeat (first | exact Below.refl _ _ | refine bAl ?_ _)
  case refine_4 => exact Blk.on k1 (by repeat (first | exact Below.refl _ _ | refine bAl ?_ _))
  case refine_5 => exact Blk.on k2 (by repeat (first | exact Below.refl _ _ | refine bAl ?_ _))
  case refine_6 => exact Blk.on k3 (by repeat (first | exact Below.refl _ _ | refine bAl ?_ _))
  case refine_7 => repeat (first | exact Blk.mk' (by simp) | refine Blk.alloc ?_ _)
  case refine_8 => repeat (first | exact Blk.mk' (by simp) | refine Blk.alloc ?_ _)
  case refine_9 => repeat (first | exact Blk.mk' (by simp) | refine Blk.alloc ?_ _)
  rintro e w4 ⟨rfl, b4⟩
  have B4 : Below w3.heap.size w3 w4 := bJoin (by repeat (first | exact Below.refl _ _ | refine bAl ?_ _)) b4
  have B14 := bJoin B13 B4
  clear k1 k2 k3 k4 x0 x1 x2 x3 x4 sa3 sb3 sa2 sb sa
  go_wp2_with fail
  refine (ofLit w4 [1, 2] _ 2 _ rfl rfl (by simp) (by omega) rfl).mono ?_
  rintro e w5 ⟨Ac, nc, cc, rfl, sc, b5⟩
  have B15 := bJoin B14 b5
  go_wp2_with fail
  refine (ck (n := 1) (cn := 1) hT ?_ (prB (z := 3) (sc.at ?_) ?_ ?_) (ndC ?_) rfl (by simp) aw3).mono ?_
  case refine_1 => exact bJoin B15 (by repeat (first | exact Below.refl _ _ | refine bAl ?_ _))
  case refine_2 => repeat (first | exact Below.refl _ _ | refine bAl ?_ _)
  case refine_3 => repeat (first | exact Blk.mk' (by simp) | refine Blk.alloc ?_ _)
  case refine_4 => repeat (first | exact Blk.mk' (by simp) | refine Blk.alloc ?_ _)
  case refine_5 => repeat (first | exact Blk.mk' (by simp) | refine Blk.alloc ?_ _)
  rintro e w6 ⟨rfl, b6⟩
  have B6 : Below w5.heap.size w5 w6 := bJoin (by repeat (first | exact Below.refl _ _ | refine bAl ?_ _)) b6
  have B16 := bJoin B15 B6
  have k1 : Blk w6 w5.heap.size 96 #[.slice Ac nc cc] := Blk.on (by repeat (first | exact Blk.mk' (by simp) | refine Blk.alloc ?_ _)) b6
  have k4 : Blk w6 (w5.heap.size + 1 + 1) 35 #[.slice (some ⟨w5.heap.size, 0, none⟩) 1 1, .slice none 0 0, .slice none 0 0, .slice none 0 0, .slice (some ⟨w5.heap.size + 1, 0, none⟩) 1 1] := Blk.on (by repeat (first | exact Blk.mk' (by simp) | refine Blk.alloc ?_ _)) b6
  have x0 := (k4.cell 0).trans rfl
  have x1 := (k4.cell 1).trans rfl
  have x2 := (k4.cell 2).trans rfl
  have x3 := (k4.cell 3).trans rfl
  have x4 := (k4.cell 4).trans rfl
  have k5 := k4.alloc (.cells #[.int .i64 0] 3)
  have y4 := k5.frozen 4
  have z4 := (k5.cell 4).trans rfl
  have k6 : Blk ((w6.alloc (.cells #[.int .i64 0] 3)).setCell ⟨w5.heap.size + 1 + 1, 4, none⟩ (.slice (some ⟨w6.heap.size, 0, none⟩) 1 1)) (w5.heap.size + 1 + 1) 35 #[.slice (some ⟨w5.heap.size, 0, none⟩) 1 1, .slice none 0 0, .slice none 0 0, .slice none 0 0, .slice (some ⟨w6.heap.size, 0, none⟩) 1 1] := k5.put 4 _
  have hlt := k4.lt
  have k7 : Blk ((w6.alloc (.cells #[.int .i64 0] 3)).setCell ⟨w5.heap.size + 1 + 1, 4, none⟩ (.slice (some ⟨w6.heap.size, 0, none⟩) 1 1)) w6.heap.size 3 #[.int .i64 0] := (Blk.mk' rfl).far (p := ⟨w5.heap.size + 1 + 1, 4, none⟩) (by simp; omega) _
  have k8 : Blk ((w6.alloc (.cells #[.int .i64 0] 3)).setCell ⟨w5.heap.size + 1 + 1, 4, none⟩ (.slice (some ⟨w6.heap.size, 0, none⟩) 1 1)) w5.heap.size 96 #[.slice Ac nc cc] := (k1.alloc _).far (p := ⟨w5.heap.size + 1 + 1, 4, none⟩) (by simp; omega) _
  have B7 : Below w5.heap.size w5 ((w6.alloc (.cells #[.int .i64 0] 3)).setCell ⟨w5.heap.size + 1 + 1, 4, none⟩ (.slice (some ⟨w6.heap.size, 0, none⟩) 1 1)) := (bAl B6 _).setCell (p := ⟨w5.heap.size + 1 + 1, 4, none⟩) (by simp; omega) _
  have u0 := (k6.cell 0).trans rfl
  have u1 := (k6.cell 1).trans rfl
  have u2 := (k6.cell 2).trans rfl
  have u3 := (k6.cell 3).trans rfl
  have u4 := (k6.cell 4).trans rfl
  have sc7 := sc.at B7
  have B17 := bJoin B15 B7
  clear x0 x1 x2 x3 x4 hlt
  go_wp2_with fail
  refine (ck (n := 3) (cn := 3) hT ?_ (prB (z := 0) (sc7.at ?_) ?_ ?_) (ndD (ga := w6.heap.size + 1) ?_ ?_) rfl (by simp) aw4).mono ?_
  case refine_1 => exact bJoin B17 (by repeat (first | exact Below.refl _ _ | refine bAl ?_ _))
  case refine_2 => repeat (first | exact Below.refl _ _ | refine bAl ?_ _)
  case refine_3 => exact Blk.on k8 (by repeat (first | exact Below.refl _ _ | refine bAl ?_ _))
  case refine_4 => exact Blk.on k7 (by repeat (first | exact Below.refl _ _ | refine bAl ?_ _))
  case refine_5 => repeat (first | exact Blk.mk' (by simp [setCell_size]) | refine Blk.alloc ?_ _)
  case refine_6 => repeat (first | exact Blk.mk' (by simp [setCell_size]) | refine Blk.alloc ?_ _)
  rintro e w8 ⟨rfl, b8⟩
  have B8 := bJoin B7 (bJoin (by repeat (first | exact Below.refl _ _ | refine bAl ?_ _)) b8)
  have B18 := bJoin B15 B8
  have k16 := Blk.on k6 (bJoin (by repeat (first | exact Below.refl _ _ | refine bAl ?_ _)) b8)
  have k17 := Blk.on k7 (bJoin (by repeat (first | exact Below.refl _ _ | refine bAl ?_ _)) b8)
  have k18 := Blk.on k8 (bJoin (by repeat (first | exact Below.refl _ _ | refine bAl ?_ _)) b8)
  have u0 := (k16.cell 0).trans rfl
  have u1 := (k16.cell 1).trans rfl
  have u2 := (k16.cell 2).trans rfl
  have u3 := (k16.cell 3).trans rfl
  have u4 := (k16.cell 4).trans rfl
  have sc8 := sc.at B8
  go_wp2_with fail
  refine (vd (z := 2) hT ?_ (prB (z := 0) (sc8.at ?_) ?_ ?_) ?_ aw5).mono ?_
  case refine_1 => exact bJoin B18 (by repeat (first | exact Below.refl _ _ | refine bAl ?_ _))
  case refine_2 => repeat (first | exact Below.refl _ _ | refine bAl ?_ _)
  case refine_3 => exact Blk.on k18 (by repeat (first | exact Below.refl _ _ | refine bAl ?_ _))
  case refine_4 => exact Blk.on k17 (by repeat (first | exact Below.refl _ _ | refine bAl ?_ _))
  case refine_5 => repeat (first | exact Blk.mk' (by simp [setCell_size]) | refine Blk.alloc ?_ _)
  rintro e w9 ⟨rfl, b9⟩
  have B9 : Below w8.heap.size w8 w9 := bJoin (by repeat (first | exact Below.refl _ _ | refine bAl ?_ _)) b9
  have B19 := bJoin B18 B9
  have k26 := Blk.on k16 B9
  have k27 := Blk.on k17 B9
  have k28 := Blk.on k18 B9
  have sc9 := sc8.at B9
  have v0 := (k26.cell 0).trans rfl
  have v1 := (k26.cell 1).trans rfl
  have v2 := (k26.cell 2).trans rfl
  have v3 := (k26.cell 3).trans rfl
  have v4 := (k26.cell 4).trans rfl
  go_wp2_with fail
  refine (vd (z := 3) hT ?_ (prB (z := 0) (sc9.at ?_) ?_ ?_) ?_ aw6).mono ?_
  case refine_1 => exact bJoin B19 (by repeat (first | exact Below.refl _ _ | refine bAl ?_ _))
  case refine_2 => repeat (first | exact Below.refl _ _ | refine bAl ?_ _)
  case refine_3 => exact Blk.on k28 (by repeat (first | exact Below.refl _ _ | refine bAl ?_ _))
  case refine_4 => exact Blk.on k27 (by repeat (first | exact Below.refl _ _ | refine bAl ?_ _))
  case refine_5 => repeat (first | exact Blk.mk' (by simp [setCell_size]) | refine Blk.alloc ?_ _)
  rintro e w10 ⟨rfl, b10⟩
  have B20 := bJoin B19 (bJoin (by repeat (first | exact Below.refl _ _ | refine bAl ?_ _)) b10)
  go_wp2_with fail
  go_ret
  exact ⟨rfl, B20⟩
end Go.Proofs.YtcdgmdhfaniciaaDoor
