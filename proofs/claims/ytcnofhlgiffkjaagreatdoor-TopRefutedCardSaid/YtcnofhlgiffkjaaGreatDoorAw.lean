/- The walk of layer 41's examples. -/
import Derived.Test.YtcnofhlgiffkjaaGreatDoorPc
import Derived.Test.YtcnofhlgiffkjaaGreatDoorCheck
namespace Go.Proofs.YtcnofhlgiffkjaaGreatDoor
open Go.RowKit
set_option linter.unusedVariables false
set_option linter.unusedSimpArgs false

def awP1 : Pr := ⟨[ofL [1], ofL [1]], [(0, 1)], [], [], [0, 0]⟩
def awP2 (z : Int) : Pr := ⟨[ofL [1, 2]], [], [], [], [z]⟩
def awN1 : List Nd := [⟨3, 0, [], [0, 1]⟩]
def awN2 : List Nd := [⟨1, 0, [1], []⟩, ⟨1, 1, [2], []⟩, ⟨2, 0, [], []⟩]
def awN3 : List Nd := [⟨2, 0, [], []⟩]
def awN4 : List Nd := [⟨1, 0, [1, 2], []⟩, ⟨2, 0, [], []⟩, ⟨2, 0, [], []⟩]
theorem aw1 : chkR awP1 awN1 = (1, 0) := by decide +kernel
theorem aw2 : chkR awP1 awN2 = (1, 0) := by decide +kernel
theorem aw3 : chkR (awP2 3) awN3 = (1, 0) := by decide +kernel
theorem aw4 : chkR (awP2 0) awN4 = (4, 1) := by decide +kernel
theorem aw5 : ValidB (awP2 0) [2] = true := by decide +kernel
theorem aw6 : ValidB (awP2 0) [3] = false := by decide +kernel

/-- bits.Of of a literal that was just laid. -/
theorem ofLit (w : World) (l : List Nat) (cs : Array Value) (n : Nat) (g : Nat) (hc : cs.toList = niv l) (hn : l.length = n) (hl : ∀ i ∈ l, i < 4096) (hb : n ≤ 1000) (hg : g = w.heap.size) :
    Calls Tryz.prog 17 #[.slice (some ⟨g, 0, none⟩) n n] (w.alloc (.cells cs 3)) fun e w' => ∃ A n c, e = .returned (.agg #[.slice A n c]) ∧ SetAt w' w'.heap.size (.agg #[.slice A n c]) (ofL l) ∧ Below w.heap.size w w' :=
  (of_any (some ⟨g, 0, none⟩) n n l _ (Sees.laid w _ _ _ _ hc _ hg) hn hl (by omega)).mono (by
    rintro e w' ⟨v, rfl, hs, hb⟩
    obtain ⟨A, n, c, rfl, _⟩ := id hs
    exact ⟨A, n, c, rfl, hs, ((Below.refl _ _).alloc (Nat.le_refl _) _).trans (hb.mono (by simp))⟩)

theorem prA {W : World} {g g1 g3 : Nat} {Aa Ab : Option Addr} {na ca nb cb : Nat} (sa : SetAt W W.heap.size (.agg #[.slice Aa na ca]) (ofL [1])) (sb : SetAt W W.heap.size (.agg #[.slice Ab nb cb]) (ofL [1]))
    (k1 : Blk W g 63 #[.slice Aa na ca, .slice Ab nb cb]) (k2 : Blk W g1 77 #[.int .i64 0, .int .i64 1]) (k3 : Blk W g3 3 #[.int .i64 0, .int .i64 0]) :
    PrAt W W.heap.size ⟨⟨some ⟨g, 0, none⟩, 2, 2⟩, ⟨some ⟨g1, 0, none⟩, 1, 1⟩, ⟨none, 0, 0⟩, ⟨none, 0, 0⟩, ⟨some ⟨g3, 0, none⟩, 2, 2⟩⟩ awP1 :=
  ⟨rfl, rfl, rfl, rfl, rfl, SetsAt.blk k1 (get2 ⟨_, rfl, sa⟩ ⟨_, rfl, sb⟩), PairsAt.blk k2 (get1 ⟨rfl, rfl⟩), PairsAt.nil _ _ _, MostAt.nil _ _ _, Blk.sees (xs := [.int .i64 0, .int .i64 0]) k3, by simp, by simp, by simp, by simp, by simp, by simp⟩
theorem prB {W : World} {g g3 : Nat} {z : Int} {Aa : Option Addr} {na ca : Nat} (sa : SetAt W W.heap.size (.agg #[.slice Aa na ca]) (ofL [1, 2]))
    (k1 : Blk W g 63 #[.slice Aa na ca]) (k3 : Blk W g3 3 #[.int .i64 z]) :
    PrAt W W.heap.size ⟨⟨some ⟨g, 0, none⟩, 1, 1⟩, ⟨none, 0, 0⟩, ⟨none, 0, 0⟩, ⟨none, 0, 0⟩, ⟨some ⟨g3, 0, none⟩, 1, 1⟩⟩ (awP2 z) :=
  ⟨rfl, rfl, rfl, rfl, rfl, SetsAt.blk k1 (get1 ⟨_, rfl, sa⟩), PairsAt.nil _ _ _, PairsAt.nil _ _ _, MostAt.nil _ _ _, Blk.sees (xs := [.int .i64 z]) k3, by simp, by simp, by simp, by simp, by simp, by simp⟩
theorem ndl_nil (w : World) (k : Nat) (s : Int) (hk : k < 256) : NdL w w.heap.size ⟨none, 0, 0⟩ ⟨none, 0, 0⟩ ⟨k, s, [], []⟩ := ⟨hk, Sees.nil _ _ _, Sees.nil _ _ _, rfl, rfl, Nat.le_refl _, Nat.le_refl _, by simp, by simp⟩
theorem ndA {W : World} {g gs : Nat} (k : Blk W g 95 #[.int .u8 3, .int .i64 0, .slice none 0 0, .slice (some ⟨gs, 0, none⟩) 2 2]) (ks : Blk W gs 3 #[.int .i64 0, .int .i64 1]) :
    NodesAt W W.heap.size (some ⟨g, 0, none⟩) awN1 := NodesAt.blk k (get1 ⟨⟨none, 0, 0⟩, ⟨some ⟨gs, 0, none⟩, 2, 2⟩, rfl, rfl, rfl, rfl, by simp, Sees.nil _ _ _, Blk.sees (xs := [.int .i64 0, .int .i64 1]) ks, rfl, rfl, by simp, by simp, by simp, by simp⟩)
theorem ndB {W : World} {g ga gb : Nat} (k : Blk W g 95 #[.int .u8 1, .int .i64 0, .slice (some ⟨ga, 0, none⟩) 1 1, .slice none 0 0, .int .u8 1, .int .i64 1, .slice (some ⟨gb, 0, none⟩) 1 1, .slice none 0 0, .int .u8 2, .int .i64 0, .slice none 0 0, .slice none 0 0])
    (ka : Blk W ga 3 #[.int .i64 1]) (kb : Blk W gb 3 #[.int .i64 2]) :
    NodesAt W W.heap.size (some ⟨g, 0, none⟩) awN2 := NodesAt.blk k (get3 ⟨⟨some ⟨ga, 0, none⟩, 1, 1⟩, ⟨none, 0, 0⟩, rfl, rfl, rfl, rfl, by simp, Blk.sees (xs := [.int .i64 1]) ka, Sees.nil _ _ _, rfl, rfl, by simp, by simp, by simp, by simp⟩
    ⟨⟨some ⟨gb, 0, none⟩, 1, 1⟩, ⟨none, 0, 0⟩, rfl, rfl, rfl, rfl, by simp, Blk.sees (xs := [.int .i64 2]) kb, Sees.nil _ _ _, rfl, rfl, by simp, by simp, by simp, by simp⟩ ⟨⟨none, 0, 0⟩, ⟨none, 0, 0⟩, rfl, rfl, rfl, rfl, ndl_nil _ _ _ (by simp)⟩)
theorem ndC {W : World} {g : Nat} (k : Blk W g 95 #[.int .u8 2, .int .i64 0, .slice none 0 0, .slice none 0 0]) :
    NodesAt W W.heap.size (some ⟨g, 0, none⟩) awN3 := NodesAt.blk k (get1 ⟨⟨none, 0, 0⟩, ⟨none, 0, 0⟩, rfl, rfl, rfl, rfl, ndl_nil _ _ _ (by simp)⟩)
theorem ndD {W : World} {g ga : Nat} (k : Blk W g 95 #[.int .u8 1, .int .i64 0, .slice (some ⟨ga, 0, none⟩) 2 2, .slice none 0 0, .int .u8 2, .int .i64 0, .slice none 0 0, .slice none 0 0, .int .u8 2, .int .i64 0, .slice none 0 0, .slice none 0 0])
    (ka : Blk W ga 3 #[.int .i64 1, .int .i64 2]) :
    NodesAt W W.heap.size (some ⟨g, 0, none⟩) awN4 := NodesAt.blk k (get3 ⟨⟨some ⟨ga, 0, none⟩, 2, 2⟩, ⟨none, 0, 0⟩, rfl, rfl, rfl, rfl, by simp, Blk.sees (xs := [.int .i64 1, .int .i64 2]) ka, Sees.nil _ _ _, rfl, rfl, by simp, by simp, by simp, by simp⟩
    ⟨⟨none, 0, 0⟩, ⟨none, 0, 0⟩, rfl, rfl, rfl, rfl, ndl_nil _ _ _ (by simp)⟩ ⟨⟨none, 0, 0⟩, ⟨none, 0, 0⟩, rfl, rfl, rfl, rfl, ndl_nil _ _ _ (by simp)⟩)
/-- Check, as awake calls it. -/
theorem ck {w W : World} {p : PrV} {P : Pr} {An : Option Addr} {n cn : Nat} {l : List Nd} {r1 : Nat} {r2 : Int} (hT : Tab w) (hw : Below w.heap.size w W) (h : PrAt W W.heap.size p P) (hN : NodesAt W W.heap.size An l) (hn : l.length = n) (hb : n ≤ 1000000) (hr : chkR P l = (r1, r2)) :
    Calls Tryz.prog 12 #[p.v, .agg #[.slice An n cn]] W fun e w' => e = .returned (.tuple #[.int .u8 (r1 : Int), .int .i64 r2]) ∧ Below W.heap.size W w' := by
  have h1 := check_any p P An n cn l W h hN hn hb (hT.below hw (World.block_lt_of_cell? w _ (hT 0 (by omega))))
  rw [hr] at h1
  exact h1

/-- Valid, as awake calls it. -/
theorem vd {w W : World} {p : PrV} {P : Pr} {g : Nat} {z : Int} {r : Bool} (hT : Tab w) (hw : Below w.heap.size w W) (h : PrAt W W.heap.size p P) (hl : Blk W g 3 #[.int .i64 z]) (hr : ValidB P [z] = r) :
    Calls Tryz.prog 11 #[p.v, .slice (some ⟨g, 0, none⟩) 1 1] W fun e w' => e = .returned (.bool r) ∧ Below W.heap.size W w' := by
  have h1 := Valid_any p P (some ⟨g, 0, none⟩) 1 1 [z] W h (Blk.sees (xs := [.int .i64 z]) hl) rfl (by simp) (hT.below hw (World.block_lt_of_cell? w _ (hT 0 (by omega))))
  rw [hr] at h1
  exact h1

end Go.Proofs.YtcnofhlgiffkjaaGreatDoor
