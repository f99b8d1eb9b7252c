/- The walk of WireNil. -/
import Derived.Test.YtfbdfpnmopgkoaaDoorWireAw
import Derived.Test.YtfbdfpnmopgkoaaDoorNilP
import Derived.Test.YtfbdfpnmopgkoaaDoorArgsCall
namespace Go.Proofs.YtfbdfpnmopgkoaaDoor.wireNil
open Go.RowKit
set_option linter.unusedVariables false
set_option linter.unusedSimpArgs false

set_option maxHeartbeats 4000000 in
set_option maxRecDepth 100000 in
theorem walk (k u : Nat) (s : Int) (A : Option Addr) (n c : Nat) (b : List UInt8) (kc : Nat) (mo lo : Int) (w : World) (hv : ValIn w w.heap.size k u s A n c b) (hc : CallIn kc mo lo) (hT : Tab w) :
    Calls Tryd.prog 4 #[valV k u s A n c, callV kc mo lo] w fun e w' => e = .returned (.bool true) ∧ Below w.heap.size w w' := by
  have ht0 := World.block_lt_of_cell? w _ (hT 0 (by omega))
  have bx := Blk.new w 40 #[.int .u8 (k : Int), .int .u64 (u : Int), .int .i64 s, .slice A n c]
  have b1 : Below w.heap.size w (w.alloc (.cells #[.int .u8 (k : Int), .int .u64 (u : Int), .int .i64 s, .slice A n c] 40)) := (Below.refl _ _).alloc (Nat.le_refl _) _
  obtain ⟨k1, k2, k3, k4, k5⟩ := hc
  have hvon : ∀ W, Below w.heap.size w W → ValIn W W.heap.size k u s A n c b := fun W h => ⟨hv.kind, hv.num, hv.lo, hv.hi, hv.sees.on h, hv.len, hv.cap, hv.max⟩
  have by1 := Blk.new (w.alloc (.cells #[.int .u8 (k : Int), .int .u64 (u : Int), .int .i64 s, .slice A n c] 40)) 33 #[.int .u8 (kc : Int), .int .i64 mo, .int .i64 lo]
  have bx1 := bx.alloc (.cells #[.int .u8 (kc : Int), .int .i64 mo, .int .i64 lo] 33)
  have b2 : Below w.heap.size w ((w.alloc (.cells #[.int .u8 (k : Int), .int .u64 (u : Int), .int .i64 s, .slice A n c] 40)).alloc (.cells #[.int .u8 (kc : Int), .int .i64 mo, .int .i64 lo] 33)) := b1.alloc (by simp) _
  rw [World.size_alloc] at by1
  have boxX : ∀ W, Blk W w.heap.size 40 #[.int .u8 (k : Int), .int .u64 (u : Int), .int .i64 s, .slice A n c] → W.cell? ⟨w.heap.size, 0, none⟩ = some (.int .u8 (k : Int)) ∧ W.cell? ⟨w.heap.size, 1, none⟩ = some (.int .u64 (u : Int)) ∧ W.cell? ⟨w.heap.size, 2, none⟩ = some (.int .i64 s) ∧ W.cell? ⟨w.heap.size, 3, none⟩ = some (.slice A n c) := fun W hb => ⟨(hb.cell 0).trans rfl, (hb.cell 1).trans rfl, (hb.cell 2).trans rfl, (hb.cell 3).trans rfl⟩
  have boxY : ∀ W, Blk W (w.heap.size + 1) 33 #[.int .u8 (kc : Int), .int .i64 mo, .int .i64 lo] → W.cell? ⟨w.heap.size + 1, 0, none⟩ = some (.int .u8 (kc : Int)) ∧ W.cell? ⟨w.heap.size + 1, 1, none⟩ = some (.int .i64 mo) ∧ W.cell? ⟨w.heap.size + 1, 2, none⟩ = some (.int .i64 lo) := fun W hb => ⟨(hb.cell 0).trans rfl, (hb.cell 1).trans rfl, (hb.cell 2).trans rfl⟩
  unfold valV callV
  go_enter Tryd.func4, Tryd.ntmps4
  go_wp2_with fail
  refine (awake_any _).mono ?_
  rintro e w1 ⟨rfl, hB⟩
  have X1 := bx1.on hB
  have Y1 := by1.on hB
  obtain ⟨x0, x1, x2, x3⟩ := boxX w1 X1
  have bw1 := b2.trans (hB.mono b2.size)
  go_wp2_with fail
  refine (lputN_any k u s A n c b w1 (hvon w1 bw1)).mono ?_
  rintro e w2 ⟨⟨A', n', c', rfl⟩, hB2⟩
  have Y2 := Y1.on hB2
  have bw2 := bw1.trans (hB2.mono bw1.size)
  have hR : RrAt (w2.alloc (.cells #[.slice none 0 0, .int .i64 1] 30)) w2.heap.size w2.heap.size [] 1 := ⟨none, 0, 0, Blk.new _ _ _, Sees.nil _ _ _, rfl, Nat.le_refl _, by omega, by omega, Nat.le_refl _⟩
  have b3 : Below w2.heap.size w2 (w2.alloc (.cells #[.slice none 0 0, .int .i64 1] 30)) := (Below.refl _ _).alloc (Nat.le_refl _) _
  have bw3 := bw2.trans (b3.mono bw2.size)
  obtain ⟨y0, y1, y2⟩ := boxY _ (Y2.on b3)
  go_wp2_with fail
  refine (agree_bad none (fun _ => True) w2.heap.size w2.heap.size [] 1 kc mo lo _ badN trivial hR (by omega) (hT.below bw3 ht0) k1 k2 k3 k4 k5).mono ?_
  rintro e w4 ⟨rfl, hB4⟩
  have bw4 := bw3.trans (hB4.mono bw3.size)
  go_wp2_with fail
  refine (outN_any _).mono ?_
  rintro e w5 ⟨rfl, rfl⟩
  go_wp2_with fail
  refine (leftN_any _).mono ?_
  rintro e w5 ⟨rfl, rfl⟩
  go_wp2_with fail
  refine (errN_any _).mono ?_
  rintro e w5 ⟨rfl, rfl⟩
  go_wp2_with fail
  refine (endN_any _).mono ?_
  rintro e w5 ⟨rfl, rfl⟩
  go_wp2_with fail
  refine (rUintN _ _).mono ?_
  rintro e w5 ⟨rfl, rfl⟩
  go_wp2_with fail
  refine (rBytesN _ _).mono ?_
  rintro e w5 ⟨rfl, rfl⟩
  go_wp2_with fail
  refine (rFlagN _).mono ?_
  rintro e w5 ⟨rfl, rfl⟩
  go_wp2_with fail
  refine (rSetN _ _).mono ?_
  rintro e w5 ⟨vS, rfl, hS, hB5⟩
  go_wp2_with fail
  refine (empty_any vS 0 w5 hS).mono ?_
  rintro e w6 ⟨rfl, hB6⟩
  go_wp2_with fail
  go_ret
  exact ⟨rfl, bw4.trans (hB5.trans (hB6.mono hB5.size) |>.mono bw4.size)⟩
end Go.Proofs.YtfbdfpnmopgkoaaDoor.wireNil
