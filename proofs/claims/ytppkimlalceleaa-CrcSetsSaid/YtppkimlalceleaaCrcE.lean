/- The walk of the law's examples. -/
import Derived.Test.YtppkimlalceleaaCrcD
import Derived.Lib.SlBytesConst
namespace Go.Proofs.Ytppkimlalceleaa
open Go.RowKit CrcLaw
set_option linter.unusedVariables false
set_option linter.unusedSimpArgs false

theorem ex1 : ((csum [49, 50, 51, 52, 53, 54, 55, 56, 57] : Nat) : Int) = 3808858755 := by decide +kernel
theorem ex2 : ((csum [0] : Nat) : Int) = 1383945041 := by decide +kernel
theorem ex3 : frameOf [] = [0, 0, 0, 0, 199, 75, 103, 72] := by decide +kernel
theorem ex4 : IsFrame (frameOf []) := (frame_at _).2 ⟨[], [], by simp, by simp⟩

theorem lit1 : (#[Value.int IntKind.u8 49, Value.int IntKind.u8 50, Value.int IntKind.u8 51, Value.int IntKind.u8 52, Value.int IntKind.u8 53, Value.int IntKind.u8 54, Value.int IntKind.u8 55, Value.int IntKind.u8 56, Value.int IntKind.u8 57] : Array Value).toList = ([49, 50, 51, 52, 53, 54, 55, 56, 57] : List UInt8).map bv := by simp [bv]
theorem lit2 : (#[Value.int IntKind.u8 0] : Array Value).toList = ([0] : List UInt8).map bv := by simp [bv]
theorem lit3 : (#[Value.int IntKind.u8 0, Value.int IntKind.u8 0, Value.int IntKind.u8 0, Value.int IntKind.u8 0, Value.int IntKind.u8 199, Value.int IntKind.u8 75, Value.int IntKind.u8 103, Value.int IntKind.u8 72] : Array Value).toList = ([0, 0, 0, 0, 199, 75, 103, 72] : List UInt8).map bv := by simp [bv]
set_option maxRecDepth 100000 in
/-- awake. -/
theorem awake_any (w : World) : Calls Try.prog 13 #[] w fun e w' => e = .returned (.bool true) ∧ Below w.heap.size w w' := by
  go_enter Try.func13, Try.ntmps13
  go_wp2_with fail
  refine (frame_yes none 0 0 [] _ (Sees.nil _ _ _) rfl (by omega)).mono ?_
  rintro e w1 ⟨A1, c1, rfl, o1, b1⟩
  have s1 := o1.sees
  have r1 := o1.room
  go_wp2_with fail
  refine (next_yes A1 8 c1 (frameOf []) _ s1 (frameOf_length []) (by omega) (by omega) ex4 0 (by decide +kernel)).mono ?_
  rintro e w2 ⟨A2, c2, rfl, o2, b2⟩
  have s2 := s1.on b2
  have b12 : Below w.heap.size w w2 := b1.trans (b2.mono b1.size)
  have kc := fun (w : World) (C : Array Value) (n c : Nat) => Lib.run_convert_bytes_const (P := Try.prog) w 22 5 C n c Try.underlying22 Try.underlying5
  go_wp2_with fail
  refine (sum_any _ 9 9 [49, 50, 51, 52, 53, 54, 55, 56, 57] _ (Sees.laid _ _ _ _ _ lit1 _ (by simp)) rfl (by omega)).mono ?_
  rintro e w3 ⟨rfl, rfl⟩
  rw [ex1]
  go_wp2_with fail
  refine (sum_any _ 1 1 [0] _ (Sees.laid _ _ _ _ _ lit2 _ (by simp)) rfl (by omega)).mono ?_
  rintro e w3 ⟨rfl, rfl⟩
  rw [ex2]
  go_wp2_with fail
  refine (equal_any A1 _ 8 c1 8 8 (frameOf []) [0, 0, 0, 0, 199, 75, 103, 72] _ ?_ (Sees.laid _ _ _ _ _ lit3 _ (by simp)) rfl rfl (by omega)).mono ?_
  · exact ((((s2.alloc (Nat.le_refl _) _).more (by simp)).alloc (Nat.le_refl _) _).more (by simp)).alloc (Nat.le_refl _) _ |>.more (by simp)
  rintro e w3 ⟨rfl, q, rfl⟩
  rw [ex3]
  go_wp2_with fail
  go_ret
  refine ⟨rfl, ?_⟩
  exact below_drewN (((b12.alloc b12.size _).alloc (by have := b12.size; simp; omega) _).alloc (by have := b12.size; simp; omega) _) _
end Go.Proofs.Ytppkimlalceleaa
