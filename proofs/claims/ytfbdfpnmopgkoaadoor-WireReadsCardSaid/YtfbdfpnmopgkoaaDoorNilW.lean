/- The methods of a nil writer, and the laws' put to it. -/
import Derived.Test.YtfbdfpnmopgkoaaDoorLawB
import Derived.Test.YtfbdfpnmopgkoaaDoorWireJ
namespace Go.Proofs.YtfbdfpnmopgkoaaDoor
open Go.RowKit
set_option linter.unusedVariables false
set_option linter.unusedSimpArgs false

theorem rawN_any (A : Option Addr) (n c : Nat) (w : World) :
    Calls Tryd.prog 51 #[.pointer none, .slice A n c] w fun e w' => e = .returned (.tuple #[]) ∧ w = w' := by
  go_enter Tryd.func51, Tryd.ntmps51
  go_wp2_with fail
  go_end0
  exact ⟨rfl, rfl⟩
theorem uintN_any (V : Nat) (w : World) (hV : V < 18446744073709551616) :
    Calls Tryd.prog 21 #[.pointer none, .int .u64 (V : Int)] w fun e w' => e = .returned (.tuple #[]) ∧ Below w.heap.size w w' := by
  go_enter Tryd.func21, Tryd.ntmps21
  go_wp2_with fail
  refine (groups_any V _ hV).mono ?_
  rintro e w1 ⟨A, n, c, rfl, ho, hB⟩
  go_wp2_with fail
  refine (rawN_any A n c w1).mono ?_
  rintro e w2 ⟨rfl, rfl⟩
  go_wp2_with fail
  go_end0
  exact ⟨rfl, hB⟩
theorem intN_any (z : Int) (w : World) (h1 : -9223372036854775808 ≤ z) (h2 : z ≤ 9223372036854775807) :
    Calls Tryd.prog 22 #[.pointer none, .int .i64 z] w fun e w' => e = .returned (.tuple #[]) ∧ Below w.heap.size w w' := by
  have hzl := zig_lt h1 h2
  have hu := uintN_any (zig z) w hzl
  by_cases hz : z < 0
  · have e : ((zig z : Nat) : Int) = 2 * (-(z + 1)) + 1 := by unfold zig; rw [if_pos hz]; omega
    rw [e] at hu
    clear e hzl
    go_enter Tryd.func22, Tryd.ntmps22
    go_wp2_with fail
    refine hu.mono ?_
    rintro e w1 ⟨rfl, hw1⟩
    go_wp2_with fail
    (try simp only [Exit.inBlock, Exit.then]); refine bodyPost_ret (results_none rfl _ _ _) rfl ?_
    exact ⟨rfl, hw1⟩
  · have e : ((zig z : Nat) : Int) = 2 * z := by unfold zig; rw [if_neg hz]; omega
    rw [e] at hu
    clear e hzl
    go_enter Tryd.func22, Tryd.ntmps22
    go_wp2_with fail
    refine hu.mono ?_
    rintro e w1 ⟨rfl, hw1⟩
    go_wp2_with fail
    go_end0
    exact ⟨rfl, hw1⟩
theorem bytesN_any (A : Option Addr) (n c : Nat) (w : World) (hb : n ≤ 800000000000) :
    Calls Tryd.prog 48 #[.pointer none, .slice A n c] w fun e w' => e = .returned (.tuple #[]) ∧ Below w.heap.size w w' := by
  have hn1 : (n : Int) ≤ 800000000000 := by omega
  go_enter Tryd.func48, Tryd.ntmps48
  go_wp2_with fail
  refine (uintN_any n _ (by omega)).mono ?_
  rintro e w1 ⟨rfl, hB⟩
  go_wp2_with fail
  refine (rawN_any A n c w1).mono ?_
  rintro e w2 ⟨rfl, rfl⟩
  go_wp2_with fail
  go_end0
  exact ⟨rfl, hB⟩
theorem stringN_any (p : List UInt8) (w : World) (hb : p.length ≤ 800000000000) :
    Calls Tryd.prog 23 #[.pointer none, .string (bstr p)] w fun e w' => e = .returned (.tuple #[]) ∧ Below w.heap.size w w' := by
  obtain ⟨c, w1, hrun, hs, hB⟩ := run_bytes w p
  have hB1 := bytesN_any (some ⟨w.heap.size, 0, none⟩) p.length c w1 hb
  go_enter Tryd.func23, Tryd.ntmps23
  go_wp2_with fail
  refine hB1.mono ?_
  rintro e w2 ⟨rfl, hB2⟩
  go_wp2_with fail
  go_end0
  exact ⟨rfl, hB.trans (hB2.mono hB.size)⟩
theorem flagN_any (b : Bool) (w : World) :
    Calls Tryd.prog 49 #[.pointer none, .bool b] w fun e w' => e = .returned (.tuple #[]) ∧ Below w.heap.size w w' := by
  cases b
  · go_enter Tryd.func49, Tryd.ntmps49
    go_wp2_with fail
    refine (rawN_any _ _ _ _).mono ?_
    rintro e w1 ⟨rfl, rfl⟩
    go_wp2_with fail
    go_end0
    exact ⟨rfl, (Below.refl _ _).alloc (Nat.le_refl _) _⟩
  · go_enter Tryd.func49, Tryd.ntmps49
    go_wp2_with fail
    refine (rawN_any _ _ _ _).mono ?_
    rintro e w1 ⟨rfl, rfl⟩
    go_wp2_with fail
    (try simp only [Exit.inBlock, Exit.then]); refine bodyPost_ret (results_none rfl _ _ _) rfl ?_
    exact ⟨rfl, (Below.refl _ _).alloc (Nat.le_refl _) _⟩
theorem setN_any (s : Value) (M : Nat) (w : World) (hs : SetAt w w.heap.size s M) :
    Calls Tryd.prog 24 #[.pointer none, s] w fun e w' => e = .returned (.tuple #[]) ∧ Below w.heap.size w w' := by
  have hs' := hs
  obtain ⟨As, ns, cs, rfl, a1, a2, a3, sS, _⟩ := hs'
  have h512 : (sbytes M).length ≤ 512 := by
    rw [sbytes_length]
    have := len2_8_64 M
    omega
  have ba : Below w.heap.size w (w.alloc (.cells #[.slice As ns cs] 48)) := (Below.refl _ _).alloc (Nat.le_refl _) _
  have A3 := Lib.hid a3
  clear a3
  go_enter Tryd.func24, Tryd.ntmps24
  go_wp2_with fail
  refine (setBytes_any _ M _ (hs.on ba)).mono ?_
  rintro e w1 ⟨A, n, c, rfl, ho, hB⟩
  have hnl := ho.len
  go_wp2_with fail
  refine (bytesN_any A n c w1 (by omega)).mono ?_
  rintro e w2 ⟨rfl, hB2⟩
  go_wp2_with fail
  go_end0
  have b1 := ba.trans (hB.mono ba.size)
  exact ⟨rfl, b1.trans (hB2.mono b1.size)⟩
theorem outN_any (w : World) :
    Calls Tryd.prog 14 #[.pointer none] w fun e w' => e = .returned (.slice none 0 0) ∧ w = w' := by
  go_enter Tryd.func14, Tryd.ntmps14
  go_wp2_with fail
  go_ret
  exact ⟨rfl, rfl⟩
end Go.Proofs.YtfbdfpnmopgkoaaDoor
