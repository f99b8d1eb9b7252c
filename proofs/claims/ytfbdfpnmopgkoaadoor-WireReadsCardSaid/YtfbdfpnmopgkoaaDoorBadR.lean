/- A reader that reads nothing: nil, or behind an error. -/
import Derived.Test.YtfbdfpnmopgkoaaDoorNilR
import Derived.Test.YtfbdfpnmopgkoaaDoorRrdB
import Derived.Test.YtfbdfpnmopgkoaaDoorLst
import Derived.Test.YtfbdfpnmopgkoaaDoorEqI
namespace Go.Proofs.YtfbdfpnmopgkoaaDoor
open Go.RowKit
set_option linter.unusedVariables false
set_option linter.unusedSimpArgs false

/-- Where Q holds, the reader rp reads nothing; its error is er. -/
structure BadR (rp : Option Addr) (er : Int) (Q : World → Prop) : Prop where
  on : ∀ W W', Q W → Below W.heap.size W W' → Q W'
  uint : ∀ (W : World) (m : Int), Q W → Calls Tryd.prog 15 #[.pointer rp, .int .u64 m] W fun e w' => e = .returned (.int .u64 0) ∧ W = w'
  number : ∀ (W : World) (m : Int), Q W → Calls Tryd.prog 29 #[.pointer rp, .int .i64 m] W fun e w' => e = .returned (.int .i64 0) ∧ W = w'
  int : ∀ (W : World) (m k : Int), Q W → Calls Tryd.prog 31 #[.pointer rp, .int .i64 m, .int .i64 k] W fun e w' => e = .returned (.int .i64 0) ∧ W = w'
  bytes : ∀ (W : World) (m : Int), Q W → Calls Tryd.prog 16 #[.pointer rp, .int .i64 m] W fun e w' => e = .returned (.slice none 0 0) ∧ W = w'
  string : ∀ (W : World) (m : Int), Q W → Calls Tryd.prog 33 #[.pointer rp, .int .i64 m] W fun e w' => e = .returned (.string (bstr [])) ∧ W = w'
  flag : ∀ (W : World) , Q W → Calls Tryd.prog 17 #[.pointer rp] W fun e w' => e = .returned (.bool false) ∧ W = w'
  raw : ∀ (W : World) (m : Int), Q W → Calls Tryd.prog 36 #[.pointer rp, .int .i64 m] W fun e w' => e = .returned (.slice none 0 0) ∧ W = w'
  count : ∀ (W : World) (m : Int), Q W → Calls Tryd.prog 38 #[.pointer rp, .int .i64 m] W fun e w' => e = .returned (.int .i64 0) ∧ W = w'
  fail : ∀ (W : World) (m : Int), Q W → Calls Tryd.prog 43 #[.pointer rp, .int .i64 m] W fun e w' => e = .returned (.tuple #[]) ∧ W = w'
  ende : ∀ (W : World) , Q W → Calls Tryd.prog 11 #[.pointer rp] W fun e w' => e = .returned (.int .i64 er) ∧ W = w'
  set : ∀ (W : World) (m : Int), Q W → Calls Tryd.prog 18 #[.pointer rp, .int .i64 m] W fun e w' => ∃ v', e = .returned v' ∧ SetAt w' w'.heap.size v' 0 ∧ Below W.heap.size W w'

/-- The nil reader. -/
theorem badN : BadR none 1 (fun _ => True) :=
  ⟨fun _ _ _ _ => trivial, fun W m _ => rUintN m W, fun W m _ => rNumberN m W, fun W m k _ => rIntN m k W, fun W m _ => rBytesN m W, fun W m _ => rStringN m W, fun W  _ => rFlagN W, fun W m _ => rRawN m W, fun W m _ => rCountN m W, fun W m _ => failN_any m W, fun W  _ => endN_any W, fun W m _ => rSetN m W⟩

theorem rNumber_bad (m : Int) (g : Nat) (p : List UInt8) (er : Int) (w : World) (h : RdAt w g p er) (he : er ≠ 0) :
    Calls Tryd.prog 29 #[.pointer (some ⟨g, 0, none⟩), .int .i64 m] w fun e w' => e = .returned (.int .i64 0) ∧ w = w' := by
  have hk := ok_any g p er w h
  rw [beq_false_of_ne he] at hk
  go_enter Tryd.func29, Tryd.ntmps29
  go_wp2_with fail
  refine hk.mono ?_
  rintro e w1 ⟨rfl, rfl⟩
  go_wp2_with fail
  go_ret
  exact ⟨rfl, rfl⟩
theorem rRaw_bad (m : Int) (g : Nat) (p : List UInt8) (er : Int) (w : World) (h : RdAt w g p er) (he : er ≠ 0) :
    Calls Tryd.prog 36 #[.pointer (some ⟨g, 0, none⟩), .int .i64 m] w fun e w' => e = .returned (.slice none 0 0) ∧ w = w' := by
  have hk := ok_any g p er w h
  rw [beq_false_of_ne he] at hk
  go_enter Tryd.func36, Tryd.ntmps36
  go_wp2_with fail
  refine hk.mono ?_
  rintro e w1 ⟨rfl, rfl⟩
  go_wp2_with fail
  go_ret
  exact ⟨rfl, rfl⟩
theorem rCount_bad (m : Int) (g : Nat) (p : List UInt8) (er : Int) (w : World) (h : RdAt w g p er) (he : er ≠ 0) :
    Calls Tryd.prog 38 #[.pointer (some ⟨g, 0, none⟩), .int .i64 m] w fun e w' => e = .returned (.int .i64 0) ∧ w = w' := by
  have hk := ok_any g p er w h
  rw [beq_false_of_ne he] at hk
  go_enter Tryd.func38, Tryd.ntmps38
  go_wp2_with fail
  refine hk.mono ?_
  rintro e w1 ⟨rfl, rfl⟩
  go_wp2_with fail
  go_ret
  exact ⟨rfl, rfl⟩
theorem fail_bad (m : Int) (g : Nat) (p : List UInt8) (er : Int) (w : World) (h : RdAt w g p er) (he : er ≠ 0) :
    Calls Tryd.prog 43 #[.pointer (some ⟨g, 0, none⟩), .int .i64 m] w fun e w' => e = .returned (.tuple #[]) ∧ w = w' := by
  have hk := ok_any g p er w h
  rw [beq_false_of_ne he] at hk
  go_enter Tryd.func43, Tryd.ntmps43
  go_wp2_with fail
  refine hk.mono ?_
  rintro e w1 ⟨rfl, rfl⟩
  go_wp2_with fail
  go_end0
  exact ⟨rfl, rfl⟩
theorem rSet_badB (g : Nat) (p : List UInt8) (er most : Int) (w : World) (h : RdAt w g p er) (he : er ≠ 0) :
    Calls Tryd.prog 18 #[.pointer (some ⟨g, 0, none⟩), .int .i64 most] w fun e w' => ∃ v', e = .returned v' ∧ SetAt w' w'.heap.size v' 0 ∧ Below w.heap.size w w' := by
  have bA : Below w.heap.size w (w.alloc (.cells #[.slice none 0 0] 48)) := (Below.refl _ _).alloc (Nat.le_refl _) _
  have hk := ok_any g p er _ (h.on bA)
  rw [beq_false_of_ne he] at hk
  go_enter Tryd.func18, Tryd.ntmps18
  go_wp2_with fail
  refine hk.mono ?_
  rintro e w1 ⟨rfl, rfl⟩
  go_wp2_with fail
  refine ret_set rfl w.heap.size (.slice none 0 0) rfl (Blk.new _ _ _) rfl ?_
  exact ⟨_, rfl, SetAt.zero _ _ _ _, bA⟩
theorem end_bad (g : Nat) (p : List UInt8) (er : Int) (w : World) (h : RdAt w g p er) (he : er ≠ 0) :
    Calls Tryd.prog 11 #[.pointer (some ⟨g, 0, none⟩)] w fun e w' => e = .returned (.int .i64 er) ∧ w = w' := by
  have := end_any g p er w h
  rw [if_neg (by rintro ⟨e, _⟩; exact he e)] at this
  exact this
/-- A reader behind an error. -/
theorem badE (g : Nat) (p : List UInt8) (er : Int) (he : er ≠ 0) : BadR (some ⟨g, 0, none⟩) er (fun W => RdAt W g p er) :=
  ⟨fun _ _ h hb => h.on hb, fun W m h => rUint_bad g p er m W h he, fun W m h => rNumber_bad m g p er W h he, fun W m k h => rInt_bad g p er m k W h he, fun W m h => rBytes_bad g p er m W h he, fun W m h => rString_bad g p er m W h he, fun W  h => rFlag_bad g p er W h he, fun W m h => rRaw_bad m g p er W h he, fun W m h => rCount_bad m g p er W h he, fun W m h => fail_bad m g p er W h he, fun W  h => end_bad g p er W h he, fun W m h => rSet_badB g p er m W h he⟩
end Go.Proofs.YtfbdfpnmopgkoaaDoor
