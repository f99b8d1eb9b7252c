/- The methods of the reference's reader, behind an error; its End. -/
import Derived.Test.YtfbdfpnmopgkoaaDoorRrd
namespace Go.Proofs.YtfbdfpnmopgkoaaDoor
open Go.RowKit
set_option linter.unusedVariables false
set_option linter.unusedSimpArgs false

theorem rrUint_bad (m : Int) (B g : Nat) (p : List UInt8) (er : Int) (w : World) (h : RrAt w B g p er) (he : er ≠ 0) :
    Calls Tryd.prog 28 #[.pointer (some ⟨g, 0, none⟩), .int .u64 m] w fun e w' => e = .returned (.int .u64 0) ∧ w = w' := by
  obtain ⟨A, n, c, h⟩ := h
  obtain ⟨c0, c1, f0, f1⟩ := h.cells
  have hb : (er != 0) = true := by simpa using he
  have hb2 : (er == 0) = false := beq_false_of_ne he
  go_enter Tryd.func28, Tryd.ntmps28
  go_wp2_with fail
  go_ret
  exact ⟨rfl, rfl⟩
theorem rrNumber_bad (m : Int) (B g : Nat) (p : List UInt8) (er : Int) (w : World) (h : RrAt w B g p er) (he : er ≠ 0) :
    Calls Tryd.prog 30 #[.pointer (some ⟨g, 0, none⟩), .int .i64 m] w fun e w' => e = .returned (.int .i64 0) ∧ w = w' := by
  have hu := fun M => rrUint_bad M B g p er w h he
  obtain ⟨A, n, c, h⟩ := h
  obtain ⟨c0, c1, f0, f1⟩ := h.cells
  have hb2 : (er == 0) = false := beq_false_of_ne he
  go_enter Tryd.func30, Tryd.ntmps30
  go_wp2_with (at_builtin; refine wpL_max2 _ rfl _ _ _ rfl m 0 rfl rfl _ rfl ?_)
  refine (hu _).mono ?_
  rintro e w1 ⟨rfl, rfl⟩
  go_wp2_with fail
  go_ret
  exact ⟨rfl, rfl⟩
theorem rrInt_bad (m k : Int) (B g : Nat) (p : List UInt8) (er : Int) (w : World) (h : RrAt w B g p er) (he : er ≠ 0) :
    Calls Tryd.prog 32 #[.pointer (some ⟨g, 0, none⟩), .int .i64 m, .int .i64 k] w fun e w' => e = .returned (.int .i64 0) ∧ w = w' := by
  obtain ⟨A, n, c, h⟩ := h
  obtain ⟨c0, c1, f0, f1⟩ := h.cells
  have hb : (er != 0) = true := by simpa using he
  have hb2 : (er == 0) = false := beq_false_of_ne he
  go_enter Tryd.func32, Tryd.ntmps32
  go_wp2_with fail
  go_ret
  exact ⟨rfl, rfl⟩
theorem rrBytes_bad (m : Int) (B g : Nat) (p : List UInt8) (er : Int) (w : World) (h : RrAt w B g p er) (he : er ≠ 0) :
    Calls Tryd.prog 34 #[.pointer (some ⟨g, 0, none⟩), .int .i64 m] w fun e w' => e = .returned (.slice none 0 0) ∧ w = w' := by
  obtain ⟨A, n, c, h⟩ := h
  obtain ⟨c0, c1, f0, f1⟩ := h.cells
  have hb : (er != 0) = true := by simpa using he
  have hb2 : (er == 0) = false := beq_false_of_ne he
  go_enter Tryd.func34, Tryd.ntmps34
  go_wp2_with fail
  go_ret
  exact ⟨rfl, rfl⟩
theorem rrFlag_bad  (B g : Nat) (p : List UInt8) (er : Int) (w : World) (h : RrAt w B g p er) (he : er ≠ 0) :
    Calls Tryd.prog 35 #[.pointer (some ⟨g, 0, none⟩)] w fun e w' => e = .returned (.bool false) ∧ w = w' := by
  obtain ⟨A, n, c, h⟩ := h
  obtain ⟨c0, c1, f0, f1⟩ := h.cells
  have hb : (er != 0) = true := by simpa using he
  have hb2 : (er == 0) = false := beq_false_of_ne he
  go_enter Tryd.func35, Tryd.ntmps35
  go_wp2_with fail
  go_ret
  exact ⟨rfl, rfl⟩
theorem rrRaw_bad (m : Int) (B g : Nat) (p : List UInt8) (er : Int) (w : World) (h : RrAt w B g p er) (he : er ≠ 0) :
    Calls Tryd.prog 37 #[.pointer (some ⟨g, 0, none⟩), .int .i64 m] w fun e w' => e = .returned (.slice none 0 0) ∧ w = w' := by
  obtain ⟨A, n, c, h⟩ := h
  obtain ⟨c0, c1, f0, f1⟩ := h.cells
  have hb : (er != 0) = true := by simpa using he
  have hb2 : (er == 0) = false := beq_false_of_ne he
  go_enter Tryd.func37, Tryd.ntmps37
  go_wp2_with fail
  go_ret
  exact ⟨rfl, rfl⟩
theorem rrCount_bad (m : Int) (B g : Nat) (p : List UInt8) (er : Int) (w : World) (h : RrAt w B g p er) (he : er ≠ 0) :
    Calls Tryd.prog 39 #[.pointer (some ⟨g, 0, none⟩), .int .i64 m] w fun e w' => e = .returned (.int .i64 0) ∧ w = w' := by
  obtain ⟨A, n, c, h⟩ := h
  obtain ⟨c0, c1, f0, f1⟩ := h.cells
  have hb : (er != 0) = true := by simpa using he
  have hb2 : (er == 0) = false := beq_false_of_ne he
  go_enter Tryd.func39, Tryd.ntmps39
  go_wp2_with fail
  go_ret
  exact ⟨rfl, rfl⟩
theorem rrSet_bad (m : Int) (B g : Nat) (p : List UInt8) (er : Int) (w : World) (h : RrAt w B g p er) (he : er ≠ 0) :
    Calls Tryd.prog 42 #[.pointer (some ⟨g, 0, none⟩), .int .i64 m] w fun e w' => e = .returned (.slice none 0 0) ∧ w = w' := by
  obtain ⟨A, n, c, h⟩ := h
  obtain ⟨c0, c1, f0, f1⟩ := h.cells
  have hb : (er != 0) = true := by simpa using he
  have hb2 : (er == 0) = false := beq_false_of_ne he
  go_enter Tryd.func42, Tryd.ntmps42
  go_wp2_with fail
  go_ret
  exact ⟨rfl, rfl⟩
theorem rrEnd_bad  (B g : Nat) (p : List UInt8) (er : Int) (w : World) (h : RrAt w B g p er) (he : er ≠ 0) :
    Calls Tryd.prog 12 #[.pointer (some ⟨g, 0, none⟩)] w fun e w' => e = .returned (.int .i64 er) ∧ w = w' := by
  obtain ⟨A, n, c, h⟩ := h
  obtain ⟨c0, c1, f0, f1⟩ := h.cells
  have hb : (er != 0) = true := by simpa using he
  have hb2 : (er == 0) = false := beq_false_of_ne he
  go_enter Tryd.func12, Tryd.ntmps12
  go_wp2_with fail
  go_ret
  exact ⟨rfl, rfl⟩
theorem rrEnd_any (B g : Nat) (p : List UInt8) (er : Int) (w : World) (h : RrAt w B g p er) :
    Calls Tryd.prog 12 #[.pointer (some ⟨g, 0, none⟩)] w fun e w' => e = .returned (.int .i64 (if er = 0 ∧ p ≠ [] then 6 else er)) ∧ w = w' := by
  by_cases he : er = 0
  · subst he
    obtain ⟨A, n, c, h⟩ := h
    obtain ⟨c0, c1, f0, f1⟩ := h.cells
    have hl := h.len
    by_cases hp : p = []
    · subst hp
      obtain rfl : n = 0 := hl.symm
      go_enter Tryd.func12, Tryd.ntmps12
      go_wp2_with fail
      go_ret
      exact ⟨rfl, rfl⟩
    · rw [if_pos ⟨rfl, hp⟩]
      have hn : 0 < (n : Int) := by
        have : p.length ≠ 0 := fun e => hp (List.length_eq_zero_iff.1 e)
        omega
      clear hl
      go_enter Tryd.func12, Tryd.ntmps12
      go_wp2_with fail
      go_ret
      exact ⟨rfl, rfl⟩
  · rw [if_neg (by rintro ⟨e, _⟩; exact he e)]
    exact rrEnd_bad B g p er w h he
end Go.Proofs.YtfbdfpnmopgkoaaDoor
