/- The walk of the reference's number. -/
import Derived.Test.YtcdgmdhfaniciaaDoorRtP
namespace Go.Proofs.YtcdgmdhfaniciaaDoor
open Go.RowKit
set_option linter.unusedVariables false
set_option linter.unusedSimpArgs false

theorem rnumber_any (n : Nat) (w : World) (h : n < 16384) :
    Calls Tryd.prog 63 #[.int .i64 (n : Int)] w fun e w' => ∃ A c, e = .returned (.slice A (numB n).length c) ∧ OwnB w' w.heap.size (.slice A (numB n).length c) (numB n).length (numB n) ∧ Below w.heap.size w w' := by
  unfold numB
  have hn : (n : Int) < 16384 := by omega
  by_cases c : n < 128
  · rw [if_pos c]
    have c' : (n : Int) < 128 := by omega
    have hb := bAl (Below.refl w.heap.size w) (.cells #[.int .u8 (n : Int)] 5)
    have ho := OwnB.lit w #[.int .u8 (n : Int)] 1 [UInt8.ofNat n] (by unfold maxLen; omega) rfl (by simp [bv]; omega)
    go_enter Tryd.func63, Tryd.ntmps63
    go_wp2_with fail
    go_ret
    exact ⟨_, _, rfl, ho, hb⟩
  · rw [if_neg c]
    have c' : ¬ (n : Int) < 128 := by omega
    have q1 : (n : Int).tdiv 128 = ((n / 128 : Nat) : Int) := by rw [Int.tdiv_eq_ediv_of_nonneg (by omega)]; rfl
    have q2 : (n : Int).tmod 128 = ((n % 128 : Nat) : Int) := by rw [Int.tmod_eq_emod_of_nonneg (by omega)]; rfl
    obtain ⟨a, ha⟩ : ∃ a, Hid (a = n / 128) := ⟨_, Lib.hid rfl⟩
    obtain ⟨b, hb⟩ : ∃ b, Hid (b = n % 128) := ⟨_, Lib.hid rfl⟩
    rw [← ha.out] at q1 ⊢
    rw [← hb.out] at q2 ⊢
    have a1 : a < 128 := by have := ha.out; omega
    have b1 : b < 128 := by have := hb.out; omega
    have a1i : (a : Int) < 128 := by omega
    have b1i : (b : Int) < 128 := by omega
    have e1 : UInt8.toNat (UInt8.ofNat (128 + a)) = 128 + a := by rw [UInt8.toNat_ofNat']; omega
    have e2 : UInt8.toNat (UInt8.ofNat b) = b := by rw [UInt8.toNat_ofNat']; omega
    have hbl := bAl (Below.refl w.heap.size w) (.cells #[.int .u8 (128 + (a : Int)), .int .u8 (b : Int)] 5)
    have ho := OwnB.lit w #[.int .u8 (128 + (a : Int)), .int .u8 (b : Int)] 2 [UInt8.ofNat (128 + a), UInt8.ofNat b] (by unfold maxLen; omega) rfl (by simp only [List.map_cons, List.map_nil, bv, e1, e2]; rfl)
    clear e1 e2
    obtain ⟨L, hL⟩ : ∃ L, Hid (L = [UInt8.ofNat (128 + a), UInt8.ofNat b]) := ⟨_, Lib.hid rfl⟩
    rw [← hL.out] at ho ⊢
    have hlen : Hid (L.length = 2) := Lib.hid (by rw [hL.out]; rfl)
    go_enter Tryd.func63, Tryd.ntmps63
    go_wp2_with fail
    go_ret
    rw [hlen.out]
    exact ⟨_, _, rfl, ho, hbl⟩
end Go.Proofs.YtcdgmdhfaniciaaDoor
