/- The walks of the reference's Same and Put. -/
import Derived.Test.YtfbdfpnmopgkoaaDoorStr
import Derived.Test.YtfbdfpnmopgkoaaDoorWireF
namespace Go.Proofs.YtfbdfpnmopgkoaaDoor
open Go.RowKit
set_option linter.unusedVariables false
set_option linter.unusedSimpArgs false

/-- Same: whether the bytes are the same. -/
theorem same_any (A A2 : Option Addr) (n c n2 c2 : Nat) (l l2 : List UInt8) (w : World) (h : Sees w w.heap.size A (l.map bv)) (h2 : Sees w w.heap.size A2 (l2.map bv)) (hn : l.length = n) (hn2 : l2.length = n2) :
    Calls Tryd.prog 26 #[.slice A n c, .slice A2 n2 c2] w fun e w' => e = .returned (.bool (decide (l = l2))) ∧ w = w' := by
  have r1 := run_str w _ A n c l h hn
  have r2 := run_str w _ A2 n2 c2 l2 h2 hn2
  clear hn hn2
  go_enter Tryd.func26, Tryd.ntmps26
  go_wp2_with fail
  go_ret
  exact ⟨ret_bool (bstr_beq l l2), rfl⟩

set_option maxRecDepth 100000 in
/-- Put: the encoding of a number. -/
theorem put_any (V : Nat) (w : World) (hV : V < 18446744073709551616) :
    Calls Tryd.prog 45 #[.int .u64 (V : Int)] w fun e w' => ∃ A n c, e = .returned (.slice A n c) ∧ OwnB w' w.heap.size (.slice A n c) n (enc V) ∧ Below w.heap.size w w' := by
  obtain ⟨d, hd, hd1, hdi⟩ : ∃ d : Nat, Hid (d = V % 128) ∧ d < 128 ∧ (V : Int) % 128 = (d : Int) := ⟨V % 128, Lib.hid rfl, Nat.mod_lt _ (by omega), by omega⟩
  have hdu := Lib.hid (show ((d : Nat) : Int) = (((UInt8.ofNat d).toNat : Nat) : Int) from by rw [UInt8.toNat_ofNat']; omega)
  have hdw : (d : Int) < 256 := by omega
  go_enter Tryd.func45, Tryd.ntmps45
  go_wp2_with fail
  have hL1 : OwnB (w.alloc (.cells #[Value.int .u8 (d : Int)] 5)) w.heap.size (.slice (some ⟨w.heap.size, 0, none⟩) 1 1) 1 [UInt8.ofNat d] := by
    rw [hdu.out]
    exact OwnB.lit w #[bv (UInt8.ofNat d)] 1 [UInt8.ofNat d] (by unfold maxLen; omega) rfl rfl
  have hten := enc_len hV
  clear hdi hdw hd1
  go_loopw [0, 3] (fun vu vs wr => ∃ (u : Nat) (A : Option Addr) (n c : Nat) (acc : List UInt8), vu = .int .u64 u ∧ vs = .slice A n c ∧ u < 18446744073709551616 ∧ OwnB wr w.heap.size (.slice A n c) n acc ∧ Below w.heap.size w wr ∧ Hid ((low (u / 128)).reverse ++ acc = enc V)) (fun vu _ _ => (intOf vu).toNat)
  case atStart => exact ⟨V, _, 1, 1, [UInt8.ofNat d], rfl, rfl, hV, hL1, (Below.refl _ _).alloc (Nat.le_refl _) _, Lib.hid (by rw [hd.out]; unfold enc encR; rw [List.reverse_cons])⟩
  case round =>
    obtain ⟨u, A, n, c, acc, rfl, rfl, hu, ho, hB, HI⟩ := hrel
    by_cases h0 : u < 128
    · have hui : ¬ (128 : Int) ≤ (u : Int) := by omega
      have hacc : acc = enc V := by have := HI.out; rwa [show u / 128 = 0 by omega, low_zero, List.reverse_nil, List.nil_append] at this
      subst hacc
      go_wp2_with fail
      go_ret
      exact ⟨A, n, c, rfl, ho, hB⟩
    · have hui : (128 : Int) ≤ (u : Int) := by omega
      obtain ⟨q, hq, hqi, hq1⟩ : ∃ q : Nat, Hid (q = u / 128) ∧ (u : Int) / 128 = (q : Int) ∧ q ≠ 0 := ⟨u / 128, Lib.hid rfl, by omega, by omega⟩
      obtain ⟨x, hx⟩ : ∃ x : UInt8, Hid (x = UInt8.ofNat (q % 128 + 128)) := ⟨_, Lib.hid rfl⟩
      have hxv : (q : Int) % 128 + 128 = ((x.toNat : Nat) : Int) := by rw [hx.out, mark_toNat]; omega
      obtain ⟨y, hy, hyw⟩ : ∃ y : Int, (q : Int) % 128 = y ∧ 0 ≤ y ∧ y < 128 := ⟨_, rfl, by omega, by omega⟩
      rw [hy] at hxv
      have hqu : q < 18446744073709551616 := by rw [hq.out]; omega
      have hlow : (low (q / 128)).reverse ++ (x :: acc) = enc V := by
        rw [← HI.out, ← hq.out, low_pos hq1, hx.out, List.reverse_cons, List.append_assoc]; rfl
      have HL := Lib.hid hlow
      have hnx : acc.length + 1 ≤ 10 := by
        have := congrArg List.length hlow
        rw [List.length_append, List.length_cons] at this
        omega
      clear hlow
      have hqlt : Hid (q < u) := Lib.hid (by rw [hq.out]; omega)
      have hnl := ho.len
      have hz := hB.size
      have hlit : OwnB (wr.alloc (.cells #[bv x] 5)) w.heap.size (.slice (some ⟨wr.heap.size, 0, none⟩) 1 1) 1 [x] := (OwnB.lit wr #[bv x] 1 [x] (by unfold maxLen; omega) rfl rfl).more hz
      go_wp2_with (at_builtin; refine wpL_appB _ rfl (.tmp 16) (.tmp 17) rfl w.heap.size _ 1 [x] rfl hlit _ A n c acc rfl hnl (ho.alloc _).sees (by omega) (by rw [World.size_alloc]; omega) (1 + n) rfl (x :: acc) rfl ?_; intro A' c' w4 ho4 hg4 _)
      go_roundw
      case rel => exact ⟨q, A', 1 + n, c', x :: acc, by go_num, rfl, hqu, ho4, below_app (hB.alloc hz _) (by rw [World.size_alloc]; omega) hlit hg4, HL⟩
      case measure => have := hqlt.out; simp [intOf]; omega
end Go.Proofs.YtfbdfpnmopgkoaaDoor
