/- The walk of the law WireNumbers: a number is read as it was written, up to the greatest one, and refused if it is above the limit. -/
import Derived.Test.YtfbdfpnmopgkoaaWireH
import Derived.Test.YtfbdfpnmopgkoaaArgs
namespace Go.Proofs.Ytfbdfpnmopgkoaa.wireNumbers
open Go.RowKit
set_option linter.unusedVariables false
set_option linter.unusedSimpArgs false

set_option maxRecDepth 100000 in
theorem walk (a0 : Int) (a1 : Int) (w : World) (w0 : (Lit.int .u64 a0).wf = true) (w1 : (Lit.int .u64 a1).wf = true) :
    Calls Try.prog 3 #[.int .u64 a0, .int .u64 a1] w fun e w' => e = .returned (.bool true) ∧ Below w.heap.size w w' := by
  obtain ⟨z1, z2⟩ := wf_u64 w0
  obtain ⟨z3, z4⟩ := wf_u64 w1
  obtain ⟨V, rfl⟩ := Int.eq_ofNat_of_zero_le z1
  obtain ⟨m, rfl⟩ := Int.eq_ofNat_of_zero_le z3
  have hV : V < 18446744073709551616 := by omega
  have hl10 := enc_len hV
  go_enter Try.func3, Try.ntmps3
  go_wp2_with fail
  refine (awake_any w).mono ?_
  rintro e u1 ⟨rfl, b1⟩
  go_wp2_with fail
  refine (newWriter_any u1).mono ?_
  rintro e u2 ⟨rfl, h2, b2⟩
  have hs1 := b1.size
  go_wp2_with fail
  refine (wUint_any u1.heap.size u1.heap.size _ _ V u2 h2 hV (by simp)).mono ?_
  rintro e u3 ⟨rfl, v3, h3, m3, r3⟩
  rw [List.nil_append] at h3
  have b3 : Below u1.heap.size u1 u3 := b2.trans (m3.below h2.base (Nat.le_refl _) (fun k hk => by cases hk))
  go_wp2_with fail
  refine (out_any u1.heap.size u1.heap.size v3 _ u3 h3 (by omega)).mono ?_
  rintro e u4 ⟨A4, c4, rfl, o4, b4⟩
  obtain ⟨n, hn⟩ : ∃ n, n = (enc V).length := ⟨_, rfl⟩
  rw [← hn] at o4 hl10 ⊢
  have Hn := Lib.hid hn.symm
  clear hn
  have b34 : Below u1.heap.size u1 u4 := b3.trans (b4.mono b3.size)
  go_wp2_with fail
  refine (newReader_any A4 n c4 (enc V) u4 o4.sees Hn.out (by omega)).mono ?_
  rintro e u5 ⟨g1, rfl, hg1, hr1, b5⟩
  go_wp2_with fail
  refine (newReader_any A4 n c4 (enc V) u5 (o4.sees.on b5) Hn.out (by omega)).mono ?_
  rintro e u6 ⟨g2, rfl, hg2, hr2, b6⟩
  obtain ⟨A', n', c', hI⟩ := id hr1
  have hlt1 := hI.blk.lt
  clear hI
  have hr1' := hr1.on b6
  have s6 := (o4.sees.on b5).on b6
  have b46 : Below u1.heap.size u1 u6 := (b34.trans (b5.mono b34.size)).trans (b6.mono (Nat.le_trans b34.size b5.size))
  go_wp2_with fail
  refine (rUint_any g1 (enc V) 18446744073709551615 u6 hr1').mono ?_
  rintro e u7 ⟨rfl, hr7, m7⟩
  have e1 := rdU_enc hV 18446744073709551615 []
  rw [List.append_nil, if_neg (by omega)] at e1
  rw [e1] at hr7 ⊢
  clear e1
  have hr2' := hr2.beside hr1' m7 (by omega)
  have s7 := s6.beside hr1' m7
  have b7 : Below u1.heap.size u1 u7 := b46.trans (m7.below b46.size (Nat.le_trans b34.size hg1) (fun k hk => by cases hk))
  go_wp2_with fail
  refine (rUint_any g2 (enc V) m u7 hr2').mono ?_
  rintro e u8 ⟨rfl, hr8, m8⟩
  have e2 := rdU_enc hV m []
  rw [List.append_nil] at e2
  rcases hR : rdU m (enc V) with ⟨R1, R2, R3⟩
  rw [hR] at hr8 e2
  have E2 := Lib.hid e2
  clear e2 hR
  have hr1'' := hr7.beside hr2' m8 (by omega)
  have s8 := s7.beside hr2' m8
  have b8 : Below u1.heap.size u1 u8 := b7.trans (m8.below b7.size (Nat.le_trans b34.size (Nat.le_trans b5.size hg2)) (fun k hk => by cases hk))
  go_wp2_with fail
  refine (put_any V u8 hV).mono ?_
  rintro e u9 ⟨A9, n9, c9, rfl, o9, b9⟩
  go_wp2_with fail
  refine (same_yes A4 A9 n c4 n9 c9 _ u9 (s8.on b9) o9.sees Hn.out o9.len).mono ?_
  rintro e u10 ⟨rfl, rfl⟩
  have b19 : Below w.heap.size w u9 := b1.trans ((b8.trans (b9.mono b8.size)).mono hs1)
  go_wp2_with fail
  refine (end_ok g1 _ (hr1''.on b9)).mono ?_
  rintro e u10 ⟨rfl, rfl⟩
  have E := E2.out
  by_cases hm : m < V
  · have hmi : (m : Int) < (V : Int) := by omega
    rw [if_pos hm] at E
    injection E with E1 E
    injection E with E3 E4
    subst E1 E3 E4
    have hr9 := hr8.on b9
    have hle := Lib.hid (left_any g2 _ 2 _ hr9)
    clear hm E2
    go_wp2_with fail
    refine (err_any g2 _ 2 _ hr9).mono ?_
    rintro e u10 ⟨rfl, rfl⟩
    go_wp2_with fail
    refine hle.out.mono ?_
    rintro e u10 ⟨rfl, rfl⟩
    rw [Hn.out]
    go_wp2_with fail
    go_ret
    exact ⟨rfl, b19⟩
  · have hmi : ¬ (m : Int) < (V : Int) := by omega
    rw [if_neg hm] at E
    injection E with E1 E
    injection E with E3 E4
    subst E1 E3 E4
    have hr9 := hr8.on b9
    clear hm E2
    go_wp2_with fail
    refine (end_ok g2 _ hr9).mono ?_
    rintro e u10 ⟨rfl, rfl⟩
    go_wp2_with fail
    go_ret
    exact ⟨rfl, b19⟩
end Go.Proofs.Ytfbdfpnmopgkoaa.wireNumbers
