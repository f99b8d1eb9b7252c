/- The walk of the law CrcSums: the checksum of any bytes, and of any bytes behind any checksum, is the reference's. -/
import Derived.Test.YtppkimlalceleaaCrcE
import Derived.Test.YtppkimlalceleaaArgs
namespace Go.Proofs.Ytppkimlalceleaa.crcSums
open Go.RowKit CrcLaw
set_option linter.unusedVariables false
set_option linter.unusedSimpArgs false

theorem walk (A0 : Option Addr) (n0 c0 : Nat) (l0 : List UInt8) (a1 : Int) (w : World) (w0 : ArgB w A0 n0 c0 l0) (w1 : (Lit.int .u32 a1).wf = true) :
    Calls Try.prog 3 #[.slice A0 n0 c0, .int .u32 a1] w fun e w' => e = .returned (.bool true) ∧ Below w.heap.size w w' := by
  obtain ⟨z1, z2⟩ := wf_u32 w1
  obtain ⟨c, rfl⟩ := Int.eq_ofNat_of_zero_le z1
  have hc : c < 4294967296 := by omega
  obtain ⟨s0, hn0, hcap, hmax⟩ := w0
  unfold maxLen at hmax
  have Hn0 := Lib.hid hn0; clear hn0 w1
  go_enter Try.func3, Try.ntmps3
  go_wp2_with fail
  refine (awake_any _).mono ?_
  rintro e w1 ⟨rfl, b1⟩
  have s1 := s0.on b1
  go_wp2_with fail
  refine (few_any A0 n0 c0 4000 l0 _ s1 Hn0.out hcap (by omega) (by omega)).mono ?_
  rintro e w2 ⟨k, A2, c2, rfl, hk, hr2, Hk, o2, b2⟩
  have b12 : Below w.heap.size w w2 := b1.trans (b2.mono b1.size)
  generalize l0.take 4000 = l at *
  go_wp2_with fail
  refine (clone_any A2 k c2 l _ o2.sees Hk.out (by omega)).mono ?_
  rintro e w3 ⟨A3, c3, rfl, o3, b3⟩
  have b13 : Below w.heap.size w w3 := b12.trans (b3.mono b12.size)
  have s2 := o2.sees.on b3
  have s3 := o3.sees
  go_wp2_with fail
  refine (sum_any A2 k c2 l _ s2 Hk.out (by omega)).mono ?_
  rintro e w4 ⟨rfl, rfl⟩
  go_wp2_with fail
  refine (rsum_any A3 k c3 l _ s3 Hk.out (by omega)).mono ?_
  rintro e w4 ⟨rfl, rfl⟩
  go_wp2_with fail
  refine (update_any c A2 k c2 l _ hc s2 Hk.out (by omega)).mono ?_
  rintro e w4 ⟨rfl, rfl⟩
  go_wp2_with fail
  refine (rupdate_any c A3 k c3 l _ hc s3 Hk.out (by omega)).mono ?_
  rintro e w4 ⟨rfl, rfl⟩
  go_wp2_with fail
  refine (equal_any A2 A3 k c2 k c3 l l _ s2 s3 Hk.out Hk.out (by omega)).mono ?_
  rintro e w4 ⟨rfl, q, rfl⟩
  go_wp2_with fail
  go_ret
  exact ⟨ret_bool (by simp), below_drewN b13 q⟩
end Go.Proofs.Ytppkimlalceleaa.crcSums
