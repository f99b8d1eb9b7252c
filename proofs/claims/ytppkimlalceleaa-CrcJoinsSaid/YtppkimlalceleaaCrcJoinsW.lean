/- The walk of the law CrcJoins: the checksum of a concatenation is the combination of those of its parts. -/
import Derived.Test.YtppkimlalceleaaCrcF
import Derived.Test.YtppkimlalceleaaArgs
namespace Go.Proofs.Ytppkimlalceleaa.crcJoins
open Go.RowKit CrcLaw
set_option linter.unusedVariables false
set_option linter.unusedSimpArgs false

theorem walk (A0 : Option Addr) (n0 c0 : Nat) (l0 : List UInt8) (A1 : Option Addr) (n1 c1 : Nat) (l1 : List UInt8) (w : World) (w0 : ArgB w A0 n0 c0 l0) (w1 : ArgB w A1 n1 c1 l1) :
    Calls Try.prog 9 #[.slice A0 n0 c0, .slice A1 n1 c1] w fun e w' => e = .returned (.bool true) ∧ Below w.heap.size w w' := by
  obtain ⟨s0, hn0, hcap0, hmax0⟩ := w0
  obtain ⟨s1, hn1, hcap1, hmax1⟩ := w1
  unfold maxLen at hmax0 hmax1
  have Hn0 := Lib.hid hn0; have Hn1 := Lib.hid hn1; clear hn0 hn1
  go_enter Try.func9, Try.ntmps9
  go_wp2_with fail
  refine (awake_any _).mono ?_
  rintro e w1 ⟨rfl, b1⟩
  go_wp2_with fail
  refine (few_any A0 n0 c0 3000 l0 _ (s0.on b1) Hn0.out hcap0 (by omega) (by omega)).mono ?_
  rintro e w2 ⟨k, A2, c2, rfl, hk, hr2, Hk, o2, b2⟩
  have b12 : Below w.heap.size w w2 := b1.trans (b2.mono b1.size)
  generalize l0.take 3000 = l at *
  go_wp2_with fail
  refine (few_any A1 n1 c1 3000 l1 _ (s1.on b12) Hn1.out hcap1 (by omega) (by omega)).mono ?_
  rintro e w3 ⟨m, A3, c3, rfl, hm, hr3, Hm, o3, b3⟩
  have b13 : Below w.heap.size w w3 := b12.trans (b3.mono b12.size)
  generalize l1.take 3000 = l' at *
  have t2 := o2.sees.on b3
  have t3 := o3.sees
  go_wp2_with fail
  refine (sum_any A2 k c2 l _ t2 Hk.out (by omega)).mono ?_
  rintro e w4 ⟨rfl, rfl⟩
  go_wp2_with fail
  refine (sum_any A3 m c3 l' _ t3 Hm.out (by omega)).mono ?_
  rintro e w4 ⟨rfl, rfl⟩
  go_wp2_with fail
  refine (combine_any _ _ m _ (csum_lt _) (csum_lt _) (by omega)).mono ?_
  rintro e w4 ⟨rfl, b4⟩
  rw [show (m : Int).toNat = l'.length by rw [Hm.out]; omega, ccomb_sum]
  have b14 : Below w.heap.size w w4 := b13.trans (b4.mono b13.size)
  go_wp2_with fail
  refine (clone_any A2 k c2 l _ (t2.on b4) Hk.out (by omega)).mono ?_
  rintro e w5 ⟨A5, c5, rfl, o5, b5⟩
  have b15 : Below w.heap.size w w5 := b14.trans (b5.mono b14.size)
  have t3' := (t3.on b4).on b5
  have b45 : w4.heap.size ≤ w5.heap.size := b5.size
  go_wp2_with (at_builtin; refine wpL_appB _ rfl (.tmp 19) (.tmp 20) rfl w4.heap.size _ k l rfl o5 _ A3 m c3 l' rfl Hm.out t3' (by omega) b45 (k + m) rfl (l ++ l') rfl ?_; intro A6 c6 w6 o6 hg6 _)
  have b56 := below_app ((Below.refl w4.heap.size w5)) b45 o5 hg6
  have b16 : Below w.heap.size w w6 := b15.trans (b56.mono b14.size)
  go_wp2_with fail
  refine (sum_any A6 (k + m) c6 (l ++ l') _ o6.sees (by rw [List.length_append, Hk.out, Hm.out]) (by omega)).mono ?_
  rintro e w7 ⟨rfl, rfl⟩
  go_wp2_with fail
  go_ret
  exact ⟨ret_bool (by simp), b16⟩
end Go.Proofs.Ytppkimlalceleaa.crcJoins
