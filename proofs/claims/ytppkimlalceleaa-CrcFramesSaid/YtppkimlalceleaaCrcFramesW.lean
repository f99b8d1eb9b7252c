/- The walk of the law CrcFrames: the frame of any payload, and the payload of any frame; what is too long is refused. -/
import Derived.Test.YtppkimlalceleaaCrcE
import Derived.Test.YtppkimlalceleaaArgs
import Derived.Test.YtppkimlalceleaaAppZ
namespace Go.Proofs.Ytppkimlalceleaa.crcFrames
open Go.RowKit CrcLaw
set_option linter.unusedVariables false
set_option linter.unusedSimpArgs false

theorem is_frame (p r : List UInt8) (hp : p.length ≤ 9000) : IsFrame (frameOf p ++ r) := (frame_at _).2 ⟨p, r, hp, rfl⟩

theorem walk_no (A0 : Option Addr) (n0 c0 : Nat) (l0 : List UInt8) (A1 : Option Addr) (n1 c1 : Nat) (l1 : List UInt8) (w : World) (w0 : ArgB w A0 n0 c0 l0) (w1 : ArgB w A1 n1 c1 l1) :
    Calls Try.prog 6 #[.slice A0 n0 c0, .slice A1 n1 c1, .bool false] w fun e w' => e = .returned (.bool true) ∧ Below w.heap.size w w' := by
  obtain ⟨s0, hn0, hcap0, hmax0⟩ := w0
  obtain ⟨s1, hn1, hcap1, hmax1⟩ := w1
  unfold maxLen at hmax0 hmax1
  have Hn0 := Lib.hid hn0; have Hn1 := Lib.hid hn1; clear hn0 hn1
  go_enter Try.func6, Try.ntmps6
  go_wp2_with fail
  refine (awake_any _).mono ?_
  rintro e w1 ⟨rfl, b1⟩
  go_wp2_with fail
  refine (few_any A0 n0 c0 4000 l0 _ (s0.on b1) Hn0.out hcap0 (by omega) (by omega)).mono ?_
  rintro e w2 ⟨k, A2, c2, rfl, hk, hr2, Hk, o2, b2⟩
  have b12 : Below w.heap.size w w2 := b1.trans (b2.mono b1.size)
  generalize l0.take 4000 = l at *
  go_wp2_with fail
  refine (few_any A1 n1 c1 100 l1 _ (s1.on b12) Hn1.out hcap1 (by omega) (by omega)).mono ?_
  rintro e w3 ⟨m, A3, c3, rfl, hm, hr3, Hm, o3, b3⟩
  have b13 : Below w.heap.size w w3 := b12.trans (b3.mono b12.size)
  generalize l1.take 100 = l' at *
  have t2 := o2.sees.on b3
  have t3 := o3.sees
  go_wp2_with fail
  refine (frame_yes A2 k c2 l _ t2 Hk.out (by omega)).mono ?_
  rintro e w4 ⟨A4, c4, rfl, o4, b4⟩
  have b14 : Below w.heap.size w w4 := b13.trans (b4.mono b13.size)
  have Hf := Lib.hid (show (frameOf l).length = 8 + k by rw [frameOf_length, Hk.out])
  go_wp2_with fail
  refine (rframe_yes A2 k c2 l _ (t2.on b4) Hk.out (by omega)).mono ?_
  rintro e w5 ⟨A5, c5, rfl, o5, b5⟩
  have b15 : Below w.heap.size w w5 := b14.trans (b5.mono b14.size)
  go_wp2_with fail
  refine (equal_any A4 A5 (8 + k) c4 (8 + k) c5 (frameOf l) (frameOf l) _ (o4.sees.on b5) o5.sees Hf.out Hf.out (by omega)).mono ?_
  rintro e w6 ⟨rfl, q6, rfl⟩
  rw [show (frameOf l == frameOf l) = true by simp]
  go_wp2_with fail
  refine (clone_any A4 (8 + k) c4 (frameOf l) _ ((o4.sees.on b5).dn _) Hf.out (by omega)).mono ?_
  rintro e w7 ⟨A7, c7, rfl, o7, b7⟩
  have b17 : Below w.heap.size w w7 := (below_drewN b15 q6).trans (b7.mono b15.size)
  have b57 : Below w5.heap.size w5 w7 := (below_drewN (Below.refl _ _) q6).trans b7
  have t3' := ((t3.on b4).on b5).on b57
  have z57 : w5.heap.size ≤ w7.heap.size := b57.size
  go_wp2_with (at_builtin; refine wpL_appB _ rfl (.tmp 98) (.tmp 99) rfl w5.heap.size _ (8 + k) (frameOf l) rfl o7 _ A3 m c3 l' rfl Hm.out t3' (by omega) z57 (8 + k + m) rfl (frameOf l ++ l') rfl ?_; intro A8 c8 w8 o8 hg8 _)
  have b78 : Below w5.heap.size w5 w8 := below_app b57 z57 o7 hg8
  have b18 : Below w.heap.size w w8 := b15.trans (b78.mono b15.size)
  obtain ⟨p1, p2, p3⟩ := frame_parts l l' (by rw [Hk.out]; omega)
  have P1 := Lib.hid (p1.trans Hk.out); rw [Hk.out] at p2; have P2 := Lib.hid p2; clear p1 p2 p3
  go_wp2_with fail
  refine (next_yes A8 (8 + k + m) c8 (frameOf l ++ l') _ o8.sees (by rw [List.length_append, Hf.out, Hm.out]) o8.room (by omega) (is_frame _ _ (by rw [Hk.out]; omega)) k P1.out).mono ?_
  rintro e w9 ⟨A9, c9, rfl, o9, b9⟩
  rw [P2.out] at o9
  have b19 : Below w.heap.size w w9 := b18.trans (b9.mono b18.size)
  have b89 : Below w5.heap.size w5 w9 := b78.trans (b9.mono b78.size)
  have t2' := ((t2.on b4).on b5).on b89
  go_wp2_with fail
  refine (equal_any A2 A9 k c2 k c9 l l _ t2' o9.sees Hk.out Hk.out (by omega)).mono ?_
  rintro e w10 ⟨rfl, q10, rfl⟩
  rw [show (l == l) = true by simp]
  go_wp2_with fail
  go_ret
  exact ⟨rfl, below_drewN b19 q10⟩

theorem walk_yes (A0 : Option Addr) (n0 c0 : Nat) (l0 : List UInt8) (A1 : Option Addr) (n1 c1 : Nat) (l1 : List UInt8) (w : World) (w0 : ArgB w A0 n0 c0 l0) (w1 : ArgB w A1 n1 c1 l1) :
    Calls Try.prog 6 #[.slice A0 n0 c0, .slice A1 n1 c1, .bool true] w fun e w' => e = .returned (.bool true) ∧ Below w.heap.size w w' := by
  obtain ⟨s0, hn0, hcap0, hmax0⟩ := w0
  obtain ⟨s1, hn1, hcap1, hmax1⟩ := w1
  unfold maxLen at hmax0 hmax1
  have Hn0 := Lib.hid hn0; have Hn1 := Lib.hid hn1; clear hn0 hn1
  go_enter Try.func6, Try.ntmps6
  go_wp2_with fail
  refine (awake_any _).mono ?_
  rintro e w1 ⟨rfl, b1⟩
  go_wp2_with fail
  refine (few_any A0 n0 c0 4000 l0 _ (s0.on b1) Hn0.out hcap0 (by omega) (by omega)).mono ?_
  rintro e w2 ⟨k, A2, c2, rfl, hk, hr2, Hk, o2, b2⟩
  have b12 : Below w.heap.size w w2 := b1.trans (b2.mono b1.size)
  generalize l0.take 4000 = l at *
  go_wp2_with fail
  refine (few_any A1 n1 c1 100 l1 _ (s1.on b12) Hn1.out hcap1 (by omega) (by omega)).mono ?_
  rintro e w3 ⟨m, A3, c3, rfl, hm, hr3, Hm, o3, b3⟩
  have b13 : Below w.heap.size w w3 := b12.trans (b3.mono b12.size)
  generalize l1.take 100 = l' at *
  have o2' := o2.on b3
  have z13 : w1.heap.size ≤ w3.heap.size := Nat.le_trans b2.size b3.size
  obtain ⟨j, hj⟩ : ∃ j, j = 9001 - k := ⟨_, rfl⟩
  have Hj := Lib.hid hj
  go_wp2_with (at_builtin; refine wpL_appZ _ rfl (.tmp 26) (.tmp 30) rfl w1.heap.size _ k l rfl o2' _ j rfl (by omega) (by omega) (by omega) z13 9001 (by omega) ?_; intro A4 c4 w4 o4 hg4)
  clear hj
  have b14' : Below w1.heap.size w1 w4 := below_app (b2.trans (b3.mono b2.size)) z13 o2' hg4
  have b14 : Below w.heap.size w w4 := b1.trans (b14'.mono b1.size)
  obtain ⟨L, hL⟩ : ∃ L, l ++ List.replicate j 0 = L := ⟨_, rfl⟩
  rw [hL] at o4
  have HL := Lib.hid (show L.length = 9001 by rw [← hL]; simp [Hk.out, Hj.out]; omega)
  clear hL
  obtain ⟨P, hP⟩ : ∃ P, L.take 9000 = P := ⟨_, rfl⟩
  have HP := Lib.hid (show P.length = 9000 by rw [← hP]; simp [HL.out])
  have t4 := o4.sees
  have r4 := o4.room
  have tP : Sees w4 w4.heap.size A4 (P.map bv) := by rw [← hP, List.map_take]; exact t4.take_ 9000
  clear hP
  go_wp2_with fail
  refine (frame_no A4 9001 c4 _ (by omega) (by omega)).mono ?_
  rintro e w5 ⟨rfl, rfl⟩
  go_wp2_with fail
  refine (frame_yes A4 9000 c4 P _ tP HP.out (by omega)).mono ?_
  rintro e w5 ⟨A5, c5, rfl, o5, b5⟩
  have b15 : Below w.heap.size w w5 := b14.trans (b5.mono b14.size)
  have Hf := Lib.hid (show (frameOf P).length = 8 + 9000 by rw [frameOf_length, HP.out])
  have hF : IsFrame (frameOf P) := by have := is_frame P [] (by rw [HP.out]; omega); rwa [List.append_nil] at this
  obtain ⟨p1, p2, p3⟩ := frame_parts P [] (by rw [HP.out]; omega)
  rw [List.append_nil] at p1 p2
  have P1 := Lib.hid (p1.trans HP.out); rw [HP.out] at p2; have P2 := Lib.hid p2; clear p1 p2 p3
  go_wp2_with fail
  refine (next_yes A5 (8 + 9000) c5 (frameOf P) _ o5.sees Hf.out o5.room (by omega) hF 9000 P1.out).mono ?_
  rintro e w6 ⟨A6, c6, rfl, o6, b6⟩
  rw [P2.out] at o6
  have b16 : Below w.heap.size w w6 := b15.trans (b6.mono b15.size)
  go_wp2_with fail
  refine (rframe_yes A4 9000 c4 P _ ((tP.on b5).on b6) HP.out (by omega)).mono ?_
  rintro e w7 ⟨A7, c7, rfl, o7, b7⟩
  have b17 : Below w.heap.size w w7 := b16.trans (b7.mono b16.size)
  go_wp2_with fail
  refine (equal_any A5 A7 (8 + 9000) c5 (8 + 9000) c7 (frameOf P) (frameOf P) _ ((o5.sees.on b6).on b7) o7.sees Hf.out Hf.out (by omega)).mono ?_
  rintro e w8 ⟨rfl, q8, rfl⟩
  rw [show (frameOf P == frameOf P) = true by simp]
  go_wp2_with fail
  refine (equal_any A6 A4 9000 c6 9000 c4 P P _ ((o6.sees.on b7).dn _) ((((tP.on b5).on b6).on b7).dn _) HP.out HP.out (by omega)).mono ?_
  rintro e w9 ⟨rfl, q9, rfl⟩
  rw [show (P == P) = true by simp]
  go_wp2_with fail
  go_ret
  exact ⟨rfl, below_drewN b17 _⟩

theorem walk (A0 : Option Addr) (n0 c0 : Nat) (l0 : List UInt8) (A1 : Option Addr) (n1 c1 : Nat) (l1 : List UInt8) (a2 : Bool) (w : World) (w0 : ArgB w A0 n0 c0 l0) (w1 : ArgB w A1 n1 c1 l1) :
    Calls Try.prog 6 #[.slice A0 n0 c0, .slice A1 n1 c1, .bool a2] w fun e w' => e = .returned (.bool true) ∧ Below w.heap.size w w' := by
  cases a2 with
  | false => exact walk_no A0 n0 c0 l0 A1 n1 c1 l1 w w0 w1
  | true => exact walk_yes A0 n0 c0 l0 A1 n1 c1 l1 w w0 w1
end Go.Proofs.Ytppkimlalceleaa.crcFrames
