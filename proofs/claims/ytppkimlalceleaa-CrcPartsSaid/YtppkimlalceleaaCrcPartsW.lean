/- The walk of the law CrcParts: bytes that are taken in part by part have the checksum of the whole. -/
import Derived.Test.YtppkimlalceleaaCrcE
import Derived.Test.YtppkimlalceleaaArgs
import Derived.Deep.RegionWith
namespace Go.Proofs.Ytppkimlalceleaa.crcParts
open Go.RowKit CrcLaw
set_option linter.unusedVariables false
set_option linter.unusedSimpArgs false

theorem walk (A0 : Option Addr) (n0 c0 : Nat) (l0 : List UInt8) (a1 : Int) (w : World) (w0 : ArgB w A0 n0 c0 l0) (w1 : (Lit.int .u16 a1).wf = true) :
    Calls Try.prog 4 #[.slice A0 n0 c0, .int .u16 a1] w fun e w' => e = .returned (.bool true) ∧ Below w.heap.size w w' := by
  obtain ⟨z1, z2⟩ := wf_u16 w1
  obtain ⟨a, rfl⟩ := Int.eq_ofNat_of_zero_le z1
  have ha : a < 65536 := by omega
  obtain ⟨s0, hn0, hcap, hmax⟩ := w0
  unfold maxLen at hmax
  have Hn0 := Lib.hid hn0; clear hn0 w1
  go_enter Try.func4, Try.ntmps4
  go_wp2_with fail
  refine (awake_any _).mono ?_
  rintro e w1 ⟨rfl, b1⟩
  have s1 := s0.on b1
  go_wp2_with fail
  refine (few_any A0 n0 c0 4000 l0 _ s1 Hn0.out hcap (by omega) (by omega)).mono ?_
  rintro e w2 ⟨k, A2, c2, rfl, hk, hr2, Hk, o2, b2⟩
  have b12 : Below w.heap.size w w2 := b1.trans (b2.mono b1.size)
  generalize l0.take 4000 = l at *
  have s2 := o2.sees
  obtain ⟨q, hq⟩ : ∃ q : Nat, (a : Int) % ((k : Int) + 1) = (q : Int) := ⟨a % (k + 1), (Int.natCast_emod a (k + 1)).symm⟩
  have hqk : q ≤ k := by have := Int.emod_lt_of_pos (a : Int) (b := (k : Int) + 1) (by omega); omega
  have st : Sees w2 w2.heap.size A2 ((l.take q).map bv) := by rw [List.map_take]; exact s2.take_ q
  have sd : Sees w2 w2.heap.size (if c2 = q then A2 else A2.map (·.add q)) ((l.drop q).map bv) := by
    rw [List.map_drop]; exact s2.drop_ (by simp [Hk.out]; omega) (by simp [Hk.out]; omega)
  have Hlt := Lib.hid (show (l.take q).length = q by simp [Hk.out]; omega)
  have Hld := Lib.hid (show (l.drop q).length = k - q by simp [Hk.out])
  have Hsum := Lib.hid (show upd (csum (l.take q)) (l.drop q) = csum l by unfold csum; rw [upd_upd, List.take_append_drop])
  have Hnil := Lib.hid (show upd (csum l) [] = csum l from upd_nil (upd_lt _ _))
  have Hz := Lib.hid (show upd 0 l = csum l from rfl)
  have hT : (((csum l : Nat) : Int) == ((csum l : Nat) : Int)) = true := by simp
  have f1 : (q : Int) ≤ (c2 : Int) := by omega
  have f2 : (q : Int) ≤ (k : Int) := by omega
  have f3 : (0 : Int) ≤ (q : Int) := by omega
  go_wp2_with fail
  go_quiet ((first
    | (go_at_call 16; first | with_reducible exact quiet_same1 (sum_any A2 q _ (l.take q) _ (st.dn _) Hlt.out (by omega)) | with_reducible exact quiet_same1 (sum_any A2 k _ l _ (s2.dn _) Hk.out (by omega)))
    | (go_at_call_of 18 (csum (l.take q)); exact quiet_same1 (update_any' _ _ (k - q) _ (l.drop q) _ _ (upd_lt _ _) (sd.dn _) Hld.out (by omega) Hsum.out))
    | (go_at_call_of 18 (csum l); exact quiet_same1 (update_any' _ none 0 0 [] _ _ (upd_lt _ _) (Sees.nil _ _ _) (by simp) (by omega) Hnil.out))
    | (go_at_call 18; with_reducible exact quiet_same1 (update_any' 0 A2 k _ l _ _ (by omega) (s2.dn _) Hk.out (by omega) Hz.out))))
  go_wp2_with fail
  all_goals
    go_ret
    exact ⟨rfl, below_drewN b12 _⟩
end Go.Proofs.Ytppkimlalceleaa.crcParts
