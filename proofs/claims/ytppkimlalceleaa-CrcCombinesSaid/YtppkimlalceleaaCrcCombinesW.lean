/- The walk of the law CrcCombines: the combination of any two numbers, for any length up to some thousands, is the reference's. -/
import Derived.Test.YtppkimlalceleaaCrcF
import Derived.Test.YtppkimlalceleaaArgs
namespace Go.Proofs.Ytppkimlalceleaa.crcCombines
open Go.RowKit CrcLaw
set_option linter.unusedVariables false
set_option linter.unusedSimpArgs false

theorem walk (a0 : Int) (a1 : Int) (a2 : Int) (w : World) (w0 : (Lit.int .u32 a0).wf = true) (w1 : (Lit.int .u32 a1).wf = true) (w2 : (Lit.int .i16 a2).wf = true) :
    Calls Try.prog 8 #[.int .u32 a0, .int .u32 a1, .int .i16 a2] w fun e w' => e = .returned (.bool true) ∧ Below w.heap.size w w' := by
  obtain ⟨z1, z2⟩ := wf_u32 w0
  obtain ⟨a, rfl⟩ := Int.eq_ofNat_of_zero_le z1
  obtain ⟨y1, y2⟩ := wf_u32 w1
  obtain ⟨b, rfl⟩ := Int.eq_ofNat_of_zero_le y1
  obtain ⟨x1, x2⟩ := wf_i16 w2
  have ha : a < 4294967296 := by omega
  have hb : b < 4294967296 := by omega
  clear w0 w1 w2
  obtain ⟨n, hn⟩ : ∃ n : Int, n = a2.tmod 3000 := ⟨_, rfl⟩
  have h2 : n ≤ 2999 := by rw [hn]; have := Int.tmod_lt_of_pos a2 (b := 3000) (by omega); omega
  have hn' := hn.symm
  clear hn
  go_enter Try.func8, Try.ntmps8
  go_wp2_with fail
  refine (awake_any _).mono ?_
  rintro e w1 ⟨rfl, b1⟩
  go_wp2_with fail
  refine (combine_any a b n _ ha hb (by omega)).mono ?_
  rintro e w2 ⟨rfl, b2⟩
  have b12 : Below w.heap.size w w2 := b1.trans (b2.mono b1.size)
  go_wp2_with fail
  refine (rcombine_any a b n _ ha hb (by omega)).mono ?_
  rintro e w3 ⟨rfl, rfl⟩
  go_wp2_with fail
  go_ret
  exact ⟨ret_bool (by simp), b12⟩
end Go.Proofs.Ytppkimlalceleaa.crcCombines
