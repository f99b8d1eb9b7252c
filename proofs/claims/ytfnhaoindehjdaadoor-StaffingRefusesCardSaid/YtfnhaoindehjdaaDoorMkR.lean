/- Plain: the refutation that Solve finds is small, and has a node. -/
import Derived.Test.YtfnhaoindehjdaaDoorMkQ
namespace Go.Proofs.YtfnhaoindehjdaaDoor
open Go.RowKit
set_option linter.unusedVariables false

theorem solveR_len {P : Pr} (hc : chkP P = 0) (h5 : P.elig.length ≤ 5) (h4 : ∀ z : Nat, (memZ (eligA P z)).length ≤ 6) (lim : Nat) : (solveR P lim).2.1.length ≤ 1000000 := by
  have ok := chkP_ok hc
  have hl := (visitF_le (limit := lim) (each := eachS) ok h4 P.fix.length P.fix 0 ⟨[nd0], 0, none⟩ (openN_le _)).1
  have hb : bnd 6 P.fix.length ≤ 20000 := (by decide : ∀ n, n ≤ 5 → bnd 6 n ≤ 20000) _ (by rw [ok.fixl]; exact h5)
  simp only [List.length_cons, List.length_nil] at hl
  unfold solveR
  rw [if_neg (by simpa using hc), if_neg (by omega)]
  simp only [Int.toNat_natCast]
  split
  · simp
  · split
    · simp
    · exact Nat.le_trans hl (by omega)
theorem nodes_pos {P : Pr} {l : List Nd} (hc : chkP P = 0) (h : chkR P l = (1, 0)) : 0 < l.length := by
  unfold chkR at h
  rw [if_neg (by simpa using hc)] at h
  split at h
  · cases h
  · rename_i ht
    exact (tree_ok (by simpa using ht)).pos
end Go.Proofs.YtfnhaoindehjdaaDoor
