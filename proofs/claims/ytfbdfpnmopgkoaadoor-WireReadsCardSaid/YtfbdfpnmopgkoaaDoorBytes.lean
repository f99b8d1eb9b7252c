/- slices.Clone at []byte. -/
import Derived.Test.YtfbdfpnmopgkoaaDoorMem
import Derived.WalkSpells
import Derived.BigQuiet
import Derived.Deep.QuietTactic
namespace Go.Proofs.YtfbdfpnmopgkoaaDoor
open Go.RowKit
set_option linter.unusedVariables false
set_option linter.unusedSimpArgs false

/-- slices.Clone: a slice of the call's own with the same bytes. -/
theorem clone_any (A : Option Addr) (n c : Nat) (l : List UInt8) (w : World) (h : Sees w w.heap.size A (l.map bv)) (hn : l.length = n) (hb : n ≤ 140737488355328) :
    Calls Tryd.prog 27 #[.slice A n c] w fun e w' => ∃ A' c', e = .returned (.slice A' n c') ∧ OwnB w' w.heap.size (.slice A' n c') n l ∧ Below w.heap.size w w' := by
  have h1 := fun w => Lib.run_eql_slice_nil (P := Tryd.prog) w 22 5 A n c 0 0 Tryd.underlying22
  rcases A with _ | ad
  · go_enter Tryd.func27, Tryd.ntmps27
    go_wp2_with fail
    go_ret
    have := h.none_
    simp at this; subst this
    subst hn
    exact ⟨none, 0, rfl, OwnB.nil _ _, Below.refl _ _⟩
  · go_enter Tryd.func27, Tryd.ntmps27
    go_wp2_with (at_builtin; refine wpL_appB _ rfl (.tmp 5) (.tmp 6) rfl w.heap.size _ 0 [] rfl (OwnB.made0 _) w.heap.size (some ad) n c l rfl hn (h.alloc (Nat.le_refl _) _) (by omega) (by simp) n (by omega) l rfl ?_; intro A' c' w1 hown hg _)
    go_ret
    exact ⟨A', c', rfl, hown, below_app ((Below.refl _ _).alloc (Nat.le_refl _) _) (by simp) (OwnB.made0 w) hg⟩

theorem take_next {α : Type} {l m : List α} {k : Nat} {x : α} (h : l.take k = m.take k) (hl : l[k]? = some x) (hm : m[k]? = some x) : l.take (k + 1) = m.take (k + 1) := by
  rw [List.take_add_one, List.take_add_one, h, hl, hm]

end Go.Proofs.YtfbdfpnmopgkoaaDoor
