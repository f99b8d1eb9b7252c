/- The small functions of package staffing. -/
import Derived.Test.YtfnhaoindehjdaaDoorStQ
import Derived.Test.YtfnhaoindehjdaaDoorPf
import Derived.Test.YtfnhaoindehjdaaDoorPi
import Derived.Test.YtfnhaoindehjdaaDoorPk
import Derived.Deep.QuietTactic
import Derived.BigQuiet
import Derived.Deep.RegionHeld3
namespace Go.Proofs.YtfnhaoindehjdaaDoor
open Go.RowKit
set_option linter.unusedVariables false
set_option linter.unusedSimpArgs false

/-- full. -/
theorem full_any (g limit looked : Nat) (w : World) (h7 : w.cell? ⟨g, 7, none⟩ = some (.int .i64 (looked : Int))) (h8 : w.cell? ⟨g, 8, none⟩ = some (.int .i64 (limit : Int))) :
    Calls Tryd.prog 42 #[.pointer (some ⟨g, 0, none⟩)] w fun e w' => e = .returned (.bool (fullB limit looked)) ∧ ∃ q, w' = w.drewN q := by
  unfold fullB
  by_cases h : 0 < limit
  · have hd : decide (0 < limit) = true := by simpa using h
    rw [hd, Bool.true_and]
    have hi : decide ((0 : Int) < (limit : Int)) = true := by simpa using h
    go_enter Tryd.func42, Tryd.ntmps42
    go_wp2_with fail
    go_quiet (fail)
    go_wp2_with fail
    go_ret
    exact ⟨by simp, _, rfl⟩
  · obtain rfl : limit = 0 := by omega
    clear h
    go_enter Tryd.func42, Tryd.ntmps42
    go_wp2_with fail
    go_quiet (fail)
    go_wp2_with fail
    go_ret
    exact ⟨by simp, _, rfl⟩
/-- What Index gives. -/
def idxV : Option Nat → Int
  | none => -1
  | some z => z
theorem idx0_take {l : List Int} {k : Nat} (h : ∀ j, j < k → atI l j ≠ 0) (hk : k < l.length) (h0 : atI l k = 0) : idx0 l = some k := by
  cases hz : idx0 l with
  | none => exact absurd h0 (idx0_none hz k hk)
  | some z =>
    obtain ⟨h1, h2, h3⟩ := idx0_some hz
    rcases Nat.lt_trichotomy z k with h4 | h4 | h4
    · exact absurd h2 (h z h4)
    · rw [h4]
    · exact absurd h0 (h3 k h4)
theorem idx0_no {l : List Int} (h : ∀ j, j < l.length → atI l j ≠ 0) : idx0 l = none := by
  cases hz : idx0 l with
  | none => rfl
  | some z =>
    obtain ⟨h1, h2, _⟩ := idx0_some hz
    exact absurd h2 (h z h1)
/-- slices.Index of the first open step. -/
theorem idx0_any (A : Option Addr) (n c : Nat) (l : List Int) (w : World) (h : Sees w w.heap.size A (l.map iv)) (hn : l.length = n) (hb : n ≤ 1000000) :
    Calls Tryd.prog 50 #[.slice A n c, .int .i64 0] w fun e w' => e = .returned (.int .i64 (idxV (idx0 l))) ∧ w = w' := by
  have Hn := Lib.hid hn
  have hb1 : (n : Int) ≤ 1000000 := by omega
  obtain ⟨r, hr⟩ : ∃ r, Hid (r = idxV (idx0 l)) := ⟨_, Lib.hid rfl⟩
  rw [← hr.out]
  clear hn
  go_enter Tryd.func50, Tryd.ntmps50
  go_wp2_with fail
  go_loopw [8] (fun i wr => ∃ k : Nat, k ≤ n ∧ i = .int .i64 k ∧ Hid (∀ j, j < k → atI l j ≠ 0) ∧ w = wr) (fun i _ => n - (intOf i).toNat)
  case atStart => exact ⟨0, Nat.zero_le _, rfl, Lib.hid (fun j hj => absurd hj (Nat.not_lt_zero _)), rfl⟩
  case round =>
    obtain ⟨k, hk, rfl, HP, rfl⟩ := hrel
    by_cases hlt : k < n
    · have hlt' : (k : Int) < (n : Int) := by omega
      obtain ⟨b, o, z, rfl, hb2, Hz, hc⟩ := Sees.int (k := k) h (by rw [Hn.out]; exact hlt)
      have hat : Hid (atI l k = z) := Lib.hid (by unfold atI; rw [Hz.out]; rfl)
      by_cases hz : (0 : Int) = z
      · subst hz
        have hi : Hid (r = (k : Int)) := Lib.hid (by rw [hr.out, idx0_take HP.out (by rw [Hn.out]; exact hlt) hat.out]; rfl)
        go_wp2_with fail
        go_ret
        exact ⟨ret_int hi.out.symm, rfl⟩
      · have hzb : ((0 : Int) == z) = false := by simpa using hz
        have hnx : Hid (∀ j, j < k + 1 → atI l j ≠ 0) := Lib.hid (fun j hj => by
          by_cases hjk : j = k
          · rw [hjk, hat.out]; exact fun e => hz e.symm
          · exact HP.out j (by omega))
        clear hz
        go_wp2_with fail
        go_roundw
        case rel => exact ⟨k + 1, by omega, by go_num, hnx, by simp⟩
        case measure => simp [intOf]; omega
    · obtain rfl : k = n := by omega
      have hi : Hid (r = (-1 : Int)) := Lib.hid (by rw [hr.out, idx0_no (fun j hj => HP.out j (by rw [Hn.out] at hj; exact hj))]; rfl)
      go_wp2_with fail
      go_ret
      exact ⟨ret_int hi.out.symm, rfl⟩
/-- Solve's closure. -/
theorem each1_any (A : Option Addr) (n c g1 g2 : Nat) (v : Value) (b : Bool) (w : World) (h1 : Blk w g1 30 #[v]) (h2 : Blk w g2 4 #[.bool b]) :
    Calls Tryd.prog 41 #[.slice A n c, .pointer (some ⟨g1, 0, none⟩), .pointer (some ⟨g2, 0, none⟩)] w fun e w' => e = .returned (.bool true) ∧ w' = (w.setCell ⟨g1, 0, none⟩ (.slice A n c)).setCell ⟨g2, 0, none⟩ (.bool true) := by
  have hne : g1 ≠ g2 := h1.apart h2 (by decide)
  have hne' : g2 ≠ g1 := Ne.symm hne
  have c1 := h1.cell 0
  have c2 := h2.cell 0
  have f1 := h1.frozen 0
  have f2 := h2.frozen 0
  simp at c1 c2
  go_enter Tryd.func41, Tryd.ntmps41
  go_wp2_with fail
  go_ret
  exact ⟨rfl, rfl⟩
/-- Count's closure. -/
theorem each2_any (A : Option Addr) (n c g1 g2 : Nat) (k limit : Int) (w : World) (hk0 : 0 ≤ k) (hk : k ≤ 1000000000) (h1 : Blk w g1 3 #[.int .i64 k]) (h2 : Blk w g2 3 #[.int .i64 limit]) (hne : g1 ≠ g2) :
    Calls Tryd.prog 39 #[.slice A n c, .pointer (some ⟨g1, 0, none⟩), .pointer (some ⟨g2, 0, none⟩)] w fun e w' => e = .returned (.bool (decide (limit < k + 1))) ∧ w' = w.setCell ⟨g1, 0, none⟩ (.int .i64 (k + 1)) := by
  have hne' : g2 ≠ g1 := Ne.symm hne
  have c1 := h1.cell 0
  have c2 := h2.cell 0
  have f1 := h1.frozen 0
  simp at c1 c2
  go_enter Tryd.func39, Tryd.ntmps39
  go_wp2_with fail
  go_ret
  exact ⟨rfl, rfl⟩
end Go.Proofs.YtfnhaoindehjdaaDoor
