/- The walks of the laws' members and short. -/
import Derived.Test.YtfbdfpnmopgkoaaDoorRefC
namespace Go.Proofs.YtfbdfpnmopgkoaaDoor
open Go.RowKit
set_option linter.unusedVariables false
set_option linter.unusedSimpArgs false

/-- The members that bytes stand for. -/
def mems (l : List UInt8) : List Nat := (List.range (min l.length 20)).map fun k => 16 * (l.getD k 0).toNat + k % 16
theorem mems_length (l : List UInt8) : (mems l).length = min l.length 20 := by simp [mems]
theorem mems_lt (l : List UInt8) : ∀ i ∈ mems l, i < 4096 := by
  intro i hi
  obtain ⟨k, _, rfl⟩ := List.mem_map.1 hi
  have := (l.getD k 0).toNat_lt
  omega
theorem mems_get {l : List UInt8} {k : Nat} {x : UInt8} (hk : k < min l.length 20) (hx : l[k]? = some x) : (mems l)[k]? = some (16 * x.toNat + k % 16) := by
  unfold mems
  rw [List.getElem?_map, List.getElem?_range hk]
  simp [hx]
theorem mems_take {l : List UInt8} {k : Nat} {x : UInt8} (hk : k < min l.length 20) (hx : l[k]? = some x) : (mems l).take (k + 1) = (mems l).take k ++ [16 * x.toNat + k % 16] := by
  rw [List.take_add_one, mems_get hk hx]; rfl
def cst (l : List Nat) : List Int := l.map fun i => ((i : Nat) : Int)
theorem cst_snoc (l : List Nat) (i : Nat) : cst (l ++ [i]) = cst l ++ [((i : Nat) : Int)] := by unfold cst; rw [List.map_append]; rfl

set_option maxRecDepth 100000 in
/-- members. -/
theorem members_any (A : Option Addr) (n c : Nat) (l : List UInt8) (w : World) (h : Sees w w.heap.size A (l.map bv)) (hn : l.length = n) :
    Calls Tryd.prog 52 #[.slice A n c] w fun e w' => ∃ A' n' c', e = .returned (.slice A' n' c') ∧ n' ≤ 20 ∧ OwnI w' w.heap.size (.slice A' n' c') n' (cst (mems l)) ∧ Below w.heap.size w w' := by
  have Hn := Lib.hid hn
  obtain ⟨m, hm⟩ : ∃ m, m = min n 20 := ⟨_, rfl⟩
  have hm1 : m ≤ n := by omega
  have hm2 : m ≤ 20 := by omega
  have hm3 : ∀ k : Nat, k < m ↔ k < n ∧ k < 20 := by omega
  have Hm := Lib.hid hm
  have HM := Lib.hid hm3
  clear hn hm hm3
  go_enter Tryd.func52, Tryd.ntmps52
  go_wp2_with fail
  go_loopw [3, 4] (fun v3 v4 wr => ∃ (k : Nat) (A' : Option Addr) (c' : Nat), v4 = .int .i64 k ∧ k ≤ m ∧ v3 = .slice A' k c' ∧ OwnI wr w.heap.size (.slice A' k c') k (cst ((mems l).take k)) ∧ Below w.heap.size w wr) (fun _ v4 _ => m - (intOf v4).toNat)
  case atStart => exact ⟨0, none, 0, rfl, Nat.zero_le _, rfl, OwnI.nil _ _, Below.refl _ _⟩
  case round =>
    obtain ⟨k, A', c', rfl, hk, rfl, ho, hB⟩ := hrel
    by_cases hlt : k < m
    · obtain ⟨hkn, hk20⟩ := (HM.out k).1 hlt
      have hkn' : (k : Int) < (n : Int) := by omega
      have hk20' : (k : Int) < 20 := by omega
      obtain ⟨b, o, x, rfl, hb1, Hx, hx, hc1⟩ := Sees.byte (k := k) (h.on hB) (by rw [Hn.out]; exact hkn)
      have hz := hB.size
      have ht := mems_take (by rw [Hn.out, ← Hm.out]; exact hlt) Hx.out
      have Ht := Lib.hid (show cst ((mems l).take (k + 1)) = cst ((mems l).take k) ++ [16 * (x.toNat : Int) + (k : Int) % 16] by
        rw [ht, cst_snoc]; congr 2)
      clear ht
      go_wp2_with (at_builtin; refine wpL_appI1 _ rfl (.tmp 15) (.tmp 25) rfl wr w.heap.size _ k _ rfl ho _ rfl _ rfl rfl (by omega) hz (k + 1) rfl ?_; intro A6 c6 w5 o6 g6 b5)
      go_roundw
      case rel => exact ⟨k + 1, A6, c6, by go_num, by omega, rfl, by rw [Ht.out]; exact o6, hB.trans b5⟩
      case measure => simp [intOf]; omega
    · have hke : k = m := by omega
      subst hke
      have hend : ¬ ((k : Int) < (n : Int) ∧ (k : Int) < 20) := fun ⟨h1, h2⟩ => hlt ((HM.out k).2 ⟨by omega, by omega⟩)
      have hT : (mems l).take k = mems l := List.take_of_length_le (by rw [mems_length, Hn.out, ← Hm.out]; exact Nat.le_refl _)
      by_cases h1 : (k : Int) < (n : Int)
      · have h2 : ¬ (k : Int) < 20 := fun h2 => hend ⟨h1, h2⟩
        clear hend
        rw [hT] at ho
        go_wp2_with fail
        go_ret
        exact ⟨A', k, c', rfl, hm2, ho, hB⟩
      · clear hend
        rw [hT] at ho
        go_wp2_with fail
        go_ret
        exact ⟨A', k, c', rfl, hm2, ho, hB⟩

/-- short: at most 300 bytes. -/
theorem short_any (A : Option Addr) (n c : Nat) (w : World) (hc : n ≤ c) (hm : c ≤ 9223372036854775807) :
    Calls Tryd.prog 6 #[.slice A n c] w fun e w' => e = .returned (.slice A (min n 300) c) ∧ w = w' := by
  obtain ⟨k, hk⟩ : ∃ k, k = min n 300 := ⟨_, rfl⟩
  rw [← hk]
  have Hk := Lib.hid hk
  have hk1 : k ≤ n := by omega
  have hk2 : (k : Int) ≤ (c : Int) := by omega
  have hk3 : (0 : Int) ≤ (k : Int) := by omega
  have hk4 : k ≤ c := by omega
  have hk5 : (k : Int) ≤ (n : Int) := by omega
  clear hk
  go_enter Tryd.func6, Tryd.ntmps6
  go_wp2_with (with_reducible refine wpL_min2 _ rfl (.tmp 5) (.const (.int .i64 300)) _ rfl _ _ rfl rfl (k : Int) (by have := Hk.out; omega) ?_)
  go_ret
  exact ⟨rfl, rfl⟩
end Go.Proofs.YtfbdfpnmopgkoaaDoor
