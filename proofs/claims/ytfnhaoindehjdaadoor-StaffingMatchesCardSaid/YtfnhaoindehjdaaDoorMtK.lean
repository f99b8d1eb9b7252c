/- matching.check: a graph of sets whose members are below 256 is right. -/
import Derived.Test.YtfnhaoindehjdaaDoorBitsA
import Derived.Test.YtfnhaoindehjdaaDoorPc
namespace Go.Proofs.YtfnhaoindehjdaaDoor
open Go.RowKit
set_option linter.unusedVariables false
set_option linter.unusedSimpArgs false
set_option maxHeartbeats 8000000 in
set_option maxRecDepth 100000 in
theorem mcheck_any (A : Option Addr) (n c : Nat) (l : List Nat) (w : World) (h : SetsAt w w.heap.size A l) (hn : l.length = n) (hb : n ≤ 256) (hl : ∀ M ∈ l, M.log2 < 256) :
    Calls Tryd.prog 74 #[.slice A n c] w fun e w' => e = .returned (.int .i64 0) ∧ Below w.heap.size w w' := by
  have Hn := Lib.hid hn
  have hb1 : (n : Int) ≤ 256 := by omega
  have hgt : ¬ (256 : Int) < (n : Int) := by omega
  clear hn
  go_enter Tryd.func74, Tryd.ntmps74
  go_wp2_with fail
  go_loopw [12] (fun i wr => ∃ k : Nat, k ≤ n ∧ i = .int .i64 (k : Int) ∧ Below w.heap.size w wr) (fun i _ => n - (intOf i).toNat)
  case atStart => exact ⟨0, Nat.zero_le _, rfl, Below.refl _ _⟩
  case round =>
    obtain ⟨k, hk, rfl, hB⟩ := hrel
    by_cases hlt : k < n
    · have hlt' : (k : Int) < (n : Int) := by omega
      obtain ⟨M, hx⟩ : ∃ x, l[k]? = some x := ⟨_, List.getElem?_eq_getElem (by rw [Hn.out]; exact hlt)⟩
      have hM := hl M (List.mem_of_getElem? hx)
      obtain ⟨b, o, X, rfl, hb2, hcx, hS⟩ := (h.below hB) k _ hx
      obtain ⟨Av, nv, cv, rfl, hS⟩ : ∃ A n c, X = .slice A n c ∧ SetAt wr w.heap.size (.agg #[.slice A n c]) M := by
        obtain ⟨A, n, c, e, h⟩ := id hS
        obtain rfl : X = .slice A n c := by simpa using e
        exact ⟨A, n, c, rfl, hS⟩
      have HS := Lib.hid hS
      obtain ⟨q, hq⟩ : ∃ q : Nat, Hid (q = M.log2) := ⟨_, Lib.hid rfl⟩
      obtain ⟨t, ht⟩ : ∃ t : Bool, Hid (t = decide (M ≠ 0)) := ⟨_, Lib.hid rfl⟩
      have hq256 : ¬ (256 : Int) ≤ (q : Int) := by rw [hq.out]; omega
      have hgr := fun W (hW : Below wr.heap.size wr W) => greatest_any (.agg #[.slice Av nv cv]) M W ((HS.out.more hB.size).on hW)
      rw [← hq.out, ← ht.out] at hgr
      clear hx hS hM
      go_wp2_with fail
      have bA : Below wr.heap.size wr (wr.alloc (.cells #[.slice Av nv cv] 63)) := bAl (Below.refl _ _) _
      refine (hgr _ bA).mono ?_
      rintro e u ⟨rfl, bu⟩
      have hBu := hB.trans ((bJoin bA bu).mono hB.size)
      cases t
      · go_wp2_with fail
        go_roundw
        case rel => exact ⟨k + 1, by omega, by go_num, hBu⟩
        case measure => simp [intOf]; omega
      · go_wp2_with fail
        go_roundw
        case rel => exact ⟨k + 1, by omega, by go_num, hBu⟩
        case measure => simp [intOf]; omega
    · obtain rfl : k = n := by omega
      have hlt' : ¬ (k : Int) < (k : Int) := by omega
      go_wp2_with fail
      go_ret
      exact ⟨rfl, hB⟩
end Go.Proofs.YtfnhaoindehjdaaDoor
