/- slices.Equal at pairs, slices.EqualFunc at sets and at limits: of equal lists. -/
import Derived.Test.YtfnhaoindehjdaaDoorBitsEqD
import Derived.Test.YtfnhaoindehjdaaDoorPa
import Derived.Test.YtfnhaoindehjdaaDoorPl
import Derived.Test.YtfnhaoindehjdaaDoorPf
import Derived.Deep.QuietTactic
import Derived.BigQuiet
namespace Go.Proofs.YtfnhaoindehjdaaDoor
open Go.RowKit
set_option linter.unusedVariables false
set_option linter.unusedSimpArgs false

theorem neq_pair (a b c d : Int) (w : World) : (binOp .neq 66 (.agg #[.int .i64 a, .int .i64 b]) (.agg #[.int .i64 c, .int .i64 d])).run Tryd.prog w = .ok (.bool (!(a == c && b == d))) w := by
  have hsz : ∀ w, (sizeOf 3).run Tryd.prog w = .ok 1 w := fun w => by
    obtain ⟨i0, hi, hz0, hz1, hz2⟩ := info_parts int_info
    simp [sizeOf, typeInfo, hi, hz1]
  have p0 : ∀ (x y : Int) w, (part 3 #[.int .i64 x, .int .i64 y] 0).run Tryd.prog w = .ok (.int .i64 x) w := fun x y w => by
    simp [part, isAgg, run_underlying Tryd.underlying3]
  have p1 : ∀ (x y : Int) w, (part 3 #[.int .i64 x, .int .i64 y] 1).run Tryd.prog w = .ok (.int .i64 y) w := fun x y w => by
    simp [part, isAgg, run_underlying Tryd.underlying3]
  have pe : ∀ (x y : Int) w, (Op.equalIn 9999 3 (.int .i64 x) (.int .i64 y)).run Tryd.prog w = .ok (x == y) w := fun x y w => run_equalIn_int w 9998 _ .i64 .i64 x y Tryd.underlying3
  rw [run_neq_struct, Op.equalIn]
  simp only [Sem.run_bind, run_underlying Tryd.underlying66, Result.andThen_ok, hsz, Std.Legacy.Range.forIn_eq_forIn_range', Std.Legacy.Range.size, Nat.sub_zero, Nat.add_sub_cancel, Nat.div_one, List.range', List.forIn_cons, Nat.zero_mul, Nat.zero_add, Nat.one_mul, p0, p1, pe]
  by_cases h1 : a = c <;> by_cases h2 : b = d <;> simp [h1, h2, p1, pe]
set_option maxHeartbeats 4000000 in
set_option maxRecDepth 100000 in
theorem eqP_true (A A2 : Option Addr) (n c c2 : Nat) (l : List (Int × Int)) (w : World) (h : PairsAt w w.heap.size A l) (h2 : PairsAt w w.heap.size A2 l) (hn : l.length = n) (hb : n ≤ 1000000) :
    Calls Tryd.prog 72 #[.slice A n c, .slice A2 n c2] w fun e w' => e = .returned (.bool true) ∧ Below w.heap.size w w' := by
  have Hn := Lib.hid hn
  have hb1 : (n : Int) ≤ 1000000 := by omega
  have hne : ((n : Int) != (n : Int)) = false := by simp
  clear hn
  go_enter Tryd.func72, Tryd.ntmps72
  go_wp2_with fail
  go_loopw [13] (fun i wr => ∃ k : Nat, k ≤ n ∧ i = .int .i64 (k : Int) ∧ Below w.heap.size w wr) (fun i _ => n - (intOf i).toNat)
  case atStart => exact ⟨0, Nat.zero_le _, rfl, Below.refl _ _⟩
  case round =>
    obtain ⟨k, hk, rfl, hB⟩ := hrel
    by_cases hlt : k < n
    · have hlt' : (k : Int) < (n : Int) := by omega
      obtain ⟨⟨p, q⟩, hx⟩ : ∃ x, l[k]? = some x := ⟨_, List.getElem?_eq_getElem (by rw [Hn.out]; exact hlt)⟩
      obtain ⟨b, o, rfl, hb2, hcx, hcy⟩ := (h.below hB) k _ hx
      obtain ⟨b', o', rfl, hb2', hcx', hcy'⟩ := (h2.below hB) k _ hx
      simp only [] at hcx hcy hcx' hcy'
      have hBd := fun q => hB.trans ((below_drewN (Below.refl wr.heap.size wr) q).mono hB.size)
      have heq := fun W => neq_pair p q p q W
      rw [beq_self_eq_true, beq_self_eq_true, Bool.and_self, Bool.not_true] at heq
      clear hx
      go_wp2_with fail
      go_quiet (fail)
      go_wp2_with fail
      go_roundw
      case rel => exact ⟨k + 1, by omega, by go_num, hBd _⟩
      case measure => simp [intOf]; omega
    · obtain rfl : k = n := by omega
      have hlt' : ¬ (k : Int) < (k : Int) := by omega
      go_wp2_with fail
      go_ret
      exact ⟨rfl, hB⟩
set_option maxHeartbeats 4000000 in
set_option maxRecDepth 100000 in
theorem eqSets_true (A A2 : Option Addr) (n c c2 : Nat) (l : List Nat) (w : World) (h : SetsAt w w.heap.size A l) (h2 : SetsAt w w.heap.size A2 l) (hn : l.length = n) (hb : n ≤ 1000000) :
    Calls Tryd.prog 71 #[.slice A n c, .slice A2 n c2, .func (.func 70) #[] #[]] w fun e w' => e = .returned (.bool true) ∧ Below w.heap.size w w' := by
  have Hn := Lib.hid hn
  have hb1 : (n : Int) ≤ 1000000 := by omega
  have hne : ((n : Int) != (n : Int)) = false := by simp
  clear hn
  go_enter Tryd.func71, Tryd.ntmps71
  go_wp2_with fail
  go_loopw [17] (fun i wr => ∃ k : Nat, k ≤ n ∧ i = .int .i64 (k : Int) ∧ Below w.heap.size w wr) (fun i _ => n - (intOf i).toNat)
  case atStart => exact ⟨0, Nat.zero_le _, rfl, Below.refl _ _⟩
  case round =>
    obtain ⟨k, hk, rfl, hB⟩ := hrel
    by_cases hlt : k < n
    · have hlt' : (k : Int) < (n : Int) := by omega
      obtain ⟨M, hx⟩ : ∃ x, l[k]? = some x := ⟨_, List.getElem?_eq_getElem (by rw [Hn.out]; exact hlt)⟩
      obtain ⟨b, o, X, rfl, hb2, hcx, hS⟩ := (h.below hB) k _ hx
      obtain ⟨b', o', X', rfl, hb2', hcx', hS'⟩ := (h2.below hB) k _ hx
      obtain ⟨Av, nv, cv, rfl, hS⟩ : ∃ A n c, X = .slice A n c ∧ SetAt wr w.heap.size (.agg #[.slice A n c]) M := by
        obtain ⟨A, n, c, e, h⟩ := id hS
        obtain rfl : X = .slice A n c := by simpa using e
        exact ⟨A, n, c, rfl, hS⟩
      obtain ⟨Av', nv', cv', rfl, hS'⟩ : ∃ A n c, X' = .slice A n c ∧ SetAt wr w.heap.size (.agg #[.slice A n c]) M := by
        obtain ⟨A, n, c, e, h⟩ := id hS'
        obtain rfl : X' = .slice A n c := by simpa using e
        exact ⟨A, n, c, rfl, hS'⟩
      have HS := Lib.hid hS
      have HS' := Lib.hid hS'
      have hbs : b < wr.heap.size := Nat.lt_of_lt_of_le hb2 hB.size
      have hbs' : b' < wr.heap.size := Nat.lt_of_lt_of_le hb2' hB.size
      have hcx'' : ∀ o9, (wr.alloc o9).cell? ⟨b', o' + k, none⟩ = some (.slice Av' nv' cv') := fun o9 => ((bAl (Below.refl wr.heap.size wr) o9).cell (p := ⟨b', o' + k, none⟩) hbs').trans hcx'
      clear hx hS hS' hcx'
      go_wp2_with fail
      have bA : Below wr.heap.size wr ((wr.alloc (.cells #[.slice Av nv cv] 63)).alloc (.cells #[.slice Av' nv' cv'] 63)) := bAl (bAl (Below.refl _ _) _) _
      refine (setEqual_any _ _ M M _ ((HS.out.more hB.size).on bA) ((HS'.out.more hB.size).on bA)).mono ?_
      rintro e u ⟨rfl, bu⟩
      have hT : decide (M = M) = true := by simp
      have hBu := hB.trans ((bJoin bA bu).mono hB.size)
      go_wp2_with fail
      go_roundw
      case rel => exact ⟨k + 1, by omega, by go_num, hBu⟩
      case measure => simp [intOf]; omega
    · obtain rfl : k = n := by omega
      have hlt' : ¬ (k : Int) < (k : Int) := by omega
      go_wp2_with fail
      go_ret
      exact ⟨rfl, hB⟩
set_option maxHeartbeats 4000000 in
set_option maxRecDepth 100000 in
theorem same1_true (z : Int) (M : Nat) (Av Av' : Option Addr) (nv cv nv' cv' : Nat) (w : World) (h : SetAt w w.heap.size (.agg #[.slice Av nv cv]) M) (h' : SetAt w w.heap.size (.agg #[.slice Av' nv' cv']) M) :
    Calls Tryd.prog 69 #[.agg #[.int .i64 z, .slice Av nv cv], .agg #[.int .i64 z, .slice Av' nv' cv']] w fun e w' => e = .returned (.bool true) ∧ Below w.heap.size w w' := by
  have hz : (z == z) = true := by simp
  go_enter Tryd.func69, Tryd.ntmps69
  go_wp2_with fail
  have bA : Below w.heap.size w ((w.alloc (.cells #[.int .i64 z, .slice Av nv cv] 69)).alloc (.cells #[.int .i64 z, .slice Av' nv' cv'] 69)) := bAl (bAl (Below.refl _ _) _) _
  refine (setEqual_any _ _ M M _ (h.on bA) (h'.on bA)).mono ?_
  rintro e u ⟨rfl, bu⟩
  have hT : decide (M = M) = true := by simp
  have hBu := bJoin bA bu
  go_wp2_with fail
  go_ret
  exact ⟨ret_bool (by simp), hBu⟩
set_option maxHeartbeats 4000000 in
set_option maxRecDepth 100000 in
theorem eqMosts_true (A A2 : Option Addr) (n c c2 : Nat) (l : List (Int × Nat)) (w : World) (h : MostAt w w.heap.size A l) (h2 : MostAt w w.heap.size A2 l) (hn : l.length = n) (hb : n ≤ 1000000) :
    Calls Tryd.prog 73 #[.slice A n c, .slice A2 n c2, .func (.func 69) #[] #[]] w fun e w' => e = .returned (.bool true) ∧ Below w.heap.size w w' := by
  have Hn := Lib.hid hn
  have hb1 : (n : Int) ≤ 1000000 := by omega
  have hne : ((n : Int) != (n : Int)) = false := by simp
  clear hn
  go_enter Tryd.func73, Tryd.ntmps73
  go_wp2_with fail
  go_loopw [17] (fun i wr => ∃ k : Nat, k ≤ n ∧ i = .int .i64 (k : Int) ∧ Below w.heap.size w wr) (fun i _ => n - (intOf i).toNat)
  case atStart => exact ⟨0, Nat.zero_le _, rfl, Below.refl _ _⟩
  case round =>
    obtain ⟨k, hk, rfl, hB⟩ := hrel
    by_cases hlt : k < n
    · have hlt' : (k : Int) < (n : Int) := by omega
      obtain ⟨⟨z, M⟩, hx⟩ : ∃ x, l[k]? = some x := ⟨_, List.getElem?_eq_getElem (by rw [Hn.out]; exact hlt)⟩
      obtain ⟨b, o, X, rfl, hb2, hcz, hcx, hS⟩ := (h.below hB) k _ hx
      obtain ⟨b', o', X', rfl, hb2', hcz', hcx', hS'⟩ := (h2.below hB) k _ hx
      simp only [] at hcz hcx hS hcz' hcx' hS'
      obtain ⟨Av, nv, cv, rfl, hS⟩ : ∃ A n c, X = .slice A n c ∧ SetAt wr w.heap.size (.agg #[.slice A n c]) M := by
        obtain ⟨A, n, c, e, h⟩ := id hS
        obtain rfl : X = .slice A n c := by simpa using e
        exact ⟨A, n, c, rfl, hS⟩
      obtain ⟨Av', nv', cv', rfl, hS'⟩ : ∃ A n c, X' = .slice A n c ∧ SetAt wr w.heap.size (.agg #[.slice A n c]) M := by
        obtain ⟨A, n, c, e, h⟩ := id hS'
        obtain rfl : X' = .slice A n c := by simpa using e
        exact ⟨A, n, c, rfl, hS'⟩
      have HS := Lib.hid hS
      have HS' := Lib.hid hS'
      have hbs : b < wr.heap.size := Nat.lt_of_lt_of_le hb2 hB.size
      have hbs' : b' < wr.heap.size := Nat.lt_of_lt_of_le hb2' hB.size
      have hcx'' : ∀ o9, (wr.alloc o9).cell? ⟨b', o' + k * 2 + 1, none⟩ = some (.slice Av' nv' cv') := fun o9 => ((bAl (Below.refl wr.heap.size wr) o9).cell (p := ⟨b', o' + k * 2 + 1, none⟩) hbs').trans hcx'
      have hcz'' : ∀ o9, (wr.alloc o9).cell? ⟨b', o' + k * 2, none⟩ = some (.int .i64 z) := fun o9 => ((bAl (Below.refl wr.heap.size wr) o9).cell (p := ⟨b', o' + k * 2, none⟩) hbs').trans hcz'
      clear hx hS hS' hcx' hcz'
      go_wp2_with fail
      have bA : Below wr.heap.size wr ((wr.alloc (.cells #[.int .i64 z, .slice Av nv cv] 69)).alloc (.cells #[.int .i64 z, .slice Av' nv' cv'] 69)) := bAl (bAl (Below.refl _ _) _) _
      refine (same1_true z M Av Av' nv cv nv' cv' _ ((HS.out.more hB.size).on bA) ((HS'.out.more hB.size).on bA)).mono ?_
      rintro e u ⟨rfl, bu⟩
      have hBu := hB.trans ((bJoin bA bu).mono hB.size)
      go_wp2_with fail
      go_roundw
      case rel => exact ⟨k + 1, by omega, by go_num, hBu⟩
      case measure => simp [intOf]; omega
    · obtain rfl : k = n := by omega
      have hlt' : ¬ (k : Int) < (k : Int) := by omega
      go_wp2_with fail
      go_ret
      exact ⟨rfl, hB⟩
end Go.Proofs.YtfnhaoindehjdaaDoor
