/- slices.Grow of nothing, slices.Concat: at pairs and at limits. (gencat.py) -/
import Derived.Test.YtfnhaoindehjdaaDoorPl
import Derived.Lib.AppendZerosOnto
import Derived.Deep.RegionWith
namespace Go.Proofs.YtfnhaoindehjdaaDoor
open Go.RowKit
set_option linter.unusedVariables false
set_option linter.unusedSimpArgs false

theorem run_zeros0 (e t : TypeId) (z : Value) (size bytes : Nat) (hinf : (Tryd.prog.info? e).map (fun i => (i.zero, i.size, i.bytes)) = some (some z, size, bytes)) (ht : Tryd.prog.underlying t = some (.slice e)) (hzs : z.cells.size = size) (hsz : 0 < size) (hby : bytes ≤ 100)
    (w : World) (ty : TypeId) (m : Nat) (h0 : 0 < m) (hb : m ≤ 1000000) :
    ∃ A' c' w', (Builtin.append_ #[t, 3] ty #[.slice none 0 0, .int .i64 (m : Int)]).run Tryd.prog w = .ok (.slice A' m c') w' ∧ m ≤ c' ∧ w'.ownsRow w.heap.size e size (.slice A' 0 c') 0 [] ∧ Below w.heap.size w w' := by
  obtain ⟨i0, hi0, hz0, hz1, hz2⟩ := info_parts hinf
  have hmb : m * i0.bytes ≤ 1000000 * 100 := Nat.mul_le_mul hb (by rw [hz2]; exact hby)
  have hr := Lib.run_append_grow_zeros (P := Tryd.prog) w t 3 ty e i0 z .i64 .i64 ht Tryd.underlying3 hi0 hz0 none 0 0 [] (run_firstCells_none w.drew _ _ _ _) m h0 (by omega) (by omega) (by omega) (by omega)
    (growslice_fits (by omega) (by rw [Nat.zero_add]; omega))
  rw [Nat.zero_add] at hr
  have hge := grownCap_ge w m 0 e
  have hcm : grownCap w m 0 e ≤ maxLen := grownCap_le_maxLen w m 0 e (by unfold maxLen; omega)
  refine ⟨_, _, _, hr, hge, ⟨by simp, .inr ⟨w.heap.size, _, _, rfl, Nat.le_refl _, heap_alloc_new w.drew _, Nat.zero_le _, hcm, ?_, ?_⟩⟩, bAl (Below.refl _ _).drew _⟩
  · simp only [Array.size_append, size_zeroCells, hzs]
    show 0 + m * size + (grownCap w m 0 e - m) * size = grownCap w m 0 e * size
    rw [Nat.zero_add, ← Nat.add_mul, Nat.add_sub_cancel' hge]
  · simp
theorem wpL_zeros0 (e t : TypeId) (z : Value) (size bytes : Nat) (hinf : (Tryd.prog.info? e).map (fun i => (i.zero, i.size, i.bytes)) = some (some z, size, bytes)) (ht : Tryd.prog.underlying t = some (.slice e)) (hzs : z.cells.size = size) (hsz : 0 < size) (hby : bytes ≤ 100)
    (w : World) {ops : Array Oper} {rest : List Oper} {o : Oper} {a : Act} {Q : Exit → Act → World → Prop} (hgd : o.guard = none) (s x : Operand)
    (ho : o.op = .call { callee := .builtin .append, args := #[s, x], argTypes := #[t, 3] })
    (hs : a.eval s = .slice none 0 0) (q : Int) (m : Nat) (hx : a.eval x = .int .i64 q) (hq : q = (m : Int)) (h0 : 0 < m) (hb : m ≤ 1000000)
    (h : ∀ A' c' w', m ≤ c' → w'.ownsRow w.heap.size e size (.slice A' 0 c') 0 [] → Below w.heap.size w w' → wpList Tryd.prog ops Q rest (a.put o.dst (.slice A' m c')) w') : wpList Tryd.prog ops Q (o :: rest) a w := by
  subst hq
  obtain ⟨A', c', w', hr, h1, h2, h3⟩ := run_zeros0 e t z size bytes hinf ht hzs hsz hby w o.type m h0 hb
  exact Lib.wpList_append_run w hgd s x _ _ ho _ _ hs hx _ _ hr (h A' c' w' h1 h2 h3)
/-- A list of rows, read: row i has the cells xss[i], two an element. -/
def Rows2 (w : World) (vs : List Value) (xss : List (List Value)) : Prop := ∀ (i : Nat) (u : Value), vs[i]? = some u → ∃ (A : Option Addr) (n c : Nat) (xs : List Value), u = .slice A n c ∧ xss[i]? = some xs ∧ xs.length = n * 2 ∧ n ≤ 10000 ∧ (∀ v ∈ xs, v.oneCell' = true) ∧ Sees w w.heap.size A xs
theorem Rows2.on {w w' : World} {vs : List Value} {xss : List (List Value)} (h : Rows2 w vs xss) (hb : Below w.heap.size w w') : Rows2 w' vs xss := fun i u hu => by
  obtain ⟨A, n, c, xs, e1, e2, e3, e4, e6, e5⟩ := h i u hu
  exact ⟨A, n, c, xs, e1, e2, e3, e4, e6, e5.on hb⟩
theorem flat_take_succ {α : Type} {l : List (List α)} {k : Nat} {x : List α} (h : l[k]? = some x) : (l.take (k + 1)).flatten = (l.take k).flatten ++ x := by
  rw [List.take_add_one, h]; simp

theorem grow_pairs (n : Nat) (w : World) (hn : n ≤ 1000000) :
    Calls Tryd.prog 62 #[.slice none 0 0, .int .i64 (n : Int)] w fun e w' => ∃ A' c', e = .returned (.slice A' 0 c') ∧ w'.ownsRow w.heap.size 66 2 (.slice A' 0 c') 0 [] ∧ Below w.heap.size w w' := by
  have f0 : (0 : Int) ≤ (n : Int) := by omega
  by_cases h : 0 < n
  · have h' : (0 : Int) < (n : Int) := by omega
    go_enter Tryd.func62, Tryd.ntmps62
    go_wp2_with (at_builtin; refine wpL_zeros0 66 28 _ 2 16 pair_info Tryd.underlying28 rfl (by omega) (by omega) _ rfl (.tmp 20) (.tmp 21) rfl rfl _ n rfl (by omega) (by omega) (by omega) ?_; intro A4 c4 w4 hc4 o4 b4)
    go_ret
    exact ⟨A4, c4, rfl, o4, b4⟩
  · obtain rfl : n = 0 := by omega
    go_enter Tryd.func62, Tryd.ntmps62
    go_wp2_with fail
    go_ret
    exact ⟨none, 0, rfl, World.ownsRow_nil _ _ _ _, Below.refl _ _⟩
set_option maxHeartbeats 4000000 in
set_option maxRecDepth 100000 in
theorem concat_pairs (A : Option Addr) (n c : Nat) (vs : List Value) (xss : List (List Value)) (w : World) (h : Sees w w.heap.size A vs) (hn : vs.length = n) (hx : xss.length = n) (hr : Rows2 w vs xss) (hb : n ≤ 10) :
    Calls Tryd.prog 28 #[.slice A n c] w fun e w' => ∃ A' m c', e = .returned (.slice A' m c') ∧ m ≤ 10000 * n ∧ w'.ownsRow w.heap.size 66 2 (.slice A' m c') m xss.flatten ∧ Below w.heap.size w w' := by
  have Hn := Lib.hid hn; have Hr := Lib.hid hr; have Hx := Lib.hid hx; clear hn hr hx
  go_enter Tryd.func28, Tryd.ntmps28
  go_wp2_with fail
  go_loop [3, 11] (fun v3 v11 => ∃ i m : Nat, v3 = .int .i64 (m : Nat) ∧ v11 = .int .i64 (i : Nat) ∧ i ≤ n ∧ m ≤ 10000 * i) (fun _ v11 => n - (intOf v11).toNat)
  case atStart => exact ⟨0, 0, rfl, rfl, by omega, by omega⟩
  case round =>
    obtain ⟨i, m, rfl, rfl, hi, hm⟩ := hrel
    have hi0 : (0 : Int) ≤ (i : Int) := by omega
    have hm0 : (0 : Int) ≤ (m : Int) := by omega
    by_cases hin : i < n
    · have hin' : (i : Int) < (n : Int) := by omega
      have hiv : i < vs.length := by rw [Hn.out]; exact hin
      obtain ⟨b, o, hA, hbb, hcl⟩ := h.at_ hiv
      subst hA
      obtain ⟨Ai, ni, ci, l, hu, hls, hll, hln, hone, sl⟩ := Hr.out i vs[i] (List.getElem?_eq_getElem hiv)
      rw [hu] at hcl
      have hw : IntKind.i64.wrap ((m : Int) + (ni : Int)) = ((m + ni : Nat) : Int) := by rw [IntKind.wrap_i64]; omega
      have hs : ¬ (((m + ni : Nat) : Int) < 0) := by omega
      clear hll hone hls
      go_wp2_with fail
      go_round
      case rel => exact ⟨i + 1, m + ni, by go_num, by go_num, by omega, by omega⟩
      case measure => simp [intOf]; omega
    · obtain rfl : i = n := by omega
      go_wp2_with fail
      refine (grow_pairs m w (by omega)).mono ?_
      rintro e w1 ⟨A1, c1, rfl, o1, b1⟩
      have hz1 := b1.size
      go_wp2_with fail
      go_loopw [6, 27] (fun v6 v27 wr => ∃ (A6 : Option Addr) (k c6 : Nat) (j : Nat), v6 = .slice A6 k c6 ∧ v27 = .int .i64 (j : Nat) ∧ j ≤ i ∧ k ≤ 10000 * j ∧ wr.ownsRow w.heap.size 66 2 (.slice A6 k c6) k (xss.take j).flatten ∧ Below w.heap.size w wr) (fun _ v27 _ => i - (intOf v27).toNat)
      case atStart => exact ⟨A1, 0, c1, 0, rfl, rfl, by omega, by omega, o1, b1⟩
      case round =>
        obtain ⟨A6, k, c6, j, rfl, rfl, hj, hk, o6, b6⟩ := hrel
        have hj0 : (0 : Int) ≤ (j : Int) := by omega
        have hz6 := b6.size
        by_cases hji : j < i
        · have hji' : (j : Int) < (i : Int) := by omega
          have hiv : j < vs.length := by rw [Hn.out]; exact hji
          obtain ⟨b, o, hA, hbb, hcl⟩ := h.at_ hiv
          subst hA
          obtain ⟨Ai, ni, ci, l2, hu, hls, hll, hln, hone, sl⟩ := Hr.out j vs[j] (List.getElem?_eq_getElem hiv)
          rw [hu] at hcl
          have hc2 := (bcell b6).1 b (o + j) hbb
          rw [hcl] at hc2
          have sl6 := sl.on b6
          have Hll := Lib.hid hll; clear hll
          have Hls := Lib.hid (flat_take_succ hls); clear hls
          obtain ⟨i0, hi0, hz0, hz1, hz2⟩ := info_parts pair_info
          go_wp2_with (at_builtin; refine wpList_append_sees _ rfl (.tmp 31) (.tmp 32) _ rfl w.heap.size _ i0 _ 2 16 Tryd.underlying28 hi0 hz0 hz1 hz2 rfl (by omega) _ k _ rfl o6 wr.heap.size Ai ni ci l2 rfl Hll.out sl6 hone (by unfold maxLen; omega) (by omega) hz6 (k + ni) rfl _ rfl ?_; intro A7 c7 w7 o7 g7 _)
          rw [← Hls.out] at o7
          go_roundw
          case rel => exact ⟨A7, k + ni, c7, j + 1, rfl, by go_num, by omega, by omega, o7, below_app b6 hz6 o6 g7⟩
          case measure => simp [intOf]; omega
        · obtain rfl : j = i := by omega
          rw [List.take_of_length_le (by rw [Hx.out]; exact Nat.le_refl _)] at o6
          go_wp2_with fail
          go_ret
          exact ⟨A6, k, c6, rfl, hk, o6, b6⟩

theorem grow_most (n : Nat) (w : World) (hn : n ≤ 1000000) :
    Calls Tryd.prog 63 #[.slice none 0 0, .int .i64 (n : Int)] w fun e w' => ∃ A' c', e = .returned (.slice A' 0 c') ∧ w'.ownsRow w.heap.size 69 2 (.slice A' 0 c') 0 [] ∧ Below w.heap.size w w' := by
  have f0 : (0 : Int) ≤ (n : Int) := by omega
  by_cases h : 0 < n
  · have h' : (0 : Int) < (n : Int) := by omega
    go_enter Tryd.func63, Tryd.ntmps63
    go_wp2_with (at_builtin; refine wpL_zeros0 69 29 _ 2 32 fmost_info Tryd.underlying29 rfl (by omega) (by omega) _ rfl (.tmp 20) (.tmp 21) rfl rfl _ n rfl (by omega) (by omega) (by omega) ?_; intro A4 c4 w4 hc4 o4 b4)
    go_ret
    exact ⟨A4, c4, rfl, o4, b4⟩
  · obtain rfl : n = 0 := by omega
    go_enter Tryd.func63, Tryd.ntmps63
    go_wp2_with fail
    go_ret
    exact ⟨none, 0, rfl, World.ownsRow_nil _ _ _ _, Below.refl _ _⟩
set_option maxHeartbeats 4000000 in
set_option maxRecDepth 100000 in
theorem concat_most (A : Option Addr) (n c : Nat) (vs : List Value) (xss : List (List Value)) (w : World) (h : Sees w w.heap.size A vs) (hn : vs.length = n) (hx : xss.length = n) (hr : Rows2 w vs xss) (hb : n ≤ 10) :
    Calls Tryd.prog 29 #[.slice A n c] w fun e w' => ∃ A' m c', e = .returned (.slice A' m c') ∧ m ≤ 10000 * n ∧ w'.ownsRow w.heap.size 69 2 (.slice A' m c') m xss.flatten ∧ Below w.heap.size w w' := by
  have Hn := Lib.hid hn; have Hr := Lib.hid hr; have Hx := Lib.hid hx; clear hn hr hx
  go_enter Tryd.func29, Tryd.ntmps29
  go_wp2_with fail
  go_loop [3, 11] (fun v3 v11 => ∃ i m : Nat, v3 = .int .i64 (m : Nat) ∧ v11 = .int .i64 (i : Nat) ∧ i ≤ n ∧ m ≤ 10000 * i) (fun _ v11 => n - (intOf v11).toNat)
  case atStart => exact ⟨0, 0, rfl, rfl, by omega, by omega⟩
  case round =>
    obtain ⟨i, m, rfl, rfl, hi, hm⟩ := hrel
    have hi0 : (0 : Int) ≤ (i : Int) := by omega
    have hm0 : (0 : Int) ≤ (m : Int) := by omega
    by_cases hin : i < n
    · have hin' : (i : Int) < (n : Int) := by omega
      have hiv : i < vs.length := by rw [Hn.out]; exact hin
      obtain ⟨b, o, hA, hbb, hcl⟩ := h.at_ hiv
      subst hA
      obtain ⟨Ai, ni, ci, l, hu, hls, hll, hln, hone, sl⟩ := Hr.out i vs[i] (List.getElem?_eq_getElem hiv)
      rw [hu] at hcl
      have hw : IntKind.i64.wrap ((m : Int) + (ni : Int)) = ((m + ni : Nat) : Int) := by rw [IntKind.wrap_i64]; omega
      have hs : ¬ (((m + ni : Nat) : Int) < 0) := by omega
      clear hll hone hls
      go_wp2_with fail
      go_round
      case rel => exact ⟨i + 1, m + ni, by go_num, by go_num, by omega, by omega⟩
      case measure => simp [intOf]; omega
    · obtain rfl : i = n := by omega
      go_wp2_with fail
      refine (grow_most m w (by omega)).mono ?_
      rintro e w1 ⟨A1, c1, rfl, o1, b1⟩
      have hz1 := b1.size
      go_wp2_with fail
      go_loopw [6, 27] (fun v6 v27 wr => ∃ (A6 : Option Addr) (k c6 : Nat) (j : Nat), v6 = .slice A6 k c6 ∧ v27 = .int .i64 (j : Nat) ∧ j ≤ i ∧ k ≤ 10000 * j ∧ wr.ownsRow w.heap.size 69 2 (.slice A6 k c6) k (xss.take j).flatten ∧ Below w.heap.size w wr) (fun _ v27 _ => i - (intOf v27).toNat)
      case atStart => exact ⟨A1, 0, c1, 0, rfl, rfl, by omega, by omega, o1, b1⟩
      case round =>
        obtain ⟨A6, k, c6, j, rfl, rfl, hj, hk, o6, b6⟩ := hrel
        have hj0 : (0 : Int) ≤ (j : Int) := by omega
        have hz6 := b6.size
        by_cases hji : j < i
        · have hji' : (j : Int) < (i : Int) := by omega
          have hiv : j < vs.length := by rw [Hn.out]; exact hji
          obtain ⟨b, o, hA, hbb, hcl⟩ := h.at_ hiv
          subst hA
          obtain ⟨Ai, ni, ci, l2, hu, hls, hll, hln, hone, sl⟩ := Hr.out j vs[j] (List.getElem?_eq_getElem hiv)
          rw [hu] at hcl
          have hc2 := (bcell b6).1 b (o + j) hbb
          rw [hcl] at hc2
          have sl6 := sl.on b6
          have Hll := Lib.hid hll; clear hll
          have Hls := Lib.hid (flat_take_succ hls); clear hls
          obtain ⟨i0, hi0, hz0, hz1, hz2⟩ := info_parts fmost_info
          go_wp2_with (at_builtin; refine wpList_append_sees _ rfl (.tmp 31) (.tmp 32) _ rfl w.heap.size _ i0 _ 2 32 Tryd.underlying29 hi0 hz0 hz1 hz2 rfl (by omega) _ k _ rfl o6 wr.heap.size Ai ni ci l2 rfl Hll.out sl6 hone (by unfold maxLen; omega) (by omega) hz6 (k + ni) rfl _ rfl ?_; intro A7 c7 w7 o7 g7 _)
          rw [← Hls.out] at o7
          go_roundw
          case rel => exact ⟨A7, k + ni, c7, j + 1, rfl, by go_num, by omega, by omega, o7, below_app b6 hz6 o6 g7⟩
          case measure => simp [intOf]; omega
        · obtain rfl : j = i := by omega
          rw [List.take_of_length_le (by rw [Hx.out]; exact Nat.le_refl _)] at o6
          go_wp2_with fail
          go_ret
          exact ⟨A6, k, c6, rfl, hk, o6, b6⟩

theorem concat2_pairs (g n1 c1 n2 c2 : Nat) (A1 A2 : Option Addr) (xs ys : List Value) (w : World) (hk : Blk w g 28 #[.slice A1 n1 c1, .slice A2 n2 c2]) (h1 : Sees w w.heap.size A1 xs) (h2 : Sees w w.heap.size A2 ys) (l1 : xs.length = n1 * 2) (l2 : ys.length = n2 * 2) (o1 : ∀ u ∈ xs, u.oneCell' = true) (o2 : ∀ u ∈ ys, u.oneCell' = true) (b1 : n1 ≤ 10000) (b2 : n2 ≤ 10000) :
    Calls Tryd.prog 28 #[.slice (some ⟨g, 0, none⟩) 2 2] w fun e w' => ∃ A' c', e = .returned (.slice A' (n1 + n2) c') ∧ w'.ownsRow w.heap.size 66 2 (.slice A' (n1 + n2) c') (n1 + n2) (xs ++ ys) ∧ Below w.heap.size w w' := by
  refine (concat_pairs (some ⟨g, 0, none⟩) 2 2 [.slice A1 n1 c1, .slice A2 n2 c2] [xs, ys] w (fun _ => ⟨g, 0, rfl, hk.lt, fun j u hj => ?_⟩) rfl rfl (fun i u hi => ?_) (by omega)).mono ?_
  · rw [Nat.zero_add]
    refine (hk.cell j).trans ?_
    rcases j with _ | _ | j
    · exact hj
    · exact hj
    · simp at hj
  · rcases i with _ | _ | i
    · obtain rfl : Value.slice A1 n1 c1 = u := by simpa using hi
      exact ⟨A1, n1, c1, xs, rfl, rfl, l1, b1, o1, h1⟩
    · obtain rfl : Value.slice A2 n2 c2 = u := by simpa using hi
      exact ⟨A2, n2, c2, ys, rfl, rfl, l2, b2, o2, h2⟩
    · simp at hi
  · rintro e w' ⟨A', m, c', rfl, hm, ho, hb⟩
    have hf : [xs, ys].flatten = xs ++ ys := by simp
    rw [hf] at ho
    have hl := ho.1
    rw [List.length_append] at hl
    obtain rfl : m = n1 + n2 := by omega
    exact ⟨A', c', rfl, ho, hb⟩

theorem concat2_most (g n1 c1 n2 c2 : Nat) (A1 A2 : Option Addr) (xs ys : List Value) (w : World) (hk : Blk w g 29 #[.slice A1 n1 c1, .slice A2 n2 c2]) (h1 : Sees w w.heap.size A1 xs) (h2 : Sees w w.heap.size A2 ys) (l1 : xs.length = n1 * 2) (l2 : ys.length = n2 * 2) (o1 : ∀ u ∈ xs, u.oneCell' = true) (o2 : ∀ u ∈ ys, u.oneCell' = true) (b1 : n1 ≤ 10000) (b2 : n2 ≤ 10000) :
    Calls Tryd.prog 29 #[.slice (some ⟨g, 0, none⟩) 2 2] w fun e w' => ∃ A' c', e = .returned (.slice A' (n1 + n2) c') ∧ w'.ownsRow w.heap.size 69 2 (.slice A' (n1 + n2) c') (n1 + n2) (xs ++ ys) ∧ Below w.heap.size w w' := by
  refine (concat_most (some ⟨g, 0, none⟩) 2 2 [.slice A1 n1 c1, .slice A2 n2 c2] [xs, ys] w (fun _ => ⟨g, 0, rfl, hk.lt, fun j u hj => ?_⟩) rfl rfl (fun i u hi => ?_) (by omega)).mono ?_
  · rw [Nat.zero_add]
    refine (hk.cell j).trans ?_
    rcases j with _ | _ | j
    · exact hj
    · exact hj
    · simp at hj
  · rcases i with _ | _ | i
    · obtain rfl : Value.slice A1 n1 c1 = u := by simpa using hi
      exact ⟨A1, n1, c1, xs, rfl, rfl, l1, b1, o1, h1⟩
    · obtain rfl : Value.slice A2 n2 c2 = u := by simpa using hi
      exact ⟨A2, n2, c2, ys, rfl, rfl, l2, b2, o2, h2⟩
    · simp at hi
  · rintro e w' ⟨A', m, c', rfl, hm, ho, hb⟩
    have hf : [xs, ys].flatten = xs ++ ys := by simp
    rw [hf] at ho
    have hl := ho.1
    rw [List.length_append] at hl
    obtain rfl : m = n1 + n2 := by omega
    exact ⟨A', c', rfl, ho, hb⟩

theorem cloneSet_any (A : Option Addr) (n c : Nat) (xs : List Value) (w : World) (h : Sees w w.heap.size A xs) (hn : xs.length = n * 1) (h1 : ∀ u ∈ xs, u.oneCell' = true) (hb : n ≤ 1000000) :
    Calls Tryd.prog 30 #[.slice A n c] w fun e w' => ∃ A' c', e = .returned (.slice A' n c') ∧ w'.ownsRow w.heap.size 63 1 (.slice A' n c') n xs ∧ Below w.heap.size w w' := by
  have h9 := fun w => Lib.run_eql_slice_nil (P := Tryd.prog) w 27 63 A n c 0 0 Tryd.underlying27
  obtain ⟨i0, hi0, hz0, hz1, hz2⟩ := info_parts set_info
  rcases A with _ | ad
  · go_enter Tryd.func30, Tryd.ntmps30
    go_wp2_with fail
    go_ret
    have h2 := h.none_
    subst h2
    obtain rfl : n = 0 := by simp at hn; omega
    exact ⟨none, 0, rfl, World.ownsRow_nil _ _ _ _, Below.refl _ _⟩
  · have hl0 : (w.alloc (.cells #[] 63)).ownsRow w.heap.size 63 1 (.slice (some ⟨w.heap.size, 0, none⟩) 0 0) 0 [] := World.ownsRow_lit w #[] 0 (Nat.le_refl _) (by unfold maxLen; omega) rfl
    go_enter Tryd.func30, Tryd.ntmps30
    go_wp2_with (at_builtin; refine wpList_append_sees _ rfl (.tmp 5) (.tmp 6) _ rfl w.heap.size _ i0 _ 1 24 Tryd.underlying27 hi0 hz0 hz1 hz2 rfl (by omega) _ 0 [] rfl hl0 w.heap.size (some ad) n c xs rfl (by omega) (h.alloc (Nat.le_refl _) _) h1 (by unfold maxLen; omega) (by omega) (by simp) n (by omega) _ rfl ?_; intro A' c' w' hown hg _)
    go_ret
    exact ⟨A', c', rfl, hown, below_app ((Below.refl _ _).alloc (Nat.le_refl _) _) (by simp) hl0 hg⟩

theorem cloneMost_any (A : Option Addr) (n c : Nat) (xs : List Value) (w : World) (h : Sees w w.heap.size A xs) (hn : xs.length = n * 2) (h1 : ∀ u ∈ xs, u.oneCell' = true) (hb : n ≤ 1000000) :
    Calls Tryd.prog 68 #[.slice A n c] w fun e w' => ∃ A' c', e = .returned (.slice A' n c') ∧ w'.ownsRow w.heap.size 69 2 (.slice A' n c') n xs ∧ Below w.heap.size w w' := by
  have h9 := fun w => Lib.run_eql_slice_nil (P := Tryd.prog) w 29 69 A n c 0 0 Tryd.underlying29
  obtain ⟨i0, hi0, hz0, hz1, hz2⟩ := info_parts fmost_info
  rcases A with _ | ad
  · go_enter Tryd.func68, Tryd.ntmps68
    go_wp2_with fail
    go_ret
    have h2 := h.none_
    subst h2
    obtain rfl : n = 0 := by simp at hn; omega
    exact ⟨none, 0, rfl, World.ownsRow_nil _ _ _ _, Below.refl _ _⟩
  · have hl0 : (w.alloc (.cells #[] 69)).ownsRow w.heap.size 69 2 (.slice (some ⟨w.heap.size, 0, none⟩) 0 0) 0 [] := World.ownsRow_lit w #[] 0 (Nat.le_refl _) (by unfold maxLen; omega) rfl
    go_enter Tryd.func68, Tryd.ntmps68
    go_wp2_with (at_builtin; refine wpList_append_sees _ rfl (.tmp 5) (.tmp 6) _ rfl w.heap.size _ i0 _ 2 32 Tryd.underlying29 hi0 hz0 hz1 hz2 rfl (by omega) _ 0 [] rfl hl0 w.heap.size (some ad) n c xs rfl (by omega) (h.alloc (Nat.le_refl _) _) h1 (by unfold maxLen; omega) (by omega) (by simp) n (by omega) _ rfl ?_; intro A' c' w' hown hg _)
    go_ret
    exact ⟨A', c', rfl, hown, below_app ((Below.refl _ _).alloc (Nat.le_refl _) _) (by simp) hl0 hg⟩
end Go.Proofs.YtfnhaoindehjdaaDoor
