/- append(p, make([]byte, m)...) onto bytes of the call's own: gc's append of a number of zeros. -/
import Derived.Test.YtppkimlalceleaaMem
import Derived.Lib.AppendZerosOnto
namespace Go.Proofs.Ytppkimlalceleaa
open Go.RowKit
set_option linter.unusedVariables false
set_option linter.unusedSimpArgs false

theorem toList_zeros (m : Nat) : (Builtin.zeroCells #[Value.int .u8 0] m).toList = (List.replicate m (0 : UInt8)).map bv := by
  simp [Builtin.zeroCells, bv]
  apply List.ext_getElem
  · simp
  · intro i h1 h2
    simp [Nat.mod_one]

theorem run_append_zeros (w : World) (base : Nat) (ty : TypeId) (v : Value) (n : Nat) (l : List UInt8) (hown : OwnB w base v n l) (m : Nat) (h0 : 0 < m) (hb : n + m ≤ 100000000) (hbase : base ≤ w.heap.size) :
    ∃ v' w', (Builtin.append_ #[22, 3] ty #[v, .int .i64 (m : Int)]).run Try.prog w = .ok v' w' ∧ OwnB w' base v' (n + m) (l ++ List.replicate m 0) ∧ w.grownBy w' v.ownBlock := by
  obtain ⟨i0, hi0, hz0, hz1, hz2⟩ := info_parts u8_info
  have hlen := hown.len
  have grown : ∀ (old : Nat), old < n + m → ∀ (row : Option Nat) (ol : Array Value), ol = (l.map bv).toArray →
      OwnB (w.drew.alloc (.cells (ol ++ Builtin.zeroCells #[Value.int .u8 0] m ++ Builtin.zeroCells #[Value.int .u8 0] (grownCap w (n + m) old 5 - (n + m))) 5)) base
        (.slice (some ⟨w.heap.size, 0, none⟩) (n + m) (grownCap w (n + m) old 5)) (n + m) (l ++ List.replicate m 0) ∧
      w.grownBy (w.drew.alloc (.cells (ol ++ Builtin.zeroCells #[Value.int .u8 0] m ++ Builtin.zeroCells #[Value.int .u8 0] (grownCap w (n + m) old 5 - (n + m))) 5)) row := by
    intro old ho row ol hol
    subst hol
    have hge := grownCap_ge w (n + m) old 5
    have hcm : grownCap w (n + m) old 5 ≤ maxLen := grownCap_le_maxLen w (n + m) old 5 (by unfold maxLen; omega)
    refine ⟨⟨by simp [hlen], .inr ⟨w.heap.size, _, _, rfl, hbase, heap_alloc_new w.drew _, hge, hcm, ?_, ?_⟩⟩, ⟨rfl, rfl, rfl, by simp, fun k hk _ => Below.heap_alloc w.drew _ k hk⟩⟩
    · simp [size_zeroCells, hlen]; omega
    · simp only [Array.toList_append, toList_zeros, List.map_append]
      rw [List.take_left']
      simp [hlen]
  rcases hown.2 with ⟨rfl, rfl⟩ | ⟨g, cap, cur, rfl, hbg, hg, hnc, hcm, hcs, htake⟩
  · have hl : l = [] := List.eq_nil_of_length_eq_zero hlen
    subst hl
    have hr := Lib.run_append_grow_zeros (P := Try.prog) w 22 3 ty 5 i0 _ .i64 .i64 Try.underlying22 Try.underlying3 hi0 hz0 none 0 0 [] (run_firstCells_none w.drew _ _ _ _) m h0 (by omega) (by omega) (by omega) (by rw [hz2]; omega)
      (growslice_fits (by omega) (by rw [hz2]; omega))
    have hgr := grown 0 (by omega) (Value.ownBlock (.slice none 0 0)) #[] rfl
    exact ⟨_, _, hr, hgr.1, hgr.2⟩
  · by_cases hroom : n + m ≤ cap
    · have hst := run_storeCells_at Try.prog g n 5 (Builtin.zeroCells #[Value.int .u8 0] m).toList 0 cur w hg (by rw [toList_zeros]; simp; omega) (by
        intro u hu
        rw [toList_zeros] at hu
        exact oneCell_bv _ u hu)
      have hlz : (Builtin.zeroCells #[Value.int .u8 0] m).toList.length = m := by rw [toList_zeros]; simp
      obtain ⟨R, hR⟩ : ∃ R, (cur.toList.take n ++ (Builtin.zeroCells #[Value.int .u8 0] m).toList ++ cur.toList.drop (n + (Builtin.zeroCells #[Value.int .u8 0] m).toList.length)).toArray = R := ⟨_, rfl⟩
      refine ⟨.slice (some ⟨g, 0, none⟩) (n + m) cap, w.setRow g R, ?_, ⟨by simp [hlen], .inr ⟨g, cap, R, rfl, hbg, setRow_heap w g cur R 5 _ hg, hroom, hcm, ?_, ?_⟩⟩, ⟨rfl, rfl, rfl, by simp, fun k _ hk => setRow_other w g k R (fun e => hk (by simp [Value.ownBlock, e]))⟩⟩
      · have hw : IntKind.i64.wrap (m : Int) = m := by rw [IntKind.wrap_i64]; omega
        have hneg : ¬ ((m : Int) < 0) := by omega
        have hm : m ≠ 0 := by omega
        simp only [Nat.add_zero] at hst
        rw [hR] at hst
        simp [Builtin.append_, run_underlying Try.underlying22, run_underlying Try.underlying3, sizeOf, typeInfo, zeroValue, hi0, hz0, hz1, hz2, asInt, asIntOf, hw, hneg, hroom, hm, show ¬ ((281474976710656 : Int) < (m : Int)) by omega, Addr.add_lit]
        rw [show (Value.int IntKind.u8 0).cells = #[Value.int IntKind.u8 0] from rfl, hst]
        rfl
      · rw [← hR]; simp [hlz]; omega
      · rw [← hR, hlz, toList_zeros]
        simp only [List.map_append, Nat.mul_one] at htake ⊢
        rw [htake, List.take_left']
        simp [hlen]
    · have hcells : ∀ j u, (l.map bv)[j]? = some u → w.drew.cell? ((⟨g, 0, none⟩ : Addr).add j) = some u := World.ownsRow.cells hown (g := g) rfl
      have hr := Lib.run_append_grow_zeros (P := Try.prog) w 22 3 ty 5 i0 _ .i64 .i64 Try.underlying22 Try.underlying3 hi0 hz0 (some ⟨g, 0, none⟩) n cap (l.map bv) (by rw [hz1]; exact run_firstCells_some w.drew 1 n ⟨g, 0, none⟩ n cap (l.map bv) (by simp [hlen]) hcells) m h0 (by omega) (by omega) (by omega) (by rw [hz2]; omega)
        (growslice_fits (by omega) (by rw [hz2]; omega))
      have hgr := grown cap (by omega) (Value.ownBlock (.slice (some ⟨g, 0, none⟩) n cap)) _ rfl
      exact ⟨_, _, hr, hgr.1, hgr.2⟩

theorem wpL_appZ (w : World) {ops : Array Oper} {rest : List Oper} {o : Oper} {a : Act} {Q : Exit → Act → World → Prop} (hgd : o.guard = none) (s x : Operand)
    (ho : o.op = .call { callee := .builtin .append, args := #[s, x], argTypes := #[22, 3] })
    (base : Nat) (v : Value) (n : Nat) (l : List UInt8) (hs : a.eval s = v) (hown : OwnB w base v n l) (z : Int) (m : Nat) (hx : a.eval x = .int .i64 z) (hz : z = (m : Int)) (h0 : 0 < m) (hb : n + m ≤ 100000000) (hbase : base ≤ w.heap.size) (n' : Nat) (hn' : n + m = n')
    (h : ∀ A' c' w', OwnB w' base (.slice A' n' c') n' (l ++ List.replicate m 0) → w.grownBy w' v.ownBlock → wpList Try.prog ops Q rest (a.put o.dst (.slice A' n' c')) w') : wpList Try.prog ops Q (o :: rest) a w := by
  subst hz hn'
  obtain ⟨v', w', hr, h1, h2⟩ := run_append_zeros w base o.type v n l hown m h0 hb hbase
  obtain ⟨A', c', rfl, _⟩ := own_form h1
  exact Lib.wpList_append_run w hgd s x _ _ ho _ _ hs hx _ _ hr (h A' c' w' h1 h2)
end Go.Proofs.Ytppkimlalceleaa
