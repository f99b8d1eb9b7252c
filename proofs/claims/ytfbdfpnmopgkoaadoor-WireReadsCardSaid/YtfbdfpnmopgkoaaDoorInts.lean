/- Words for slices of int: what is owned, an element read, an append of one number. -/
import Derived.Test.YtfbdfpnmopgkoaaDoorMem
namespace Go.Proofs.YtfbdfpnmopgkoaaDoor
open Go.RowKit
set_option linter.unusedVariables false
set_option linter.unusedSimpArgs false

/-- An int as a value. -/
def iv (z : Int) : Value := .int .i64 z
theorem iv_inj {a b : Int} (h : iv a = iv b) : a = b := by unfold iv at h; injection h
theorem oneCell_iv (l : List Int) : ∀ u ∈ l.map iv, u.oneCell' = true := by
  intro u hu
  obtain ⟨_, _, rfl⟩ := List.mem_map.1 hu
  rfl
theorem int_info : (Tryd.prog.info? 3).map (fun i => (i.zero, i.size, i.bytes)) = some (some (.int .i64 0), 1, 8) := by kernel_rfl
/-- Number k. -/
theorem Sees.int {w : World} {B : Nat} {A : Option Addr} {l : List Int} {k : Nat} (h : Sees w B A (l.map iv)) (hk : k < l.length) :
    ∃ b o z, A = some ⟨b, o, none⟩ ∧ b < B ∧ Hid (l[k]? = some z) ∧ w.cell? ⟨b, o + k, none⟩ = some (.int .i64 z) := by
  obtain ⟨b, o, e, hb, hc⟩ := h.at_ (k := k) (by simpa using hk)
  exact ⟨b, o, l[k], e, hb, Lib.hid (List.getElem?_eq_getElem hk), by rw [hc, List.getElem_map]; rfl⟩

/-- v is a slice of the call's own that holds the numbers l. -/
def OwnI (w : World) (base : Nat) (v : Value) (n : Nat) (l : List Int) : Prop := w.ownsRow base 3 1 v n (l.map iv)
theorem OwnI.len {w : World} {base n : Nat} {v : Value} {l : List Int} (h : OwnI w base v n l) : l.length = n := by have := h.1; simpa using this
theorem OwnI.sees {w : World} {base n c : Nat} {A : Option Addr} {l : List Int} (h : OwnI w base (.slice A n c) n l) : Sees w w.heap.size A (l.map iv) := Sees.own h (by omega)
theorem OwnI.nil (w : World) (base : Nat) : OwnI w base (.slice none 0 0) 0 [] := World.ownsRow_nil _ _ _ _
theorem OwnI.kept {w w' : World} {base n : Nat} {v : Value} {l : List Int} {row : Option Nat} (h : OwnI w base v n l) (hg : w.grownBy w' row) (hne : v.ownBlock = none ∨ v.ownBlock ≠ row) : OwnI w' base v n l := World.ownsRow.kept h hg hne
theorem OwnI.on {w w' : World} {base n : Nat} {v : Value} {l : List Int} (h : OwnI w base v n l) (hb : Below w.heap.size w w') : OwnI w' base v n l :=
  World.ownsRow.kept (row := none) h ⟨hb.os, hb.tape, hb.output, hb.size, fun k hk _ => hb.block k hk⟩ (by cases v.ownBlock <;> simp)
theorem OwnI.alloc {w : World} {base n : Nat} {v : Value} {l : List Int} (h : OwnI w base v n l) (o : Obj) : OwnI (w.alloc o) base v n l := World.ownsRow.alloc h o
theorem OwnI.room {w : World} {base n c : Nat} {A : Option Addr} {l : List Int} (h : OwnI w base (.slice A n c) n l) : n ≤ c := by
  obtain ⟨A', c', e, h1, _⟩ := own_form h
  injection e with _ _ e
  omega
theorem OwnI.more {w : World} {base base' n : Nat} {v : Value} {l : List Int} (h : OwnI w base v n l) (hb : base' ≤ base) : OwnI w base' v n l := by
  refine ⟨h.1, ?_⟩
  rcases h.2 with h | ⟨g, cap, cur, h1, h2, h3⟩
  · exact .inl h
  · exact .inr ⟨g, cap, cur, h1, by omega, h3⟩
/-- A literal of numbers, just made. -/
theorem OwnI.lit (w : World) (cs : Array Value) (n : Nat) (l : List Int) (hm : n ≤ maxLen) (hl : l.length = n) (hc : cs.toList = l.map iv) (g : Nat) (hg : g = w.heap.size) :
    OwnI (w.alloc (.cells cs 3)) w.heap.size (.slice (some ⟨g, 0, none⟩) n n) n l := by
  subst hg
  have h := World.ownsRow_lit (base := w.heap.size) (e := 3) (size := 1) w cs n (Nat.le_refl _) hm (by rw [← Array.length_toList, hc]; simp [hl])
  rw [hc] at h
  exact h

/-- append of numbers onto numbers of the call's own. -/
theorem wpL_appI (w : World) {ops : Array Oper} {rest : List Oper} {o : Oper} {a : Act} {Q : Exit → Act → World → Prop} (hgd : o.guard = none) (s x : Operand)
    (ho : o.op = .call { callee := .builtin .append, args := #[s, x], argTypes := #[64, 64] })
    (base : Nat) (v : Value) (n : Nat) (l : List Int) (hs : a.eval s = v) (hown : OwnI w base v n l)
    (B : Nat) (A : Option Addr) (m c : Nat) (l2 : List Int) (hx : a.eval x = .slice A m c) (hl : l2.length = m) (hr : Sees w B A (l2.map iv))
    (hbytes : n + m ≤ 1000000000000) (hbase : base ≤ w.heap.size) (n' : Nat) (hn' : n + m = n') (l' : List Int) (hl' : l ++ l2 = l')
    (h : ∀ A' c' w', OwnI w' base (.slice A' n' c') n' l' → w.grownBy w' v.ownBlock → ((Value.slice A' n' c').ownBlock = v.ownBlock ∨ (Value.slice A' n' c').ownBlock = some w.heap.size) →
      wpList Tryd.prog ops Q rest (a.put o.dst (.slice A' n' c')) w') : wpList Tryd.prog ops Q (o :: rest) a w := by
  obtain ⟨i0, hi0, hz0, hz1, hz2⟩ := info_parts int_info
  exact wpList_append_sees w hgd s x _ ho base _ i0 _ 1 8 Tryd.underlying64 hi0 hz0 hz1 hz2 rfl (by omega) v n _ hs hown B A m c _ hx (by simpa using hl) hr (oneCell_iv l2)
    (by unfold maxLen; omega) (by omega) hbase n' hn' _ (by rw [← hl', List.map_append]) h
/-- append of one number, which lies in a block just made. -/
theorem wpL_appI1 (w : World) {ops : Array Oper} {rest : List Oper} {o : Oper} {a : Act} {Q : Exit → Act → World → Prop} (hgd : o.guard = none) (s x : Operand)
    (ho : o.op = .call { callee := .builtin .append, args := #[s, x], argTypes := #[64, 64] })
    (w0 : World) (base : Nat) (v : Value) (n : Nat) (l : List Int) (hs : a.eval s = v) (hown : OwnI w0 base v n l) (z : Int) (hw : w = w0.alloc (.cells #[.int .i64 z] 3)) (g : Nat) (hg : g = w0.heap.size)
    (hx : a.eval x = .slice (some ⟨g, 0, none⟩) 1 1) (hbytes : n + 1 ≤ 1000000000) (hbase : base ≤ w0.heap.size) (n' : Nat) (hn' : n + 1 = n')
    (h : ∀ A' c' w', OwnI w' base (.slice A' n' c') n' (l ++ [z]) → w0.grownBy w' v.ownBlock → Below base w0 w' →
      wpList Tryd.prog ops Q rest (a.put o.dst (.slice A' n' c')) w') : wpList Tryd.prog ops Q (o :: rest) a w := by
  subst hw
  have hz : base ≤ (w0.alloc (.cells #[.int .i64 z] 3)).heap.size := by simp; omega
  refine wpL_appI _ hgd s x ho base v n l hs (hown.alloc _) _ _ 1 1 [z] hx rfl (Sees.one w0 _ 3 g hg) (by omega) hz n' hn' _ rfl ?_
  intro A' c' w' h1 h2 h3
  exact h A' c' w' h1 ⟨h2.os, h2.tape, h2.output, Nat.le_trans (by simp) h2.size, fun k hk hne => (h2.block k (by simp; omega) hne).trans (Below.heap_alloc w0 _ k hk)⟩ (below_app ((Below.refl _ _).alloc hbase _) hz (hown.alloc _) h2)

/-- min of two ints, its value named by the caller. -/
theorem wpL_min2 {P : Program} (w : World) {ops : Array Oper} {rest : List Oper} {o : Oper} {a : Act} {Q : Exit → Act → World → Prop} (hgd : o.guard = none) (x y : Operand) (ts : Array TypeId)
    (ho : o.op = .call { callee := .builtin .min, args := #[x, y], argTypes := ts }) (p q : Int) (hx : a.eval x = .int .i64 p) (hy : a.eval y = .int .i64 q) (n : Int) (hn : n = min p q)
    (h : wpList P ops Q rest (a.put o.dst (.int .i64 n)) w) : wpList P ops Q (o :: rest) a w := by
  refine wpList_plain hgd fun _ hK => ?_
  have hr : (Builtin.min_ ts o.type #[.int .i64 p, .int .i64 q]).run P w = .ok (.int .i64 n) w := by
    rw [run_min_int2, hn]
    congr 2
    by_cases h : q < p
    · rw [if_pos h]; omega
    · rw [if_neg h]; omega
  unfold Oper.wp execOp
  simp only [ho, resolve, invoke, builtin, Sem.run_bind, Sem.run_pure, Result.andThen_ok, List.map_toArray, List.map_cons, List.map_nil, hx, hy, hr]
  exact hK _ _ h
end Go.Proofs.YtfbdfpnmopgkoaaDoor
