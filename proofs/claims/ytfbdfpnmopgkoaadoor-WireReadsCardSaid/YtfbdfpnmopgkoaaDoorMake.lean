/- make of bytes and of words; max of two ints. -/
import Derived.Test.YtfbdfpnmopgkoaaDoorWords
import Derived.Laws.CopyOwn
import Derived.OwnWalk
namespace Go.Proofs.YtfbdfpnmopgkoaaDoor
open Go.RowKit
set_option linter.unusedVariables false
set_option linter.unusedSimpArgs false

/-- max of two ints, its value named by the caller. -/
theorem wpL_max2 {P : Program} (w : World) {ops : Array Oper} {rest : List Oper} {o : Oper} {a : Act} {Q : Exit → Act → World → Prop} (hgd : o.guard = none) (x y : Operand) (ts : Array TypeId)
    (ho : o.op = .call { callee := .builtin .max, args := #[x, y], argTypes := ts }) (p q : Int) (hx : a.eval x = .int .i64 p) (hy : a.eval y = .int .i64 q) (n : Int) (hn : n = max p q)
    (h : wpList P ops Q rest (a.put o.dst (.int .i64 n)) w) : wpList P ops Q (o :: rest) a w := by
  refine wpList_plain hgd fun _ hK => ?_
  have hr : (Builtin.max_ ts o.type #[.int .i64 p, .int .i64 q]).run P w = .ok (.int .i64 n) w := by
    rw [run_max_int2, hn]
    congr 2
    by_cases h : q > p
    · rw [if_pos h]; omega
    · rw [if_neg h]; omega
  unfold Oper.wp execOp
  simp only [ho, resolve, invoke, builtin, Sem.run_bind, Sem.run_pure, Result.andThen_ok, List.map_toArray, List.map_cons, List.map_nil, hx, hy, hr]
  exact hK _ _ h

/-- make of n one-cell elements: a block just laid. -/
theorem wpL_make1 {P : Program} (w : World) {ops : Array Oper} {rest : List Oper} {o : Oper} {a : Act} {Q : Exit → Act → World → Prop}
    (hg : o.guard = none) (l c : Operand) (t : TypeId) (hop : o.op = Op.makeSlice t l c)
    (e : TypeId) (i : TypeInfo) (z : Value) (h1 : P.underlying t = some (.slice e)) (h2 : P.info? e = some i) (h3 : i.zero = some z) (h4 : i.size = 1) (h5 : i.bytes ≤ 8) (h6 : z.cells = #[z])
    (kl kc : IntKind) (L C : Int) (n : Nat) (hl : a.eval l = .int kl L) (hc : a.eval c = .int kc C) (hL : L = (n : Int)) (hC : C = (n : Int)) (b : n ≤ 1000000000)
    (hK : ∀ w', Hid (Blk w' w.heap.size e (List.replicate n z).toArray) → Below w.heap.size w w' → Hid (w'.heap.size = w.heap.size + 1) → wpList P ops Q rest (a.put o.dst (.slice (some ⟨w.heap.size, 0, none⟩) n n)) w') :
    wpList P ops Q (o :: rest) a w := by
  refine wpList_plain hg fun K hK' => ?_
  have hb : (i.bytes : Int) * (n : Int) ≤ 281474976710656 := by
    have h : i.bytes * n ≤ 8 * 1000000000 := Nat.mul_le_mul h5 b
    have h' : ((i.bytes * n : Nat) : Int) ≤ 281474976710656 := by omega
    rwa [Int.natCast_mul] at h'
  have hrun := run_make (P := P) w t e i z h1 h2 h3 kl kc n n (by omega) (Int.le_refl _) hb (by omega)
  subst hL
  subst hC
  unfold Oper.wp
  simp only [Int.toNat_natCast] at hrun
  simp [execOp, hop, hl, hc, hrun, Result.andThen]
  refine hK' _ _ (hK _ ?_ ((Below.refl _ _).alloc (Nat.le_refl _) _) (by show _ = _; simp))
  show _ = _
  rw [heap_alloc_new, h4, Nat.mul_one, h6]
  congr 2
  exact Array.toList_inj.1 (by rw [toList_madeCells_one])

theorem u64_info : (Tryd.prog.info? 38).map (fun i => (i.zero, i.size, i.bytes)) = some (some (.int .u64 0), 1, 8) := by kernel_rfl
/-- make([]uint64, n). -/
theorem wpL_mkW (w : World) {ops : Array Oper} {rest : List Oper} {o : Oper} {a : Act} {Q : Exit → Act → World → Prop}
    (hg : o.guard = none) (l c : Operand) (hop : o.op = Op.makeSlice 46 l c) (L C : Int) (n : Nat) (hl : a.eval l = .int .i64 L) (hc : a.eval c = .int .i64 C) (hL : L = (n : Int)) (hC : C = (n : Int)) (b : n ≤ 1000000000)
    (hK : ∀ w', Hid (Blk w' w.heap.size 38 ((List.replicate n 0).map wv).toArray) → Below w.heap.size w w' → Hid (w'.heap.size = w.heap.size + 1) → wpList Tryd.prog ops Q rest (a.put o.dst (.slice (some ⟨w.heap.size, 0, none⟩) n n)) w') :
    wpList Tryd.prog ops Q (o :: rest) a w := by
  obtain ⟨i0, hi0, hz0, hz1, hz2⟩ := info_parts u64_info
  refine wpL_make1 w hg l c _ hop _ i0 _ Tryd.underlying46 hi0 hz0 hz1 (by omega) rfl .i64 .i64 L C n hl hc hL hC b fun w' h1 h2 h3 => hK w' ?_ h2 h3
  rw [List.map_replicate]; exact h1
/-- make([]byte, n). -/
theorem wpL_mkB (w : World) {ops : Array Oper} {rest : List Oper} {o : Oper} {a : Act} {Q : Exit → Act → World → Prop}
    (hg : o.guard = none) (l c : Operand) (hop : o.op = Op.makeSlice 22 l c) (L C : Int) (n : Nat) (hl : a.eval l = .int .i64 L) (hc : a.eval c = .int .i64 C) (hL : L = (n : Int)) (hC : C = (n : Int)) (b : n ≤ 1000000000)
    (hK : ∀ w', Hid (Blk w' w.heap.size 5 ((List.replicate n 0).map bv).toArray) → Below w.heap.size w w' → Hid (w'.heap.size = w.heap.size + 1) → wpList Tryd.prog ops Q rest (a.put o.dst (.slice (some ⟨w.heap.size, 0, none⟩) n n)) w') :
    wpList Tryd.prog ops Q (o :: rest) a w := by
  obtain ⟨i0, hi0, hz0, hz1, hz2⟩ := info_parts u8_info
  refine wpL_make1 w hg l c _ hop _ i0 _ Tryd.underlying22 hi0 hz0 hz1 (by omega) rfl .i64 .i64 L C n hl hc hL hC b fun w' h1 h2 h3 => hK w' ?_ h2 h3
  rw [List.map_replicate]; exact h1

/-- A block of words reads so. -/
theorem Blk.sees {w : World} {g : Nat} {t : TypeId} {xs : List Value} (h : Blk w g t xs.toArray) : Sees w w.heap.size (some ⟨g, 0, none⟩) xs := fun _ =>
  ⟨g, 0, rfl, h.lt, fun j v hj => by
    rw [Nat.zero_add, h.cell]
    simpa using hj⟩
theorem Blk.wset {w : World} {g : Nat} {t : TypeId} {l : List Nat} (h : Blk w g t (l.map wv).toArray) (k x : Nat) : Blk (w.setCell ⟨g, k, none⟩ (.int .u64 (x : Int))) g t ((l.set k x).map wv).toArray := by
  have := h.put k (.int .u64 (x : Int))
  rw [List.map_set]
  simpa [wv] using this
theorem Blk.bset {w : World} {g : Nat} {t : TypeId} {l : List UInt8} (h : Blk w g t (l.map bv).toArray) (k : Nat) (x : UInt8) : Blk (w.setCell ⟨g, k, none⟩ (.int .u8 (x.toNat : Int))) g t ((l.set k x).map bv).toArray := by
  have := h.put k (.int .u8 (x.toNat : Int))
  rw [List.map_set]
  simpa [bv] using this
theorem Blk.wcell {w : World} {g : Nat} {t : TypeId} {l : List Nat} {k x : Nat} (h : Blk w g t (l.map wv).toArray) (hk : l[k]? = some x) : w.cell? ⟨g, k, none⟩ = some (.int .u64 (x : Int)) := by
  rw [h.cell]; simp [hk, wv]
/-- copy of words into words just made. -/
theorem wpL_copyW (w : World) {ops : Array Oper} {rest : List Oper} {o : Oper} {a : Act} {Q : Exit → Act → World → Prop} (hgd : o.guard = none) (d s : Operand)
    (ho : o.op = .call { callee := .builtin .copy, args := #[d, s], argTypes := #[46, 46] }) (g n' c' n c : Nat) (A : Option Addr) (l : List Nat)
    (hd : a.eval d = .slice (some ⟨g, 0, none⟩) n' c') (hs : a.eval s = .slice A n c) (hl : l.length = n) (hn : n ≤ n')
    (hG : Blk w g 38 ((List.replicate n' 0).map wv).toArray) (B' : Nat) (hS : Sees w B' A (l.map wv)) (B : Nat) (w0 : World) (hb : Below B w0 w) (hBg : B ≤ g)
    (h : ∀ w', Hid (Blk w' g 38 ((l ++ List.replicate (n' - n) 0).map wv).toArray) → Below B w0 w' → wpList Tryd.prog ops Q rest (a.put o.dst (goInt n)) w') :
    wpList Tryd.prog ops Q (o :: rest) a w := by
  have hlm : (l.map wv).length = n := by rw [List.length_map, hl]
  refine wpList_copy_splice hgd d s _ _ ho _ Tryd.underlying46 (by kernel_rfl) _ _ _ _ _ _ hd hs g 0 ((List.replicate n' 0).map wv) _ hG (l.map wv) ?_ ?_ ?_ (oneCell_wv _) B w0 hb hBg ?_
  · rw [hlm]; exact (Nat.min_eq_left hn).symm
  · intro hpos
    obtain ⟨b, o, hA, hb, hcs⟩ := hS (by intro e; rw [e] at hpos; exact absurd hpos (Nat.lt_irrefl 0))
    exact ⟨rfl, ⟨b, o, none⟩, hA, fun j v hj => by
      have := hcs j v hj
      by_cases e : j = 0
      · subst e; simpa [Addr.add] using this
      · simpa [Addr.add, e] using this⟩
  · rw [hlm, List.length_map, List.length_replicate]; omega
  · intro w' G b
    rw [hlm]
    refine h w' ?_ b
    have G := Hid.out G
    refine (show Blk _ _ _ _ from ?_)
    have e : splice ((List.replicate n' 0).map wv) 0 (l.map wv) = (l ++ List.replicate (n' - n) 0).map wv := by
      unfold splice
      rw [hlm, List.map_append]
      simp
    rw [← e]
    exact G
end Go.Proofs.YtfbdfpnmopgkoaaDoor
