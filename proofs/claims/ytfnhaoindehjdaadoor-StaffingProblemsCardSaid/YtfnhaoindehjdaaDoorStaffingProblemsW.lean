/- The walk of StaffingProblems. (gensprob.py) -/
import Derived.Test.YtfnhaoindehjdaaDoorMade
import Derived.Test.YtfnhaoindehjdaaDoorArg3
import Derived.Test.YtfnhaoindehjdaaDoorCat
import Derived.Test.YtfnhaoindehjdaaDoorTri
import Derived.Test.YtfnhaoindehjdaaDoorSPr
import Derived.Test.YtfnhaoindehjdaaDoorStr
import Derived.Test.YtfnhaoindehjdaaDoorSame
import Derived.Test.YtfnhaoindehjdaaDoorBitsBW
import Derived.Test.YtfnhaoindehjdaaDoorAwS
import Derived.Test.YtfnhaoindehjdaaDoorSc
import Derived.Test.YtfnhaoindehjdaaDoorSe
import Derived.Test.YtfnhaoindehjdaaDoorSf
import Derived.Test.YtfnhaoindehjdaaDoorPf
import Derived.Test.YtfnhaoindehjdaaDoorPk
import Derived.Test.YtfnhaoindehjdaaDoorPl
import Derived.Test.YtfnhaoindehjdaaDoorPd
import Derived.Deep.CutBlock
import Derived.Deep.RegionLaw
namespace Go.Proofs.YtfnhaoindehjdaaDoor.staffingProblems
open Go.RowKit
set_option linter.unusedVariables false
set_option linter.unusedSimpArgs false

theorem fstep_info : (Tryd.prog.info? 85).map (fun i => (i.zero, i.size, i.bytes)) = some (some (.agg #[.string { data := #[] }, .int .i64 0]), 2, 24) := by kernel_rfl
/-- The problem, spoilt. -/
def oddQ (P : Pr) (m : Nat) : Pr := if m = 1 then ⟨P.elig.set 0 ((P.elig[0]?.getD 0) ||| 1 <<< 257), P.dif, P.sam, P.mst, P.fix⟩ else if m = 2 then ⟨P.elig, P.dif, P.sam, P.mst, P.fix.set 0 (-1)⟩ else P
/-- The eligible sets, more or fewer. -/
def elL (l : List Nat) (m : Nat) : List Nat := if m = 1 then l.take (l.length - 1) else if m = 2 then l ++ [2] else l
/-- The fixed users, more or fewer; the problem that is wanted then. -/
def fxL (l : List Int) (m : Nat) : List Int := if m = 1 then l ++ [0] else if m = 2 then [] else if m = 3 ∧ 1 < l.length then l.take (l.length - 1) else l
def fxP (P : Pr) (m : Nat) : Pr := if m = 2 then ⟨P.elig, P.dif, P.sam, P.mst, List.replicate P.elig.length 0⟩ else P
theorem spr_plain {P2 P3 : Pr} {m1 m2 j : Nat} {eL : List Nat} {fL : List Int} (hj : P2.elig.length = j) (hf : P2.fix.length = j) (h1 : 1 ≤ j) (hfL : fL = fxL P2.fix m2) (heL : eL = elL P2.elig m1) (hP3 : P3 = fxP P2 m2) :
    eL.length = j → (fL.length = j ∨ fL.length = 0) → eL = P2.elig ∧ True ∧ sprP ⟨eL, P3.dif, P3.sam, P3.mst, fL⟩ j = P3 := by
  intro hE hF
  have e1 : eL = P2.elig := by
    subst heL
    unfold elL at hE ⊢
    split at hE
    · rw [List.length_take] at hE; omega
    · rename_i q1
      rw [if_neg q1]
      split at hE
      · rw [List.length_append] at hE; simp at hE; omega
      · rename_i q2
        rw [if_neg q2]
  refine ⟨e1, trivial, ?_⟩
  subst e1 hP3
  unfold fxL at hfL
  by_cases q1 : m2 = 1
  · rw [if_pos q1] at hfL
    subst hfL
    rw [List.length_append] at hF
    simp at hF
    omega
  · rw [if_neg q1] at hfL
    by_cases q2 : m2 = 2
    · rw [if_pos q2] at hfL
      subst hfL
      subst q2
      simp [sprP, fxP, hj]
    · rw [if_neg q2] at hfL
      have hx : fxP P2 m2 = P2 := if_neg q2
      by_cases q3 : m2 = 3 ∧ 1 < P2.fix.length
      · rw [if_pos q3] at hfL
        subst hfL
        rw [List.length_take] at hF
        omega
      · rw [if_neg q3] at hfL
        subst hfL
        rw [hx]
        exact if_neg (by rw [hf]; omega)
structure ElS (W : World) (C : Option Addr) (n : Nat) (ys : List Value) (eL : List Nat) : Prop where
  own : ∃ (base n' c' : Nat) (zs : List Value), W.ownsRow base 63 1 (.slice C n' c') n' zs ∧ ys = zs.take n
  len : ys.length = n
  x : ys.length = eL.length
  s : ∀ (i M : Nat), eL[i]? = some M → ∃ X, ys[i]? = some X ∧ SetAt W W.heap.size (.agg #[X]) M
  one : ∀ u ∈ ys, u.oneCell' = true
  b : n ≤ 1000
theorem ElS.sees {W : World} {C : Option Addr} {n : Nat} {ys : List Value} {eL : List Nat} (h : ElS W C n ys eL) : Sees W W.heap.size C ys := by
  obtain ⟨base, n', c', zs, o, rfl⟩ := h.own
  exact (Sees.own o (by omega)).take_ _
theorem ElS.on {W W' : World} {C : Option Addr} {n : Nat} {ys : List Value} {eL : List Nat} (h : ElS W C n ys eL) (hb : Below W.heap.size W W') : ElS W' C n ys eL :=
  ⟨by obtain ⟨base, n', c', zs, o, e⟩ := h.own; exact ⟨base, n', c', zs, own_on o hb, e⟩, h.len, h.x, fun i M hi => by obtain ⟨X, a, b⟩ := h.s i M hi; exact ⟨X, a, b.on hb⟩, h.one, h.b⟩
theorem ElS.grown {W W' : World} {C : Option Addr} {n : Nat} {ys : List Value} {eL : List Nat} {base n8 : Nat} {v : Value} {l : List Int} (h : ElS W C n ys eL) (o8 : OwnI W base v n8 l) (hg : W.grownBy W' v.ownBlock) : ElS W' C n ys eL := by
  have hrow : ∀ g', v.ownBlock = some g' → ∃ c e f, W.heap[g']? = some (.cells c e f) ∧ e ≠ 112 := fun g' hv => by
    obtain ⟨c, f, k⟩ := Lib.ownsRow_kind o8 g' hv
    exact ⟨c, _, f, k, by decide⟩
  refine ⟨?_, h.len, h.x, fun i M hi => ?_, h.one, h.b⟩
  · obtain ⟨base, n', c', zs, o, e⟩ := h.own
    exact ⟨base, n', c', zs, World.ownsRow.kept o hg (own_apart o o8 (by decide)), e⟩
  · obtain ⟨X, a, b⟩ := h.s i M hi
    exact ⟨X, a, (b.grownR hg (Nat.le_refl _) hrow).more hg.size⟩
theorem ElS.putP {W : World} {C : Option Addr} {n g i : Nat} {ys : List Value} {eL : List Nat} {cs : Array Value} {u : Value} (h : ElS W C n ys eL) (hb : Blk W g 32 cs) : ElS (W.setCell ⟨g, i, none⟩ u) C n ys eL :=
  ⟨by obtain ⟨base, n', c', zs, o, e⟩ := h.own; exact ⟨base, n', c', zs, ownsRow_setCell_other o (a := ⟨g, i, none⟩) (own_off o hb (by decide)) _, e⟩, h.len, h.x, fun j M hj => by obtain ⟨X, a, b⟩ := h.s j M hj; exact ⟨X, a, by rw [setCell_size]; exact b.far hb (by decide)⟩, h.one, h.b⟩
theorem ownQ_fix {W : World} {base n c : Nat} {A : Option Addr} {s1 s2 s3 s4 s5 : Sl} {P : Pr} {xs : List Value} {ms : List (Int × Value)} {l : List Int} (h : OwnQ W base ⟨s1, s2, s3, s4, s5⟩ P xs ms) (o : OwnI W base (.slice A n c) n l) (hn : n ≤ 1000) : OwnQ W base ⟨s1, s2, s3, s4, ⟨A, n, c⟩⟩ ⟨P.elig, P.dif, P.sam, P.mst, l⟩ xs ms :=
  ⟨h.o1, h.o2, h.o3, h.o4, o, h.x1, h.s1, h.x4, h.s4, h.b1, h.b2, h.b3, h.b4, hn⟩
theorem mkI_run (n : Nat) (hn : n ≤ 1000) (W : World) : (Instr.makeSlice 30 (.int .i64 (n : Int)) (.int .i64 (n : Int))).run Tryd.prog W = .ok (.slice (some ⟨W.heap.size, 0, none⟩) n n) (W.alloc (.cells ((List.replicate n (0 : Int)).map iv).toArray 3)) := by
  obtain ⟨i, hi, hz0, hz1, hz2⟩ := info_parts int_info
  have h := run_make (P := Tryd.prog) W 30 3 i _ Tryd.underlying30 hi hz0 .i64 .i64 n n (by omega) (by omega) (by rw [hz2]; omega) (by omega)
  rw [hz1] at h
  refine h.trans ?_
  simp only [Int.toNat_natCast, Nat.mul_one]
  have e : madeCells (Value.int .i64 0).cells n = ((List.replicate n (0 : Int)).map iv).toArray := by
    rw [List.map_replicate]
    exact Array.toList_inj.1 (by rw [show (Value.int IntKind.i64 0).cells = #[Value.int .i64 0] from rfl, toList_madeCells_one]; rfl)
  rw [e]
theorem slice_one {w : World} {B M : Nat} {X : Value} (h : SetAt w B (.agg #[X]) M) : X.oneCell' = true := by
  obtain ⟨A, n, c, e, _⟩ := h
  obtain rfl : X = .slice A n c := by simpa using e
  rfl
theorem ones_qv {w : World} {base : Nat} {q : PrV} {P : Pr} {xs : List Value} {ms : List (Int × Value)} (h : OwnQ w base q P xs ms) : ∀ u ∈ ms.flatMap qv, u.oneCell' = true := fun u hu => by
  obtain ⟨m, hm, hu⟩ := List.mem_flatMap.1 hu
  obtain ⟨i, hi⟩ := List.mem_iff_getElem?.1 hm
  have hlt : i < P.mst.length := by rw [← h.x4]; exact (List.getElem?_eq_some_iff.1 hi).1
  obtain ⟨m', h1, h2, h3⟩ := h.s4 i _ (List.getElem?_eq_getElem hlt)
  rw [hi] at h1
  injection h1 with h1
  subst h1
  unfold qv at hu
  simp only [List.mem_cons, List.mem_nil_iff, or_false] at hu
  rcases hu with rfl | rfl
  · rfl
  · exact slice_one h3
theorem ones_xs {w : World} {base : Nat} {q : PrV} {P : Pr} {xs : List Value} {ms : List (Int × Value)} (h : OwnQ w base q P xs ms) : ∀ u ∈ xs, u.oneCell' = true := fun u hu => by
  obtain ⟨i, hi⟩ := List.mem_iff_getElem?.1 hu
  have hlt : i < P.elig.length := by rw [← h.x1]; exact (List.getElem?_eq_some_iff.1 hi).1
  obtain ⟨X, h1, h3⟩ := h.s1 i _ (List.getElem?_eq_getElem hlt)
  rw [hi] at h1
  injection h1 with h1
  subst h1
  exact slice_one h3
theorem setAt_agg {W : World} {B : Nat} {v : Value} {M : Nat} (s : SetAt W B v M) : ∃ A n c, v = .agg #[.slice A n c] ∧ SetAt W B (.agg #[.slice A n c]) M := by
  obtain ⟨A, n, c, e, h1, h2, h3, h4, h5⟩ := s
  exact ⟨A, n, c, e, ⟨A, n, c, rfl, h1, h2, h3, h4, h5⟩⟩
theorem app_get {α β : Type} {R : α → β → Prop} {l l' : List α} {m m' : List β} (hl : m.length = l.length) (h : ∀ (i : Nat) x, l[i]? = some x → ∃ y, m[i]? = some y ∧ R x y) (h' : ∀ (i : Nat) x, l'[i]? = some x → ∃ y, m'[i]? = some y ∧ R x y) (i : Nat) (x : α) (hi : (l ++ l')[i]? = some x) : ∃ y, (m ++ m')[i]? = some y ∧ R x y := by
  by_cases hlt : i < l.length
  · rw [List.getElem?_append_left hlt] at hi
    obtain ⟨y, a, b⟩ := h i x hi
    exact ⟨y, by rw [List.getElem?_append_left (by omega)]; exact a, b⟩
  · rw [List.getElem?_append_right (by omega)] at hi
    obtain ⟨y, a, b⟩ := h' _ x hi
    exact ⟨y, by rw [List.getElem?_append_right (by omega), hl]; exact a, b⟩
theorem own_set1' {w : World} {base e n c g i : Nat} {xs : List Value} (h : w.ownsRow base e 1 (.slice (some ⟨g, 0, none⟩) n c) n xs) (hi : i < n) (u : Value) : (w.setCell ⟨g, i, none⟩ u).ownsRow base e 1 (.slice (some ⟨g, 0, none⟩) n c) n (xs.set i u) := by
  obtain ⟨h1, h2⟩ := h
  rcases h2 with ⟨e, _⟩ | ⟨g', cap, cur, e, h3, h4, h5, h6, h7, h8⟩
  · cases e
  · injection e with e1 e2 e3
    injection e1 with e1
    injection e1 with e1
    subst e1 e3
    refine ⟨by simpa using h1, .inr ⟨g, c, cur.setIfInBounds i u, rfl, h3, ?_, h5, h6, by simpa using h7, ?_⟩⟩
    · exact Blk.put (show Blk w g _ cur from h4) i u
    · rw [← h8]
      simp only [Array.toList_setIfInBounds]
      rw [List.take_set]
/-- A set of a problem of the call's own is put anew. -/
theorem ownQ_setE {W : World} {base g n c k M : Nat} {s2 s3 s4 s5 : Sl} {P : Pr} {xs : List Value} {ms : List (Int × Value)} {Y : Value} (h : OwnQ W base ⟨⟨some ⟨g, 0, none⟩, n, c⟩, s2, s3, s4, s5⟩ P xs ms) (hk : k < n) (s : SetAt W W.heap.size (.agg #[Y]) M) :
    OwnQ (W.setCell ⟨g, k, none⟩ Y) base ⟨⟨some ⟨g, 0, none⟩, n, c⟩, s2, s3, s4, s5⟩ ⟨P.elig.set k M, P.dif, P.sam, P.mst, P.fix⟩ (xs.set k Y) ms := by
  obtain ⟨g', cs, e, hg, kb⟩ := own_blk h.o1 (show 0 < n by omega)
  injection e with e
  injection e with e1 e2
  subst e1
  have far : ∀ v M, SetAt W W.heap.size v M → SetAt (W.setCell ⟨g, k, none⟩ Y) (W.setCell ⟨g, k, none⟩ Y).heap.size v M := fun v M hv => by rw [setCell_size]; exact hv.far kb (by decide)
  have keep : ∀ {e size n : Nat} {v : Value} {ys : List Value}, W.ownsRow base e size v n ys → e ≠ 63 → (W.setCell ⟨g, k, none⟩ Y).ownsRow base e size v n ys := fun o hne => ownsRow_setCell_other o (a := ⟨g, k, none⟩) (own_off o kb hne) _
  have hx : xs.length = n := by have := h.o1.1; simpa using this
  refine ⟨own_set1' h.o1 hk Y, keep h.o2 (by decide), keep h.o3 (by decide), keep h.o4 (by decide), keep h.o5 (by decide), by rw [List.length_set]; show xs.length = (P.elig.set k M).length; rw [List.length_set]; exact h.x1, fun i M' hi => ?_, h.x4, fun i x hi => ?_, h.b1, h.b2, h.b3, h.b4, h.b5⟩
  · have hi : (P.elig.set k M)[i]? = some M' := hi
    rw [List.getElem?_set] at hi
    by_cases hki : k = i
    · subst hki
      rw [if_pos rfl, if_pos (by rw [← h.x1]; omega)] at hi
      obtain rfl : M = M' := by simpa using hi
      exact ⟨Y, by rw [List.getElem?_set_self (by omega)], far _ _ s⟩
    · rw [if_neg hki] at hi
      obtain ⟨X, a, b⟩ := h.s1 i M' hi
      exact ⟨X, by rw [List.getElem?_set_ne hki]; exact a, far _ _ b⟩
  · obtain ⟨m, a, b, c⟩ := h.s4 i x hi
    exact ⟨m, a, b, far _ _ c⟩
/-- A fixed user of a problem of the call's own is put anew. -/
theorem ownQ_setF {W : World} {base g n c k : Nat} {z : Int} {s1 s2 s3 s4 : Sl} {P : Pr} {xs : List Value} {ms : List (Int × Value)} (h : OwnQ W base ⟨s1, s2, s3, s4, ⟨some ⟨g, 0, none⟩, n, c⟩⟩ P xs ms) (hk : k < n) :
    OwnQ (W.setCell ⟨g, k, none⟩ (.int .i64 z)) base ⟨s1, s2, s3, s4, ⟨some ⟨g, 0, none⟩, n, c⟩⟩ ⟨P.elig, P.dif, P.sam, P.mst, P.fix.set k z⟩ xs ms := by
  obtain ⟨g', cs, e, hg, kb⟩ := own_blk h.o5 (show 0 < n by omega)
  injection e with e
  injection e with e1 e2
  subst e1
  have far : ∀ v M, SetAt W W.heap.size v M → SetAt (W.setCell ⟨g, k, none⟩ (.int .i64 z)) (W.setCell ⟨g, k, none⟩ (.int .i64 z)).heap.size v M := fun v M hv => by rw [setCell_size]; exact hv.far kb (by decide)
  have keep : ∀ {e size n : Nat} {v : Value} {ys : List Value}, W.ownsRow base e size v n ys → e ≠ 3 → (W.setCell ⟨g, k, none⟩ (.int .i64 z)).ownsRow base e size v n ys := fun o hne => ownsRow_setCell_other o (a := ⟨g, k, none⟩) (own_off o kb hne) _
  refine ⟨keep h.o1 (by decide), keep h.o2 (by decide), keep h.o3 (by decide), keep h.o4 (by decide), OwnI.set (show OwnI W base _ n P.fix from h.o5) hk z, h.x1, fun i M' hi => ?_, h.x4, fun i x hi => ?_, h.b1, h.b2, h.b3, h.b4, h.b5⟩
  · obtain ⟨X, a, b⟩ := h.s1 i M' hi
    exact ⟨X, a, far _ _ b⟩
  · obtain ⟨m, a, b, c⟩ := h.s4 i x hi
    exact ⟨m, a, b, far _ _ c⟩
/-- What the law holds: the problem in block gp, the flow in block gf. -/
structure LwS (w W : World) (base gp gf : Nat) (q : PrV) (P : Pr) (xs : List Value) (ms : List (Int × Value)) (S1 : Option Addr) (sn sc : Nat) (t1 t2 t3 : Int) : Prop where
  blk : Blk W gp 32 #[q.s1.v, q.s2.v, q.s3.v, q.s4.v, q.s5.v]
  own : OwnQ W base q P xs ms
  flw : Blk W gf 83 #[.slice S1 sn sc, .slice none 0 0, q.s2.v, q.s3.v, q.s4.v]
  lst : Blk W (w.heap.size + 1) 78 #[.int .u8 t1, .int .u8 t2, .int .u8 t3]
  bel : Below w.heap.size w W
  bas : w.heap.size ≤ base
theorem LwS.on {w W W' : World} {base gp gf : Nat} {q : PrV} {P : Pr} {xs : List Value} {ms : List (Int × Value)} {S1 : Option Addr} {sn sc : Nat} {t1 t2 t3 : Int} (h : LwS w W base gp gf q P xs ms S1 sn sc t1 t2 t3) (hb : Below W.heap.size W W') : LwS w W' base gp gf q P xs ms S1 sn sc t1 t2 t3 :=
  ⟨h.blk.on hb, h.own.on hb, h.flw.on hb, h.lst.on hb, h.bel.trans (hb.mono h.bel.size), h.bas⟩
set_option maxHeartbeats 32000000 in
set_option maxRecDepth 100000 in
set_option maxHeartbeats 32000000 in
set_option maxRecDepth 100000 in
theorem walk (r : RwV) (R : Rw) (t1 t2 t3 : Int) (w : World) (h : RwAt w w.heap.size r R) (ht : ThreeB t1 t2 t3) (hT : Tab w) :
    Calls Tryd.prog 10 #[r.v R, .agg #[.int .u8 t1, .int .u8 t2, .int .u8 t3]] w fun e w' => e = .returned (.bool true) ∧ Below w.heap.size w w' := by
  have hg0 : 0 < w.heap.size := World.block_lt_of_cell? w _ (hT 0 (by omega))
  have mk := fun W (hw : Below w.heap.size w W) => rmake_any r R W (h.on hw)
  have mf := mkP_few R
  have hc := chkP_mkP R
  obtain ⟨P, hP⟩ : ∃ P, Hid (P = mkP R) := ⟨_, Lib.hid rfl⟩
  rw [← hP.out] at mf mk hc
  obtain ⟨t10, t11, t20, t21, t30, t31⟩ := ht
  obtain ⟨⟨A1, n1, c1⟩, ⟨A2, n2, c2⟩, ⟨A3, n3, c3⟩, ⟨A4, n4, c4⟩, ⟨A5, n5, c5⟩⟩ := r
  obtain ⟨st, hst⟩ : ∃ st, Hid (st = R.steps) := ⟨_, Lib.hid rfl⟩
  unfold RwV.v Sl.v at mk ⊢
  simp only [] at mk ⊢
  rw [← hst.out] at mk ⊢
  have HC := Lib.hid hc
  have MF := Lib.hid mf
  clear h mf hc
  go_enter Tryd.func10, Tryd.ntmps10
  go_wp2_with fail
  have r1 : Blk ((w.alloc (.cells #[.int .u8 (st : Int), .slice A1 n1 c1, .slice A2 n2 c2, .slice A3 n3 c3, .slice A4 n4 c4, .slice A5 n5 c5] 25)).alloc (.cells #[.int .u8 t1, .int .u8 t2, .int .u8 t3] 78)) w.heap.size 25 #[.int .u8 (st : Int), .slice A1 n1 c1, .slice A2 n2 c2, .slice A3 n3 c3, .slice A4 n4 c4, .slice A5 n5 c5] := (Blk.new w 25 #[.int .u8 (st : Int), .slice A1 n1 c1, .slice A2 n2 c2, .slice A3 n3 c3, .slice A4 n4 c4, .slice A5 n5 c5]).alloc _
  have ra : Blk ((w.alloc (.cells #[.int .u8 (st : Int), .slice A1 n1 c1, .slice A2 n2 c2, .slice A3 n3 c3, .slice A4 n4 c4, .slice A5 n5 c5] 25)).alloc (.cells #[.int .u8 t1, .int .u8 t2, .int .u8 t3] 78)) (w.heap.size + 1) 78 #[.int .u8 t1, .int .u8 t2, .int .u8 t3] := Blk.mk' (by simp)
  have b1 : Below w.heap.size w ((w.alloc (.cells #[.int .u8 (st : Int), .slice A1 n1 c1, .slice A2 n2 c2, .slice A3 n3 c3, .slice A4 n4 c4, .slice A5 n5 c5] 25)).alloc (.cells #[.int .u8 t1, .int .u8 t2, .int .u8 t3] 78)) := bAl (bAl (Below.refl w.heap.size w) _) _
  generalize ((w.alloc (.cells #[.int .u8 (st : Int), .slice A1 n1 c1, .slice A2 n2 c2, .slice A3 n3 c3, .slice A4 n4 c4, .slice A5 n5 c5] 25)).alloc (.cells #[.int .u8 t1, .int .u8 t2, .int .u8 t3] 78)) = W0 at r1 ra b1 ⊢
  refine (awake_any W0 (hT.below b1 hg0)).mono ?_
  rintro e W1 ⟨rfl, ba⟩
  have r1 := r1.on ba
  have ra := ra.on ba
  have b1 := b1.trans (ba.mono b1.size)
  clear ba
  have x0 : W1.cell? ⟨w.heap.size, 0, none⟩ = some (.int .u8 (st : Int)) := (r1.cell 0).trans rfl
  have x1 : W1.cell? ⟨w.heap.size, 1, none⟩ = some (.slice A1 n1 c1) := (r1.cell 1).trans rfl
  have x2 : W1.cell? ⟨w.heap.size, 2, none⟩ = some (.slice A2 n2 c2) := (r1.cell 2).trans rfl
  have x3 : W1.cell? ⟨w.heap.size, 3, none⟩ = some (.slice A3 n3 c3) := (r1.cell 3).trans rfl
  have x4 : W1.cell? ⟨w.heap.size, 4, none⟩ = some (.slice A4 n4 c4) := (r1.cell 4).trans rfl
  have x5 : W1.cell? ⟨w.heap.size, 5, none⟩ = some (.slice A5 n5 c5) := (r1.cell 5).trans rfl
  go_wp2_with fail
  refine (mk W1 b1).mono ?_
  rintro e W2 ⟨⟨⟨B1, m1, d1⟩, ⟨B2, m2, d2⟩, ⟨B3, m3, d3⟩, ⟨B4, m4, d4⟩, ⟨B5, m5, d5⟩⟩, rfl, hO, bw2⟩
  have ra := ra.on bw2
  have b2 := b1.trans (bw2.mono b1.size)
  have hpr := prob_own ⟨⟨B1, m1, d1⟩, ⟨B2, m2, d2⟩, ⟨B3, m3, d3⟩, ⟨B4, m4, d4⟩, ⟨B5, m5, d5⟩⟩ P W2 hO.at
  simp only [PrV.v, Sl.v]
  unfold PrV.v Sl.v at hpr
  simp only [] at hpr
  clear x0 x1 x2 x3 x4 x5 r1 mk
  go_wp2_with fail
  refine hpr.mono ?_
  rintro e W3 ⟨⟨⟨E1, i1, j1⟩, ⟨E2, i2, j2⟩, ⟨E3, i3, j3⟩, ⟨E4, i4, j4⟩, ⟨E5, i5, j5⟩⟩, rfl, ⟨xs, ms, hq⟩, hap, bw3⟩
  simp only [PrV.v, Sl.v]
  have ra := ra.on bw3
  have b3 := b2.trans (bw3.mono b2.size)
  have hbas : w.heap.size ≤ W2.heap.size := b2.size
  have hp23 : W2.heap.size ≤ W3.heap.size := bw3.size
  have hp3 : w.heap.size ≤ W3.heap.size := by omega
  go_upto_region 4 with (fail)
  have kp := Blk.new W3 32 #[.slice E1 i1 j1, .slice E2 i2 j2, .slice E3 i3 j3, .slice E4 i4 j4, .slice E5 i5 j5]
  have bA := bAl (Below.refl W3.heap.size W3) (.cells #[.slice E1 i1 j1, .slice E2 i2 j2, .slice E3 i3 j3, .slice E4 i4 j4, .slice E5 i5 j5] 32)
  have ra := ra.on bA
  have hq := hq.on bA
  have b4 := b3.trans (bA.mono b3.size)
  generalize (W3.alloc (.cells #[.slice E1 i1 j1, .slice E2 i2 j2, .slice E3 i3 j3, .slice E4 i4 j4, .slice E5 i5 j5] 32)) = W4 at kp bA ra hq b4 ⊢
  clear hpr hO bw2 bw3 bA b3 b2 b1
  have x0 : W4.cell? ⟨W3.heap.size, 0, none⟩ = some (.slice E1 i1 j1) := (kp.cell 0).trans rfl
  have x1 : W4.cell? ⟨W3.heap.size, 1, none⟩ = some (.slice E2 i2 j2) := (kp.cell 1).trans rfl
  have x2 : W4.cell? ⟨W3.heap.size, 2, none⟩ = some (.slice E3 i3 j3) := (kp.cell 2).trans rfl
  have x3 : W4.cell? ⟨W3.heap.size, 3, none⟩ = some (.slice E4 i4 j4) := (kp.cell 3).trans rfl
  have x4 : W4.cell? ⟨W3.heap.size, 4, none⟩ = some (.slice E5 i5 j5) := (kp.cell 4).trans rfl
  have hl1 : P.elig.length = i1 := hq.at.l1
  have hl5 : P.fix.length = i5 := hq.at.l5
  have hi1 : 1 ≤ i1 := by rw [← hl1]; exact MF.out.e0
  have hi5 : i1 ≤ 5 := by rw [← hl1]; exact MF.out.e1
  have hl15 : i5 = i1 := by rw [← hl5, ← hl1]; exact MF.out.f1
  have HL1 := Lib.hid hl1
  have HL5 := Lib.hid hl5
  have HL15 := Lib.hid hl15
  have hap' := Lib.hid hap
  clear hl1 hl5 hl15 hap
  go_upto_region 6 with (fail)
  have kf := Blk.new W4 83 #[.slice none 0 0, .slice none 0 0, .slice E2 i2 j2, .slice E3 i3 j3, .slice E4 i4 j4]
  have bA := bAl (Below.refl W4.heap.size W4) (.cells #[.slice none 0 0, .slice none 0 0, .slice E2 i2 j2, .slice E3 i3 j3, .slice E4 i4 j4] 83)
  have hwf := ra.lt
  generalize (W4.alloc (.cells #[.slice none 0 0, .slice none 0 0, .slice E2 i2 j2, .slice E3 i3 j3, .slice E4 i4 j4] 83)) = W5 at kf bA ⊢
  have hgp := kp.lt
  have hgf := kf.lt
  clear x0 x1 x2 x3 x4
  have HQ := Lib.hid hq
  have KP := Lib.hid kp
  have RA := Lib.hid ra
  clear hq kp ra
  have hi5' : (i1 : Int) ≤ 5 := by omega
  go_wp2_with fail
  go_loopw [30] (fun v30 wr => ∃ (j : Nat) (A : Option Addr) (c : Nat) (ys : List Value), v30 = .int .i64 (j : Int) ∧ j ≤ i1 ∧ Blk wr W4.heap.size 83 #[.slice A j c, .slice none 0 0, .slice E2 i2 j2, .slice E3 i3 j3, .slice E4 i4 j4] ∧ wr.ownsRow W4.heap.size 85 2 (.slice A j c) j ys ∧ Below W4.heap.size W4 wr) (fun v30 _ => i1 - (intOf v30).toNat)
  case atStart => exact ⟨0, none, 0, [], rfl, Nat.zero_le _, kf, World.ownsRow_nil _ _ _ _, bA⟩
  case round =>
    clear kf bA hgf
    obtain ⟨j, A, c, ys, rfl, hj, kf, oy, hb⟩ := hrel
    by_cases hlt : j < i1
    · have hlt' : (j : Int) < (i1 : Int) := by omega
      have y0 : wr.cell? ⟨W4.heap.size, 0, none⟩ = some (.slice A j c) := (kf.cell 0).trans rfl
      obtain ⟨x, hx⟩ : ∃ x : UInt8, Hid ((x.toNat : Int) = 48 + (j : Int)) := ⟨UInt8.ofNat (48 + j), Lib.hid (by rw [UInt8.toNat_ofNat']; omega)⟩
      have hw1 : IntKind.i64.wrap (48 + (j : Int)) = 48 + (j : Int) := IntWalk.i64_in _ (by omega)
      have hw2 : IntKind.u8.wrap (48 + (j : Int)) = 48 + (j : Int) := by rw [IntKind.wrap_u8]; omega
      have hstr : (convert 22 9 (.slice (some ⟨wr.heap.size, 0, none⟩) 1 1)).run Tryd.prog (wr.alloc (.cells #[.int .u8 (48 + (j : Int))] 5)) = .ok (.string (bstr [x])) (wr.alloc (.cells #[.int .u8 (48 + (j : Int))] 5)) :=
        run_str _ (wr.heap.size + 1) (some ⟨wr.heap.size, 0, none⟩) 1 1 [x] (by
          have := Sees.laid wr #[.int .u8 (48 + (j : Int))] 5 (0, 0) [bv x] (by unfold bv; rw [hx.out]) _ rfl
          simpa using this) rfl
      have hzw := hb.size
      go_wp2_with (at_builtin; refine wpL_row1 85 81 _ 2 24 fstep_info Tryd.underlying81 rfl (by omega) (by omega) _ rfl (.tmp 34) (.tmp 42) rfl _ W4.heap.size _ j _ rfl (World.ownsRow.alloc oy (.cells #[.int .u8 (48 + (j : Int))] 5)) _ rfl _ (by simp) rfl rfl (by simp [Value.oneCell']) (by omega) (by simp; omega) (j + 1) rfl ?_; intro A7 c7 w7 o7 g7 b7 _; have kf7 := (kf.alloc (.cells #[.int .u8 (48 + (j : Int))] 5)).grown g7 (own_off (World.ownsRow.alloc oy _) (kf.alloc (.cells #[.int .u8 (48 + (j : Int))] 5)) (by decide)); have y7 : w7.cell? ⟨W4.heap.size, 0, none⟩ = some (.slice A j c) := (kf7.cell 0).trans rfl; have f7 := kf7.frozen 0)
      have k8 : Blk (w7.setCell ⟨W4.heap.size, 0, none⟩ (.slice A7 (j + 1) c7)) W4.heap.size 83 #[.slice A7 (j + 1) c7, .slice none 0 0, .slice E2 i2 j2, .slice E3 i3 j3, .slice E4 i4 j4] := by simpa using kf7.put 0 (.slice A7 (j + 1) c7)
      have o8 := ownsRow_setCell_other o7 (a := ⟨W4.heap.size, 0, none⟩) (own_off o7 kf7 (by decide)) (.slice A7 (j + 1) c7)
      have b8 : Below W4.heap.size W4 (w7.setCell ⟨W4.heap.size, 0, none⟩ (.slice A7 (j + 1) c7)) := ((bAl hb (.cells #[.int .u8 (48 + (j : Int))] 5)).trans b7).setCell (p := ⟨W4.heap.size, 0, none⟩) (Nat.le_refl _) _
      go_roundw
      case rel => exact ⟨j + 1, A7, c7, _, by go_num, hlt, k8, o8, b8⟩
      case measure => simp [intOf]; omega
    · obtain rfl : j = i1 := by omega
      have hlt' : ¬ (j : Int) < (j : Int) := by omega
      have hL : LwS w wr W2.heap.size W3.heap.size W4.heap.size ⟨⟨E1, j, j1⟩, ⟨E2, i2, j2⟩, ⟨E3, i3, j3⟩, ⟨E4, i4, j4⟩, ⟨E5, i5, j5⟩⟩ P xs ms A j c t1 t2 t3 := ⟨KP.out.below hb KP.out.lt, HQ.out.on hb, kf, RA.out.below hb RA.out.lt, b4.trans (hb.mono b4.size), hbas⟩
      have HL := Lib.hid hL
      clear hL kf oy hb HQ KP RA b4
      have xo : wr.cell? ⟨w.heap.size + 1, 2, none⟩ = some (.int .u8 t3) := (HL.out.lst.cell 2).trans rfl
      obtain ⟨m3, hm3⟩ : ∃ m : Nat, Hid (m = t3.toNat % 5) := ⟨_, Lib.hid rfl⟩
      have hm35 : m3 < 5 := by have := hm3.out; omega
      have htm3 : t3.tmod 5 = (m3 : Int) := by rw [Int.tmod_eq_emod_of_nonneg t30]; have := hm3.out; omega
      go_upto_if 49 with (fail)
      go_cut [] from 46 to 57 (fun wx => ∃ (P1 : Pr) (xs1 : List Value), LwS w wx W2.heap.size W3.heap.size W4.heap.size ⟨⟨E1, j, j1⟩, ⟨E2, i2, j2⟩, ⟨E3, i3, j3⟩, ⟨E4, i4, j4⟩, ⟨E5, i5, j5⟩⟩ P1 xs1 ms A j c t1 t2 t3 ∧ Hid (P1 = if m3 = 1 then ⟨P.elig.set 0 ((P.elig[0]?.getD 0) ||| 1 <<< 257), P.dif, P.sam, P.mst, P.fix⟩ else P))
      case first =>
        by_cases h1 : m3 = 1
        · subst h1
          have hjb : (0 : Int) < (j : Int) := by omega
          have hjn : 0 < j := by omega
          have hjd : decide (0 < j) = true := by simpa using hjn
          obtain ⟨M, hM⟩ : ∃ M, P.elig[0]? = some M := ⟨_, List.getElem?_eq_getElem (by rw [HL1.out]; omega)⟩
          obtain ⟨X, hX, sX⟩ := HL.out.own.s1 0 M hM
          obtain ⟨g9, cs9, e9, hg9, kb9⟩ := own_blk HL.out.own.o1 (show 0 < j by omega)
          simp only at e9
          subst e9
          have hc9 : wr.cell? ⟨g9, 0, none⟩ = some X := by
            obtain ⟨b, o, e, hb, hc⟩ := Sees.own HL.out.own.o1 (by omega) (by intro e; rw [e] at hX; simp at hX)
            injection e with e
            injection e with e1 e2
            subst e1 e2
            have := hc 0 X hX
            simpa using this
          obtain ⟨Av, nv, cv, rfl, sX'⟩ : ∃ A n c, X = .slice A n c ∧ SetAt wr wr.heap.size (.agg #[.slice A n c]) M := by
            obtain ⟨A, n, c, e, h⟩ := id sX
            obtain rfl : X = .slice A n c := by simpa using e
            exact ⟨A, n, c, rfl, sX⟩
          have HM := Lib.hid hM
          have bd : Below wr.heap.size wr wr.drew := (Below.refl _ _).drew
          obtain ⟨SS, hSS⟩ : ∃ S : World → Prop, S = (fun W => W.cell? ⟨W3.heap.size, 0, none⟩ = some (.slice (some ⟨g9, 0, none⟩) j j1) ∧ W.cell? ⟨g9, 0, none⟩ = some (.slice Av nv cv)) := ⟨_, rfl⟩
          have sB : ∀ W, Below wr.heap.size wr W → SS W := fun W hW => by rw [hSS]; exact ⟨((HL.out.blk.on hW).cell 0).trans rfl, (hW.cell (p := ⟨g9, 0, none⟩) kb9.lt).trans hc9⟩
          clear hM hX sX xo
          go_wp2_with fail
          refine wp_region_F (fun i => i == 8) SS (by kernel_rfl) (sB _ bd) (fun hHeld => ?_)
          generalize hu3 : wr.drew = u3 at bd hHeld ⊢
          clear hu3
          refine wpAnyF_take (i := 0) (v := ?_) rfl (by kernel_rfl) (by kernel_rfl) (by kernel_rfl) (by kernel_rfl) (fun _ _ _ h => h) hHeld (Or.inl ⟨by rfl, ?_⟩) ?_
          rotate_left
          · (intro w hSw; (try rw [hSS] at hSw); (try dsimp only at hSw); go_simp; try with_reducible rfl)
          try simp only [Act.put, List.getElem_toArray, List.getElem_cons_zero, List.getElem_cons_succ, List.setIfInBounds_toArray, List.set_cons_zero, List.set_cons_succ]
          refine wpAnyF_take (i := 1) (v := ?_) rfl (by kernel_rfl) (by kernel_rfl) (by kernel_rfl) (by kernel_rfl) (fun _ _ _ h => h) hHeld (Or.inl ⟨by rfl, ?_⟩) ?_
          rotate_left
          · (intro w hSw; (try rw [hSS] at hSw); (try dsimp only at hSw); go_simp; try with_reducible rfl)
          try simp only [Act.put, List.getElem_toArray, List.getElem_cons_zero, List.getElem_cons_succ, List.setIfInBounds_toArray, List.set_cons_zero, List.set_cons_succ]
          refine wpAnyF_take (i := 2) (v := ?_) rfl (by kernel_rfl) (by kernel_rfl) (by kernel_rfl) (by kernel_rfl) (fun _ _ _ h => h) hHeld (Or.inl ⟨by rfl, ?_⟩) ?_
          rotate_left
          · (intro w hSw; (try rw [hSS] at hSw); (try dsimp only at hSw); go_simp; try with_reducible rfl)
          try simp only [Act.put, List.getElem_toArray, List.getElem_cons_zero, List.getElem_cons_succ, List.setIfInBounds_toArray, List.set_cons_zero, List.set_cons_succ]
          refine wpAnyF_take (i := 3) (v := ?_) rfl (by kernel_rfl) (by kernel_rfl) (by kernel_rfl) (by kernel_rfl) (fun _ _ _ h => h) hHeld (Or.inl ⟨by rfl, ?_⟩) ?_
          rotate_left
          · (intro w hSw; (try rw [hSS] at hSw); (try dsimp only at hSw); go_simp; try with_reducible rfl)
          try simp only [Act.put, List.getElem_toArray, List.getElem_cons_zero, List.getElem_cons_succ, List.setIfInBounds_toArray, List.set_cons_zero, List.set_cons_succ]
          refine wpAnyF_take (i := 4) (v := ?_) rfl (by kernel_rfl) (by kernel_rfl) (by kernel_rfl) (by kernel_rfl) (fun _ _ _ h => h) hHeld (Or.inl ⟨by rfl, ?_⟩) ?_
          rotate_left
          · (intro w hSw; (try rw [hSS] at hSw); (try dsimp only at hSw); go_simp; try with_reducible rfl)
          try simp only [Act.put, List.getElem_toArray, List.getElem_cons_zero, List.getElem_cons_succ, List.setIfInBounds_toArray, List.set_cons_zero, List.set_cons_succ]
          refine wpAnyF_take (i := 5) (v := ?_) rfl (by kernel_rfl) (by kernel_rfl) (by kernel_rfl) (by kernel_rfl) (fun _ _ _ h => h) hHeld (Or.inl ⟨by rfl, ?_⟩) ?_
          rotate_left
          · (intro w hSw; (try rw [hSS] at hSw); (try dsimp only at hSw); go_simp; try with_reducible rfl)
          try simp only [Act.put, List.getElem_toArray, List.getElem_cons_zero, List.getElem_cons_succ, List.setIfInBounds_toArray, List.set_cons_zero, List.set_cons_succ]
          have hwi := with_any (.agg #[.slice Av nv cv]) M 257 u3 (sX'.on bd) (by omega)
          rw [show ((257 : Nat) : Int) = 257 from rfl] at hwi
          refine wpAnyF_one (i := 6) (by kernel_rfl) rfl (fun K hK => ?_)
          go_simp
          go_at_call 33
          refine hwi.mono ?_
          rintro e u4 ⟨v4', rfl, s4, b4'⟩
          obtain ⟨A4', n4', c4', rfl, s4'⟩ := setAt_agg s4
          simp only []
          have bd4 := bd.trans (b4'.mono bd.size)
          refine hK.out _ _ (Or.inr (sB _ bd4)) ?_
          clear hK K
          try simp only [Act.put, List.getElem_toArray, List.getElem_cons_zero, List.getElem_cons_succ, List.setIfInBounds_toArray, List.set_cons_zero, List.set_cons_succ]
          refine wpAnyF_one (i := 7) (by kernel_rfl) rfl (fun K hK => ?_)
          go_simp
          refine hK.out _ _ (Or.inr (sB _ bd4)) ?_
          clear hK K
          try simp only [Act.put, List.getElem_toArray, List.getElem_cons_zero, List.getElem_cons_succ, List.setIfInBounds_toArray, List.set_cons_zero, List.set_cons_succ]
          have z9 : u4.cell? ⟨g9, 0, none⟩ = some (.slice Av nv cv) := (bd4.cell (p := ⟨g9, 0, none⟩) kb9.lt).trans hc9
          have kb4 := kb9.on bd4
          have fz9 := kb4.frozen 0
          refine wpAnyF_one (i := 8) (by kernel_rfl) rfl (fun K hK => ?_)
          go_simp
          refine hK.out _ _ (Or.inl rfl) ?_
          clear hK K
          refine wpAnyF_done (by kernel_rfl) ?_ _
          have h4 := HL.out.on bd4
          have hq4 := ownQ_setE (k := 0) h4.own (by omega) s4'
          go_wp2_with fail
          go_meet
          refine ⟨_, _, ⟨h4.blk.far (p := ⟨g9, 0, none⟩) (h4.blk.apart kb4 (by decide)) _, hq4, h4.flw.far (p := ⟨g9, 0, none⟩) (h4.flw.apart kb4 (by decide)) _, h4.lst.far (p := ⟨g9, 0, none⟩) (h4.lst.apart kb4 (by decide)) _, h4.bel.setCell (p := ⟨g9, 0, none⟩) (Nat.le_trans hbas hg9) _, hbas⟩, Lib.hid (by simp [HM.out])⟩
        · have hb1 : ((m3 : Int) == 1) = false := beq_false_of_ne (by omega)
          go_wp2_with fail
          go_meet
          exact ⟨P, xs, HL.out, Lib.hid (by rw [if_neg h1])⟩
      case rest =>
        obtain ⟨P1, xs1, hL1, hP1⟩ := hcut
        have HL1' := Lib.hid hL1
        have xo : wc.cell? ⟨w.heap.size + 1, 2, none⟩ = some (.int .u8 t3) := (hL1.lst.cell 2).trans rfl
        clear hL1 HL
        go_upto_if 61 with (fail)
        go_cut [] from 58 to 64 (fun wx => ∃ (P2 : Pr) (xs2 : List Value), LwS w wx W2.heap.size W3.heap.size W4.heap.size ⟨⟨E1, j, j1⟩, ⟨E2, i2, j2⟩, ⟨E3, i3, j3⟩, ⟨E4, i4, j4⟩, ⟨E5, i5, j5⟩⟩ P2 xs2 ms A j c t1 t2 t3 ∧ Hid (P2 = oddQ P m3))
        case first =>
          by_cases h2 : m3 = 2
          · subst h2
            have hi50 : (0 : Int) < (i5 : Int) := by have := HL15.out; omega
            obtain ⟨g9, cs9, e9, hg9, kb9⟩ := own_blk HL1'.out.own.o5 (show 0 < i5 by omega)
            simp only at e9
            subst e9
            have y4 : wc.cell? ⟨W3.heap.size, 4, none⟩ = some (.slice (some ⟨g9, 0, none⟩) i5 j5) := (HL1'.out.blk.cell 4).trans rfl
            obtain ⟨y9, z9⟩ : ∃ y, wc.cell? ⟨g9, 0, none⟩ = some y := by
              obtain ⟨b, o, z', e, hb2, Hz, hc⟩ := Sees.int (k := 0) (OwnI.sees HL1'.out.own.o5) (by have := HL1'.out.own.at.l5; simp only at this; omega)
              injection e with e
              injection e with e1 e2
              subst e1 e2
              exact ⟨_, hc⟩
            have f9 := kb9.frozen 0
            go_wp2_with fail
            go_meet
            have h4 := HL1'.out
            have hq4 := ownQ_setF (k := 0) (z := -1) h4.own (by omega)
            have hP1' := hP1.out
            rw [if_neg (by omega)] at hP1'
            refine ⟨_, _, ⟨h4.blk.far (p := ⟨g9, 0, none⟩) (h4.blk.apart kb9 (by decide)) _, hq4, h4.flw.far (p := ⟨g9, 0, none⟩) (h4.flw.apart kb9 (by decide)) _, h4.lst.far (p := ⟨g9, 0, none⟩) (h4.lst.apart kb9 (by decide)) _, h4.bel.setCell (p := ⟨g9, 0, none⟩) (Nat.le_trans hbas hg9) _, hbas⟩, Lib.hid (by rw [hP1']; rfl)⟩
          · have hb1 : ((m3 : Int) == 2) = false := beq_false_of_ne (by omega)
            go_wp2_with fail
            go_meet
            exact ⟨P1, xs1, HL1'.out, Lib.hid (by rw [hP1.out]; unfold oddQ; rw [if_neg h2])⟩
        case rest =>
          obtain ⟨P2, xs2, hL2, hP2⟩ := hcut
          obtain ⟨W6, rfl⟩ : ∃ W, W = wc := ⟨_, rfl⟩
          have HL2 := Lib.hid hL2
          clear hL2 HL1' hP1 xo
          go_upto_region 15 with (fail)
          have hl2 : P2.elig.length = j := HL2.out.own.at.l1
          have hl5 : P2.fix.length = i5 := HL2.out.own.at.l5
          have H2 := Lib.hid hl2
          have H5 := Lib.hid hl5
          clear hl2 hl5
          have bd : Below W6.heap.size W6 W6.drew := (Below.refl _ _).drew
          obtain ⟨SS, hSS⟩ : ∃ S : World → Prop, S = (fun W => W.cell? ⟨W3.heap.size, 0, none⟩ = some (.slice E1 j j1) ∧ W.cell? ⟨W3.heap.size, 4, none⟩ = some (.slice E5 i5 j5)) := ⟨_, rfl⟩
          have sB : ∀ W, Below W6.heap.size W6 W → SS W := fun W hW => by rw [hSS]; exact ⟨((HL2.out.blk.on hW).cell 0).trans rfl, ((HL2.out.blk.on hW).cell 4).trans rfl⟩
          refine wp_region_F noD SS (by kernel_rfl) (sB _ bd) (fun hHeld => ?_)
          generalize hu3 : W6.drew = u3 at bd hHeld ⊢
          clear hu3
          have cS := cloneSet_any E1 j j1 xs2 u3 (Sees.own (HL2.out.own.on bd).o1 (by omega)) HL2.out.own.o1.1 (ones_xs HL2.out.own) (by omega)
          refine wpAnyF_take (i := 0) (v := ?_) rfl (by kernel_rfl) (by kernel_rfl) (by kernel_rfl) (by kernel_rfl) (fun _ _ _ h => h) hHeld (Or.inl ⟨by rfl, ?_⟩) ?_
          rotate_left
          · (intro w hSw; (try rw [hSS] at hSw); (try dsimp only at hSw); go_simp; try with_reducible rfl)
          try simp only [Act.put, List.getElem_toArray, List.getElem_cons_zero, List.getElem_cons_succ, List.setIfInBounds_toArray, List.set_cons_zero, List.set_cons_succ]
          refine wpAnyF_take (i := 1) (v := ?_) rfl (by kernel_rfl) (by kernel_rfl) (by kernel_rfl) (by kernel_rfl) (fun _ _ _ h => h) hHeld (Or.inl ⟨by rfl, ?_⟩) ?_
          rotate_left
          · (intro w hSw; (try rw [hSS] at hSw); (try dsimp only at hSw); go_simp; try with_reducible rfl)
          try simp only [Act.put, List.getElem_toArray, List.getElem_cons_zero, List.getElem_cons_succ, List.setIfInBounds_toArray, List.set_cons_zero, List.set_cons_succ]
          refine wpAnyF_take (i := 3) (v := ?_) rfl (by kernel_rfl) (by kernel_rfl) (by kernel_rfl) (by kernel_rfl) (fun _ _ _ h => h) hHeld (Or.inl ⟨by rfl, ?_⟩) ?_
          rotate_left
          · (intro w hSw; (try rw [hSS] at hSw); (try dsimp only at hSw); go_simp; try with_reducible rfl)
          try simp only [Act.put, List.getElem_toArray, List.getElem_cons_zero, List.getElem_cons_succ, List.setIfInBounds_toArray, List.set_cons_zero, List.set_cons_succ]
          refine wpAnyF_take (i := 4) (v := ?_) rfl (by kernel_rfl) (by kernel_rfl) (by kernel_rfl) (by kernel_rfl) (fun _ _ _ h => h) hHeld (Or.inl ⟨by rfl, ?_⟩) ?_
          rotate_left
          · (intro w hSw; (try rw [hSS] at hSw); (try dsimp only at hSw); go_simp; try with_reducible rfl)
          try simp only [Act.put, List.getElem_toArray, List.getElem_cons_zero, List.getElem_cons_succ, List.setIfInBounds_toArray, List.set_cons_zero, List.set_cons_succ]
          refine wpAnyF_one (i := 2) (by kernel_rfl) rfl (fun K hK => ?_)
          go_simp
          go_at_call 30
          refine cS.mono ?_
          rintro e u4 ⟨A9, e9, rfl, o9, b9⟩
          simp only []
          have bd4 := bd.trans (b9.mono bd.size)
          have cI := cloneI_any E5 i5 j5 P2.fix u4 (HL2.out.on bd4).own.at.e5 H5.out (by have := HL15.out; omega)
          refine hK.out _ _ (Or.inr (sB _ bd4)) ?_
          clear hK K
          try simp only [Act.put, List.getElem_toArray, List.getElem_cons_zero, List.getElem_cons_succ, List.setIfInBounds_toArray, List.set_cons_zero, List.set_cons_succ]
          refine wpAnyF_one (i := 5) (by kernel_rfl) rfl (fun K hK => ?_)
          go_simp
          go_at_call 24
          refine cI.mono ?_
          rintro e u5 ⟨A8, e8, rfl, o8, b8⟩
          simp only []
          have bd5 := bd4.trans (b8.mono bd4.size)
          refine hK.out _ _ (Or.inr (sB _ bd5)) ?_
          clear hK K
          try simp only [Act.put, List.getElem_toArray, List.getElem_cons_zero, List.getElem_cons_succ, List.setIfInBounds_toArray, List.set_cons_zero, List.set_cons_succ]
          refine wpAnyF_one (i := 6) (by kernel_rfl) rfl (fun K hK => ?_)
          go_simp
          refine hK.out _ _ (Or.inr (sB _ bd5)) ?_
          clear hK K
          try simp only [Act.put, List.getElem_toArray, List.getElem_cons_zero, List.getElem_cons_succ, List.setIfInBounds_toArray, List.set_cons_zero, List.set_cons_succ]
          refine wpAnyF_one (i := 7) (by kernel_rfl) rfl (fun K hK => ?_)
          go_simp
          refine hK.out _ _ (Or.inr (sB _ bd5)) ?_
          clear hK K
          try simp only [Act.put, List.getElem_toArray, List.getElem_cons_zero, List.getElem_cons_succ, List.setIfInBounds_toArray, List.set_cons_zero, List.set_cons_succ]
          refine wpAnyF_done (by kernel_rfl) ?_ _
          have h5 := HL2.out.on bd5
          have o9 := own_less (own_on o9 b8) bd.size
          have o8 := own_less o8 bd4.size
          have x1 := h5.own.x1
          have s1 := h5.own.s1
          have one := ones_xs h5.own
          have H5L := Lib.hid h5
          clear h5 hHeld sB hSS SS cS cI b9 b8 bd bd4
          have xo : u5.cell? ⟨w.heap.size + 1, 0, none⟩ = some (.int .u8 t1) := (H5L.out.lst.cell 0).trans rfl
          obtain ⟨m1', hm1⟩ : ∃ m : Nat, Hid (m = t1.toNat % 4) := ⟨_, Lib.hid rfl⟩
          have hm14 : m1' < 4 := by have := hm1.out; omega
          have htm1 : t1.tmod 4 = (m1' : Int) := by rw [Int.tmod_eq_emod_of_nonneg t10]; have := hm1.out; omega
          have hw5 := bd5.size
          go_upto_block 2 with (fail)
          go_cut [9] from 74 to 86 (fun v9 wx => ∃ (C9 : Option Addr) (n9 f9 : Nat) (ys9 : List Value) (eL : List Nat), v9 = .slice C9 n9 f9 ∧ ElS wx C9 n9 ys9 eL ∧ Hid (eL = elL P2.elig m1')  ∧ OwnI wx W6.heap.size (.slice A8 i5 e8) i5 P2.fix ∧ Below W6.heap.size W6 wx)
          case first =>
            have hs9 := Sees.own o9 (by omega)
            have hlx : xs2.length = j := by have := o9.1; omega
            by_cases q1 : m1' = 1
            · subst q1
              have hsub : (j : Int) - 1 = ((j - 1 : Nat) : Int) := by omega
              have hle1 : ((j - 1 : Nat) : Int) ≤ (e9 : Int) := by have := own_room o9; omega
              have h01 : (0 : Int) ≤ ((j - 1 : Nat) : Int) := by omega
              have hE : elL P2.elig 1 = P2.elig.take (j - 1) := by unfold elL; rw [if_pos rfl, H2.out]
              go_wp2_with fail
              go_meet
              refine ⟨_, _, _, xs2.take (j - 1), _, rfl, ⟨⟨_, _, _, xs2, o9, rfl⟩, by rw [List.length_take, hlx]; omega, by rw [hE, List.length_take, List.length_take, x1], fun i M hi => ?_, fun u hu => one u (List.mem_of_mem_take hu), by omega⟩, Lib.hid rfl, o8, bd5⟩
              rw [hE, List.getElem?_take] at hi
              split at hi
              · rename_i hij
                obtain ⟨X, a, b⟩ := s1 i M hi
                exact ⟨X, by rw [List.getElem?_take, if_pos hij]; exact a, b⟩
              · cases hi
            · have q1b : ((m1' : Int) == 1) = false := beq_false_of_ne (by omega)
              by_cases q2 : m1' = 2
              · subst q2
                have hof := ofLit u5 [1] #[.int .i64 1] 1 u5.heap.size rfl rfl (by simp) (by omega) rfl
                have hE : elL P2.elig 2 = P2.elig ++ [2] := by unfold elL; rw [if_neg (by decide), if_pos rfl]
                go_wp2_with fail
                refine hof.mono ?_
                rintro e u6 ⟨C7, n7, c7, rfl, s7, b7⟩
                have o9' := own_on o9 b7
                have h6 := H5L.out.on b7
                have o8' := OwnI.on o8 b7
                have hz6 := b7.size
                go_wp2_with (at_builtin; refine wpL_row1 63 27 _ 1 24 set_info Tryd.underlying27 rfl (by omega) (by omega) _ rfl (.tmp 82) (.tmp 85) rfl u6 W6.heap.size _ j _ rfl o9' #[.slice C7 n7 c7] rfl _ rfl rfl rfl (by simp [Value.oneCell']) (by omega) (by omega) (j + 1) rfl ?_; intro D9 f9 w9 p9 g9 h9 _)
                go_meet
                have hrow : ∀ g', (Value.slice A9 j e9).ownBlock = some g' → ∃ c e f, u6.heap[g']? = some (.cells c e f) ∧ e ≠ 112 := fun g' hv => by
                  obtain ⟨c, f, k⟩ := Lib.ownsRow_kind o9' g' hv
                  exact ⟨c, _, f, k, by decide⟩
                have keepS : ∀ v M, SetAt u6 u6.heap.size v M → SetAt w9 w9.heap.size v M := fun v M hv => (hv.grownR g9 (Nat.le_refl _) hrow).more g9.size
                have bel9 : Below W6.heap.size W6 w9 := (bd5.trans (b7.mono hw5)).trans h9
                have o8w := OwnI.kept o8' g9 (own_apart o8' o9' (by decide))
                refine ⟨_, _, _, xs2 ++ [.slice C7 n7 c7], _, rfl, ⟨⟨_, _, _, _, p9, (List.take_of_length_le (by rw [List.length_append, hlx]; exact Nat.le_refl _)).symm⟩, by rw [List.length_append, hlx]; rfl, by rw [hE, List.length_append, List.length_append, x1]; rfl, fun i M hi => ?_, fun u hu => ?_, by omega⟩, Lib.hid rfl, o8w, bel9⟩
                · rw [hE] at hi
                  exact app_get (R := fun M X => SetAt w9 w9.heap.size (.agg #[X]) M) (l := P2.elig) (l' := [2]) (m := xs2) (m' := [.slice C7 n7 c7]) x1 (fun i M hi => by obtain ⟨X, a, b⟩ := s1 i M hi; exact ⟨X, a, keepS _ _ (b.on b7)⟩) (fun i M hi => by
                    rcases i with _ | i
                    · obtain rfl : 2 = M := by simpa using hi
                      exact ⟨_, rfl, keepS _ _ s7⟩
                    · simp at hi) i M hi
                · rcases List.mem_append.1 hu with h | h
                  · exact one u h
                  · obtain rfl : u = .slice C7 n7 c7 := by simpa using h
                    rfl
              · have q2b : ((m1' : Int) == 2) = false := beq_false_of_ne (by omega)
                have hE : elL P2.elig m1' = P2.elig := by unfold elL; rw [if_neg q1, if_neg q2]
                go_wp2_with fail
                go_meet
                exact ⟨_, _, _, xs2, _, rfl, ⟨⟨_, _, _, xs2, o9, (List.take_of_length_le (by omega)).symm⟩, hlx, by rw [hE]; exact x1, fun i M hi => by rw [hE] at hi; exact s1 i M hi, one, by omega⟩, Lib.hid rfl, o8, bd5⟩
          case rest =>
            obtain ⟨C9, n9, f9, ys9, eL, rfl, hE9, heL, o8, bx⟩ := hcut
            have h2 := HL2.out.on bx
            have H9 := Lib.hid hE9
            have HL3 := Lib.hid h2
            clear h2 hE9 xo
            have xo : wc.cell? ⟨w.heap.size + 1, 1, none⟩ = some (.int .u8 t2) := (HL3.out.lst.cell 1).trans rfl
            obtain ⟨m2', hm2⟩ : ∃ m : Nat, Hid (m = t2.toNat % 5) := ⟨_, Lib.hid rfl⟩
            have hm25 : m2' < 5 := by have := hm2.out; omega
            have htm2 : t2.tmod 5 = (m2' : Int) := by rw [Int.tmod_eq_emod_of_nonneg t20]; have := hm2.out; omega
            have hl5' : P2.fix.length = i5 := H5.out
            have H5a := Lib.hid hl5'
            clear hl5'
            obtain ⟨W7, rfl⟩ : ∃ W, W = wc := ⟨_, rfl⟩
            have hz67 := bx.size
            go_upto_block 3 with (fail)
            go_cut [10] from 87 to 107 (fun v10 wx => ∃ (C8 : Option Addr) (n8 f8 : Nat) (fL : List Int) (E6 : Option Addr) (i6 j6 : Nat) (P3 : Pr), v10 = .slice C8 n8 f8 ∧ Sees wx wx.heap.size C8 (fL.map iv) ∧ fL.length = n8 ∧ n8 ≤ 1000 ∧ ElS wx C9 n9 ys9 eL ∧ Hid (fL = fxL P2.fix m2') ∧ Hid (P3 = fxP P2 m2') ∧ LwS w wx W2.heap.size W3.heap.size W4.heap.size ⟨⟨E1, j, j1⟩, ⟨E2, i2, j2⟩, ⟨E3, i3, j3⟩, ⟨E4, i4, j4⟩, ⟨E6, i6, j6⟩⟩ P3 xs2 ms A j c t1 t2 t3)
            case first =>
              have hs8 := OwnI.sees o8
              have hj5 : j = i5 := HL15.out.symm
              have HJ5 := Lib.hid hj5
              clear hj5
              by_cases q1 : m2' = 1
              · subst q1
                go_wp2_with (at_builtin; refine wpL_appI1 _ rfl (.tmp 92) (.tmp 93) rfl W7 W6.heap.size _ i5 P2.fix rfl o8 _ rfl _ (by rfl) rfl (by have := HL15.out; omega) hz67 (i5 + 1) rfl ?_; intro D9 f9' w9 p9 g9 h9)
                go_meet
                exact ⟨_, _, _, P2.fix ++ [0], E5, i5, j5, P2, rfl, OwnI.sees p9, OwnI.len p9, (by have := HL15.out; omega), H9.out.grown o8 g9, Lib.hid (by unfold fxL; rw [if_pos rfl]), Lib.hid (by unfold fxP; rw [if_neg (by decide)]), HL2.out.on (bx.trans h9)⟩
              · have q1b : ((m2' : Int) == 1) = false := beq_false_of_ne (by omega)
                by_cases q2 : m2' = 2
                · subst q2
                  have hj1000 : j ≤ 1000 := by omega
                  have mkr := mkI_run j hj1000
                  have hkp := HL3.out.blk
                  go_wp2_with fail
                  refine wp_region_F noD (fun _ => True) (by kernel_rfl) trivial (fun hHeld => ?_)
                  have bd := (Below.refl W7.heap.size W7).drew
                  have h7 := HL3.out.on bd
                  have e7 := H9.out.on bd
                  generalize hu3 : W7.drew = u3 at bd hHeld h7 e7 ⊢
                  clear hu3 hkp
                  refine wpAnyF_take (i := 0) (v := ?_) rfl (by kernel_rfl) (by kernel_rfl) (by kernel_rfl) (by kernel_rfl) (fun _ _ _ h => h) hHeld (Or.inl ⟨by rfl, ?_⟩) ?_
                  rotate_left
                  · (intro w hSw; go_simp; try with_reducible rfl)
                  try simp only [Act.put, List.getElem_toArray, List.getElem_cons_zero, List.getElem_cons_succ, List.setIfInBounds_toArray, List.set_cons_zero, List.set_cons_succ]
                  refine wpAnyF_take (i := 2) (v := ?_) rfl (by kernel_rfl) (by kernel_rfl) (by kernel_rfl) (by kernel_rfl) (fun _ _ _ h => h) hHeld (Or.inl ⟨by rfl, ?_⟩) ?_
                  rotate_left
                  · (intro w hSw; go_simp; try with_reducible rfl)
                  try simp only [Act.put, List.getElem_toArray, List.getElem_cons_zero, List.getElem_cons_succ, List.setIfInBounds_toArray, List.set_cons_zero, List.set_cons_succ]
                  refine wpAnyF_one (i := 1) (by kernel_rfl) rfl (fun K hK => ?_)
                  go_simp
                  refine hK.out _ _ (Or.inr trivial) ?_
                  clear hK K
                  try simp only [Act.put, List.getElem_toArray, List.getElem_cons_zero, List.getElem_cons_succ, List.setIfInBounds_toArray, List.set_cons_zero, List.set_cons_succ]
                  refine wpAnyF_one (i := 3) (by kernel_rfl) rfl (fun K hK => ?_)
                  go_simp
                  refine hK.out _ _ (Or.inr trivial) ?_
                  clear hK K
                  try simp only [Act.put, List.getElem_toArray, List.getElem_cons_zero, List.getElem_cons_succ, List.setIfInBounds_toArray, List.set_cons_zero, List.set_cons_succ]
                  have bA := bAl (Below.refl u3.heap.size u3) (.cells (Array.replicate j (iv 0)) 3)
                  have o5 : OwnI (u3.alloc (.cells (Array.replicate j (iv 0)) 3)) u3.heap.size (.slice (some ⟨u3.heap.size, 0, none⟩) j j) j (List.replicate j 0) := ⟨by simp, .inr ⟨u3.heap.size, j, _, rfl, Nat.le_refl _, Blk.new u3 _ _, Nat.le_refl _, by unfold maxLen; omega, by simp, by simp⟩⟩
                  have h8 := h7.on bA
                  have e8' := e7.on bA
                  have y4 : (u3.alloc (.cells (Array.replicate j (iv 0)) 3)).cell? ⟨W3.heap.size, 4, none⟩ = some (.slice E5 i5 j5) := (h8.blk.cell 4).trans rfl
                  have fz4 := h8.blk.frozen 4
                  refine wpAnyF_one (i := 4) (by kernel_rfl) rfl (fun K hK => ?_)
                  go_simp
                  refine hK.out _ _ (Or.inr trivial) ?_
                  clear hK K
                  refine wpAnyF_done (by kernel_rfl) ?_ _
                  go_wp2_with fail
                  go_meet
                  have hz3 : W2.heap.size ≤ u3.heap.size := Nat.le_trans hp23 (Nat.le_of_lt h7.blk.lt)
                  have hq8 := (ownQ_fix (h8.own) (own_less o5 hz3) hj1000).put (i := 4) (u := .slice (some ⟨u3.heap.size, 0, none⟩) j j) h8.blk (by decide)
                  exact ⟨none, 0, 0, [], some ⟨u3.heap.size, 0, none⟩, j, j, ⟨P2.elig, P2.dif, P2.sam, P2.mst, List.replicate j 0⟩, rfl, Sees.nil _ _ _, rfl, by omega, e8'.putP h8.blk, Lib.hid (by unfold fxL; rw [if_neg (by decide), if_pos rfl]), Lib.hid (by unfold fxP; rw [if_pos rfl, H2.out]),
                    ⟨by simpa [Sl.v] using h8.blk.put 4 (.slice (some ⟨u3.heap.size, 0, none⟩) j j), hq8, h8.flw.far (p := ⟨W3.heap.size, 4, none⟩) (h8.flw.apart h8.blk (by decide)) _, h8.lst.far (p := ⟨W3.heap.size, 4, none⟩) (h8.lst.apart h8.blk (by decide)) _, h8.bel.setCell (p := ⟨W3.heap.size, 4, none⟩) hp3 _, h8.bas⟩⟩
                · have q2b : ((m2' : Int) == 2) = false := beq_false_of_ne (by omega)
                  by_cases q3 : m2' = 3 ∧ 1 < j
                  · obtain ⟨q3, h1j⟩ := q3
                    subst q3
                    have h1i : (1 : Int) < (j : Int) := by omega
                    have hsub : (j : Int) - 1 = ((j - 1 : Nat) : Int) := by omega
                    have hle1 : ((j - 1 : Nat) : Int) ≤ (e8 : Int) := by have := OwnI.room o8; have := HJ5.out; omega
                    have h01 : (0 : Int) ≤ ((j - 1 : Nat) : Int) := by omega
                    have hl8 := OwnI.len o8
                    go_wp2_with fail
                    go_meet
                    refine ⟨_, _, _, P2.fix.take (j - 1), E5, i5, j5, P2, rfl, by rw [List.map_take]; exact hs8.take_ _, ?_, by omega, H9.out, Lib.hid ?_, Lib.hid (by unfold fxP; rw [if_neg (by decide)]), HL3.out⟩
                    · rw [List.length_take, hl8]; have := HJ5.out; omega
                    · unfold fxL
                      rw [if_neg (by decide), if_neg (by decide), if_pos ⟨rfl, by rw [hl8, ← HJ5.out]; exact h1j⟩, hl8, ← HJ5.out]
                  · have hfx : fxL P2.fix m2' = P2.fix := by
                      unfold fxL
                      rw [if_neg q1, if_neg q2, if_neg (by rw [OwnI.len o8, ← HJ5.out]; exact q3)]
                    have hend : ∃ (C8 : Option Addr) (n8 f8 : Nat) (fL : List Int) (E6 : Option Addr) (i6 j6 : Nat) (P3 : Pr), Value.slice A8 i5 e8 = .slice C8 n8 f8 ∧ Sees W7 W7.heap.size C8 (fL.map iv) ∧ fL.length = n8 ∧ n8 ≤ 1000 ∧ ElS W7 C9 n9 ys9 eL ∧ Hid (fL = fxL P2.fix m2') ∧ Hid (P3 = fxP P2 m2') ∧ LwS w W7 W2.heap.size W3.heap.size W4.heap.size ⟨⟨E1, j, j1⟩, ⟨E2, i2, j2⟩, ⟨E3, i3, j3⟩, ⟨E4, i4, j4⟩, ⟨E6, i6, j6⟩⟩ P3 xs2 ms A j c t1 t2 t3 :=
                      ⟨_, _, _, P2.fix, E5, i5, j5, P2, rfl, hs8, OwnI.len o8, by have := HJ5.out; omega, H9.out, Lib.hid hfx.symm, Lib.hid (by unfold fxP; rw [if_neg q2]), HL3.out⟩
                    have HEND := Lib.hid hend
                    clear hend hfx
                    by_cases q4 : m2' = 3
                    · subst q4
                      have h1i : ¬ ((1 : Int) < (j : Int)) := by omega
                      go_wp2_with fail
                      go_meet
                      exact HEND.out
                    · have q4b : ((m2' : Int) == 3) = false := beq_false_of_ne (by omega)
                      go_wp2_with fail
                      go_meet
                      exact HEND.out
            case rest =>
              obtain ⟨C8, n8, f8, fL, E6, i6, j6, P3, rfl, hs8, hl8, hn8, hE9, hfL, hP3, hL⟩ := hcut
              obtain ⟨W8, rfl⟩ : ∃ W, W = wc := ⟨_, rfl⟩
              have ho := hL.own
              have hin : SpIn W8 ⟨eL, P3.dif, P3.sam, P3.mst, fL⟩ ys9 ms C9 n9 E2 i2 E3 i3 E4 i4 C8 n8 :=
                ⟨hE9.sees, hE9.len, hE9.x, hE9.s, hE9.one, ho.at.e2, ho.at.l2, ho.at.e3, ho.at.l3, Sees.own ho.o4 (by omega), own_len2 (f := qv) (fun _ => rfl) ho.o4, ho.x4, ho.s4, ones_qv ho, hs8, hl8, hE9.b, ho.b2, ho.b3, ho.b4, hn8⟩
              have hsp := sprob_any A none E2 E3 E4 C9 C8 j c 0 0 i2 j2 i3 j3 i4 j4 n9 f9 n8 f8 _ ys9 ms W8 hin (by omega)
              have hlE : eL.length = n9 := by rw [← hE9.x]; exact hE9.len
              have HLE := Lib.hid hlE
              have HLF := Lib.hid hl8
              have hpl := spr_plain (P2 := P2) (P3 := P3) (m1 := m1') (m2 := m2') (j := j) H2.out (by rw [H5.out]; exact HL15.out) (by omega) hfL.out heL.out hP3.out
              have HPL := Lib.hid hpl
              have HLS := Lib.hid hL
              have y0 : W8.cell? ⟨W4.heap.size, 0, none⟩ = some (.slice A j c) := (hL.flw.cell 0).trans rfl
              have y1 : W8.cell? ⟨W4.heap.size, 1, none⟩ = some (.slice none 0 0) := (hL.flw.cell 1).trans rfl
              have y2 : W8.cell? ⟨W4.heap.size, 2, none⟩ = some (.slice E2 i2 j2) := (hL.flw.cell 2).trans rfl
              have y3 : W8.cell? ⟨W4.heap.size, 3, none⟩ = some (.slice E3 i3 j3) := (hL.flw.cell 3).trans rfl
              have y4 : W8.cell? ⟨W4.heap.size, 4, none⟩ = some (.slice E4 i4 j4) := (hL.flw.cell 4).trans rfl
              clear hlE hl8 hpl hin ho hE9 hs8 hL
              unfold SprPost at hsp
              simp only [] at hsp
              go_wp2_with fail
              refine hsp.mono ?_
              rintro e W9 ⟨b9, hcase⟩
              have h9 := HLS.out.on b9
              have H9L := Lib.hid h9
              clear h9 y0 y1 y2 y3 y4 hsp
              rcases hcase with ⟨hbad, rfl⟩ | ⟨hok1, hok2, hcase⟩
              · rw [HLE.out, HLF.out] at hbad
                go_upto_region 30 with (fail)
                have kr := Blk.new W9 32 #[.slice none 0 0, .slice none 0 0, .slice none 0 0, .slice none 0 0, .slice none 0 0]
                have bA := bAl (Below.refl W9.heap.size W9) (.cells #[.slice none 0 0, .slice none 0 0, .slice none 0 0, .slice none 0 0, .slice none 0 0] 32)
                generalize (W9.alloc (.cells #[.slice none 0 0, .slice none 0 0, .slice none 0 0, .slice none 0 0, .slice none 0 0] 32)) = V1 at kr bA ⊢
                have r0 : V1.cell? ⟨W9.heap.size, 0, none⟩ = some (.slice none 0 0) := (kr.cell 0).trans rfl
                have bw := (H9L.out.on bA).bel
                by_cases hq : n9 = j
                · have hq' : n8 ≠ j ∧ n8 ≠ 0 := by omega
                  subst hq
                  have g1 : ((n8 : Int) != (n9 : Int)) = true := by rw [bne_iff_ne]; omega
                  have g2 : ((n8 : Int) != 0) = true := by rw [bne_iff_ne]; omega
                  go_wp2_with fail
                  go_ret
                  exact ⟨rfl, bw⟩
                · have g1 : ((n9 : Int) != (j : Int)) = true := by rw [bne_iff_ne]; omega
                  go_wp2_with fail
                  go_ret
                  exact ⟨rfl, bw⟩
              · obtain ⟨hn9, hn8', hpr⟩ := HPL.out hok1 hok2
                rw [hpr] at hcase
                rw [HLE.out] at hok1
                rw [HLF.out] at hok2
                obtain rfl : n9 = j := hok1
                clear hn8'
                rcases hcase with ⟨hz, rfl⟩ | ⟨hz, q, rfl, hq⟩
                · obtain ⟨z, hz'⟩ : ∃ z, Hid (z = chkP P3) := ⟨_, Lib.hid rfl⟩
                  rw [← hz'.out] at hz ⊢
                  have hzb : (z != 0) = true := by simpa using hz
                  have hzz : (z == z) = true := by simp
                  go_upto_region 30 with (fail)
                  have kr := Blk.new W9 32 #[.slice none 0 0, .slice none 0 0, .slice none 0 0, .slice none 0 0, .slice none 0 0]
                  have bA := bAl (Below.refl W9.heap.size W9) (.cells #[.slice none 0 0, .slice none 0 0, .slice none 0 0, .slice none 0 0, .slice none 0 0] 32)
                  generalize (W9.alloc (.cells #[.slice none 0 0, .slice none 0 0, .slice none 0 0, .slice none 0 0, .slice none 0 0] 32)) = V1 at kr bA ⊢
                  have hv := H9L.out.on bA
                  have HV := Lib.hid hv
                  clear hv H9L
                  go_cut [129] from 115 to 129 (fun v129 wx => v129 = .bool false ∧ wx = V1)
                  case first =>
                    have g0 : ((n9 : Int) != (n9 : Int)) = false := by simp
                    rcases hok2 with hh | hh
                    · subst hh
                      go_wp2_with fail
                      go_meet
                      exact ⟨rfl, rfl⟩
                    · subst hh
                      have g1 : ((0 : Int) != (n9 : Int)) = true := by rw [bne_iff_ne]; omega
                      go_wp2_with fail
                      go_meet
                      exact ⟨rfl, rfl⟩
                  case rest =>
                    obtain ⟨rfl, hw⟩ := hcut
                    obtain rfl : V1 = wc := hw.symm
                    clear hw
                    have hck := chkP_any ⟨⟨E1, n9, j1⟩, ⟨E2, i2, j2⟩, ⟨E3, i3, j3⟩, ⟨E4, i4, j4⟩, ⟨E6, i6, j6⟩⟩ P3 V1 HV.out.own.at
                    unfold PrV.v Sl.v at hck
                    simp only [] at hck
                    rw [← hz'.out] at hck
                    have x0 : V1.cell? ⟨W3.heap.size, 0, none⟩ = some (.slice E1 n9 j1) := (HV.out.blk.cell 0).trans rfl
                    have x1 : V1.cell? ⟨W3.heap.size, 1, none⟩ = some (.slice E2 i2 j2) := (HV.out.blk.cell 1).trans rfl
                    have x2 : V1.cell? ⟨W3.heap.size, 2, none⟩ = some (.slice E3 i3 j3) := (HV.out.blk.cell 2).trans rfl
                    have x3 : V1.cell? ⟨W3.heap.size, 3, none⟩ = some (.slice E4 i4 j4) := (HV.out.blk.cell 3).trans rfl
                    have x4 : V1.cell? ⟨W3.heap.size, 4, none⟩ = some (.slice E6 i6 j6) := (HV.out.blk.cell 4).trans rfl
                    have r0 : V1.cell? ⟨W9.heap.size, 0, none⟩ = some (.slice none 0 0) := (kr.cell 0).trans rfl
                    go_wp2_with fail
                    refine hck.mono ?_
                    rintro e V2 ⟨rfl, b2⟩
                    have bw := (HV.out.on b2).bel
                    have r0 : V2.cell? ⟨W9.heap.size, 0, none⟩ = some (.slice none 0 0) := ((kr.on b2).cell 0).trans rfl
                    clear x0 x1 x2 x3 x4 hck
                    go_wp2_with fail
                    go_ret
                    exact ⟨rfl, bw⟩
                · obtain ⟨⟨U1, u1n, u1c⟩, ⟨U2, u2n, u2c⟩, ⟨U3, u3n, u3c⟩, ⟨U4, u4n, u4c⟩, ⟨U5, u5n, u5c⟩⟩ := q
                  simp only [Sl.v]
                  go_upto_region 30 with (fail)
                  have kr := Blk.new W9 32 #[.slice U1 u1n u1c, .slice U2 u2n u2c, .slice U3 u3n u3c, .slice U4 u4n u4c, .slice U5 u5n u5c]
                  have bA := bAl (Below.refl W9.heap.size W9) (.cells #[.slice U1 u1n u1c, .slice U2 u2n u2c, .slice U3 u3n u3c, .slice U4 u4n u4c, .slice U5 u5n u5c] 32)
                  have hq := hq.on bA
                  generalize (W9.alloc (.cells #[.slice U1 u1n u1c, .slice U2 u2n u2c, .slice U3 u3n u3c, .slice U4 u4n u4c, .slice U5 u5n u5c] 32)) = V1 at kr bA hq ⊢
                  have hv := H9L.out.on bA
                  have HV := Lib.hid hv
                  clear hv H9L
                  go_cut [129] from 115 to 129 (fun v129 wx => v129 = .bool false ∧ wx = V1)
                  case first =>
                    have g0 : ((n9 : Int) != (n9 : Int)) = false := by simp
                    rcases hok2 with hh | hh
                    · subst hh
                      go_wp2_with fail
                      go_meet
                      exact ⟨rfl, rfl⟩
                    · subst hh
                      have g1 : ((0 : Int) != (n9 : Int)) = true := by rw [bne_iff_ne]; omega
                      go_wp2_with fail
                      go_meet
                      exact ⟨rfl, rfl⟩
                  case rest =>
                    obtain ⟨rfl, hw⟩ := hcut
                    obtain rfl : V1 = wc := hw.symm
                    clear hw
                    have hck := chkP_any ⟨⟨E1, n9, j1⟩, ⟨E2, i2, j2⟩, ⟨E3, i3, j3⟩, ⟨E4, i4, j4⟩, ⟨E6, i6, j6⟩⟩ P3 V1 HV.out.own.at
                    unfold PrV.v Sl.v at hck
                    simp only [] at hck
                    rw [hz] at hck
                    have x0 : V1.cell? ⟨W3.heap.size, 0, none⟩ = some (.slice E1 n9 j1) := (HV.out.blk.cell 0).trans rfl
                    have x1 : V1.cell? ⟨W3.heap.size, 1, none⟩ = some (.slice E2 i2 j2) := (HV.out.blk.cell 1).trans rfl
                    have x2 : V1.cell? ⟨W3.heap.size, 2, none⟩ = some (.slice E3 i3 j3) := (HV.out.blk.cell 2).trans rfl
                    have x3 : V1.cell? ⟨W3.heap.size, 3, none⟩ = some (.slice E4 i4 j4) := (HV.out.blk.cell 3).trans rfl
                    have x4 : V1.cell? ⟨W3.heap.size, 4, none⟩ = some (.slice E6 i6 j6) := (HV.out.blk.cell 4).trans rfl
                    go_wp2_with fail
                    refine hck.mono ?_
                    rintro e V2 ⟨rfl, b2⟩
                    have hv2 := HV.out.on b2
                    have bw := hv2.bel
                    have kr := kr.on b2
                    have hst := same_true ⟨⟨U1, u1n, u1c⟩, ⟨U2, u2n, u2c⟩, ⟨U3, u3n, u3c⟩, ⟨U4, u4n, u4c⟩, ⟨U5, u5n, u5c⟩⟩ ⟨⟨E1, n9, j1⟩, ⟨E2, i2, j2⟩, ⟨E3, i3, j3⟩, ⟨E4, i4, j4⟩, ⟨E6, i6, j6⟩⟩ P3 V2 (hq.on b2) hv2.own.at
                    unfold PrV.v Sl.v at hst
                    simp only [] at hst
                    have HB2 := Lib.hid hv2.blk
                    clear x0 x1 x2 x3 x4 hck hv2 HV
                    have x0 : V2.cell? ⟨W3.heap.size, 0, none⟩ = some (.slice E1 n9 j1) := (HB2.out.cell 0).trans rfl
                    have x1 : V2.cell? ⟨W3.heap.size, 1, none⟩ = some (.slice E2 i2 j2) := (HB2.out.cell 1).trans rfl
                    have x2 : V2.cell? ⟨W3.heap.size, 2, none⟩ = some (.slice E3 i3 j3) := (HB2.out.cell 2).trans rfl
                    have x3 : V2.cell? ⟨W3.heap.size, 3, none⟩ = some (.slice E4 i4 j4) := (HB2.out.cell 3).trans rfl
                    have x4 : V2.cell? ⟨W3.heap.size, 4, none⟩ = some (.slice E6 i6 j6) := (HB2.out.cell 4).trans rfl
                    have r0 : V2.cell? ⟨W9.heap.size, 0, none⟩ = some (.slice U1 u1n u1c) := (kr.cell 0).trans rfl
                    have r1 : V2.cell? ⟨W9.heap.size, 1, none⟩ = some (.slice U2 u2n u2c) := (kr.cell 1).trans rfl
                    have r2 : V2.cell? ⟨W9.heap.size, 2, none⟩ = some (.slice U3 u3n u3c) := (kr.cell 2).trans rfl
                    have r3 : V2.cell? ⟨W9.heap.size, 3, none⟩ = some (.slice U4 u4n u4c) := (kr.cell 3).trans rfl
                    have r4 : V2.cell? ⟨W9.heap.size, 4, none⟩ = some (.slice U5 u5n u5c) := (kr.cell 4).trans rfl
                    go_wp2_with fail
                    refine hst.mono ?_
                    rintro e V3 ⟨rfl, b3⟩
                    have bw := bw.trans (b3.mono bw.size)
                    go_wp2_with fail
                    go_ret
                    exact ⟨rfl, bw⟩
end Go.Proofs.YtfnhaoindehjdaaDoor.staffingProblems
