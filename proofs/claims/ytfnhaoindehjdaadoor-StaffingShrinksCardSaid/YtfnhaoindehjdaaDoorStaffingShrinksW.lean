/- The walk of StaffingShrinks. (gensh.py) -/
import Derived.Test.YtfnhaoindehjdaaDoorMade
import Derived.Test.YtfnhaoindehjdaaDoorCat
import Derived.Test.YtfnhaoindehjdaaDoorTri
import Derived.Test.YtfnhaoindehjdaaDoorSd
import Derived.Test.YtfnhaoindehjdaaDoorAwS
import Derived.Test.YtfnhaoindehjdaaDoorSc
import Derived.Test.YtfnhaoindehjdaaDoorSe
import Derived.Test.YtfnhaoindehjdaaDoorSf
import Derived.Test.YtfnhaoindehjdaaDoorPf
import Derived.Test.YtfnhaoindehjdaaDoorPk
import Derived.Test.YtfnhaoindehjdaaDoorPl
import Derived.Deep.CutBlock
import Derived.Deep.RegionLaw
namespace Go.Proofs.YtfnhaoindehjdaaDoor.staffingShrinks
open Go.RowKit
set_option linter.unusedVariables false
set_option linter.unusedSimpArgs false

/-- P with Q's conditions too (b). -/
def moreP (P Q : Pr) (b : Bool) : Pr := ⟨P.elig, P.dif ++ (if b = true then Q.dif else []), P.sam ++ (if b = true then Q.sam else []), P.mst ++ (if b = true then Q.mst else []), P.fix⟩
theorem moreP_no (P Q : Pr) : moreP P Q false = P := by unfold moreP; simp
theorem shr_facts {P Q : Pr} (hc : chkP P = 0) (hc2 : chkP Q = 0) (fP : FewP P) (fQ : FewP Q) (sm : SmP P) (hf : Few128 P) (h6 : ∀ v ∈ P.fix, v ≤ 6) (b : Bool) (hb : b = true → Q.elig.length = P.elig.length) (k u : Nat) (hk : k < P.elig.length) :
    chkP (shrP P Q b k u) = 0 ∧ SmP (shrP P Q b k u) ∧ (solsL (shrP P Q b k u)).length ≤ (solsL P).length ∧ ∀ l, ValidB (shrP P Q b k u) l = true → ValidB P l = true := by
  have h1 := chkP_of (shr_ok (chkP_ok hc) (chkP_ok hc2) fP fQ hb (u := u) hk)
  exact ⟨h1, shr_sm sm b k u, shr_sols hc hk h1 hf h6, fun l hl => shr_valid hc h1 hl⟩
theorem flat_app {α : Type} (f : α → List Value) (l m : List α) : l.flatMap f ++ m.flatMap f = (l ++ m).flatMap f := by simp
/-- What is left of the second if. -/
structure ShS (W5 : World) (base gs : Nat) (P' : Pr) (q : PrV) (xs : List Value) (ms : List (Int × Value)) (wx : World) : Prop where
  blk : Blk wx gs 32 #[q.s1.v, q.s2.v, q.s3.v, q.s4.v, q.s5.v]
  own : OwnQ wx base q P' xs ms
  bel : Below W5.heap.size W5 wx
theorem most_at {w : World} {base n c : Nat} {A : Option Addr} {ms : List (Int × Value)} {l : List (Int × Nat)} (o : w.ownsRow base 69 2 (.slice A n c) n (ms.flatMap qv)) (h : ∀ (i : Nat) (x : Int × Nat), l[i]? = some x → ∃ m, ms[i]? = some m ∧ m.1 = x.1 ∧ SetAt w w.heap.size (.agg #[m.2]) x.2) : MostAt w w.heap.size A l := fun i x hi => by
  obtain ⟨m, a, b, c⟩ := h i x hi
  have e0 := flat_get (f := qv) (m := 2) (fun _ => rfl) a (show 0 < 2 by omega)
  have e1 := flat_get (f := qv) (m := 2) (fun _ => rfl) a (show 1 < 2 by omega)
  obtain ⟨b9, o9, e9, hb, hc⟩ := Sees.own o (by omega) (by intro h0; rw [h0] at e0; simp [qv] at e0)
  exact ⟨b9, o9, m.2, e9, hb, hc _ _ (by rw [show i * 2 = i * 2 + 0 from rfl, e0, ← b]; rfl), hc _ _ (by rw [e1]; rfl), c⟩
theorem slice_one {w : World} {B M : Nat} {X : Value} (h : SetAt w B (.agg #[X]) M) : X.oneCell' = true := by
  obtain ⟨A, n, c, e, _⟩ := h
  obtain rfl : X = .slice A n c := by simpa using e
  rfl
theorem ones_qv {w : World} {base : Nat} {q : PrV} {P : Pr} {xs : List Value} {ms : List (Int × Value)} (h : OwnQ w base q P xs ms) : ∀ u ∈ ms.flatMap qv, u.oneCell' = true := fun u hu => by
  obtain ⟨m, hm, hu⟩ := List.mem_flatMap.1 hu
  obtain ⟨i, hi⟩ := List.mem_iff_getElem?.1 hm
  have hlt : i < P.mst.length := by rw [← h.x4]; exact (List.getElem?_eq_some_iff.1 hi).1
  obtain ⟨m', h1, h2, h3⟩ := h.s4 i _ (List.getElem?_eq_getElem hlt)
  rw [hi] at h1
  injection h1 with h1
  subst h1
  unfold qv at hu
  simp only [List.mem_cons, List.mem_nil_iff, or_false] at hu
  rcases hu with rfl | rfl
  · rfl
  · exact slice_one h3
theorem ones_xs {w : World} {base : Nat} {q : PrV} {P : Pr} {xs : List Value} {ms : List (Int × Value)} (h : OwnQ w base q P xs ms) : ∀ u ∈ xs, u.oneCell' = true := fun u hu => by
  obtain ⟨i, hi⟩ := List.mem_iff_getElem?.1 hu
  have hlt : i < P.elig.length := by rw [← h.x1]; exact (List.getElem?_eq_some_iff.1 hi).1
  obtain ⟨X, h1, h3⟩ := h.s1 i _ (List.getElem?_eq_getElem hlt)
  rw [hi] at h1
  injection h1 with h1
  subst h1
  exact slice_one h3
theorem setAt_agg {W : World} {B : Nat} {v : Value} {M : Nat} (s : SetAt W B v M) : ∃ A n c, v = .agg #[.slice A n c] ∧ SetAt W B (.agg #[.slice A n c]) M := by
  obtain ⟨A, n, c, e, h1, h2, h3, h4, h5⟩ := s
  exact ⟨A, n, c, e, ⟨A, n, c, rfl, h1, h2, h3, h4, h5⟩⟩
theorem app_get {α β : Type} {R : α → β → Prop} {l l' : List α} {m m' : List β} (hl : m.length = l.length) (h : ∀ (i : Nat) x, l[i]? = some x → ∃ y, m[i]? = some y ∧ R x y) (h' : ∀ (i : Nat) x, l'[i]? = some x → ∃ y, m'[i]? = some y ∧ R x y) (i : Nat) (x : α) (hi : (l ++ l')[i]? = some x) : ∃ y, (m ++ m')[i]? = some y ∧ R x y := by
  by_cases hlt : i < l.length
  · rw [List.getElem?_append_left hlt] at hi
    obtain ⟨y, a, b⟩ := h i x hi
    exact ⟨y, by rw [List.getElem?_append_left (by omega)]; exact a, b⟩
  · rw [List.getElem?_append_right (by omega)] at hi
    obtain ⟨y, a, b⟩ := h' _ x hi
    exact ⟨y, by rw [List.getElem?_append_right (by omega), hl]; exact a, b⟩
theorem sh_close {W5 V : World} {base1 base2 gs : Nat} {P Q : Pr} {xs xs2 : List Value} {ms ms2 : List (Int × Value)} {E1 E2 E3 E4 E5 F1 F2 F3 F4 F5 A2 A3 A4 : Option Addr} {i1 j1 i2 j2 i3 j3 i4 j4 i5 j5 k1 l1 k2 l2 k3 l3 k4 l4 k5 l5 e2 e3 e4 : Nat}
    (hbs : base1 ≤ W5.heap.size) (m2 : i2 + k2 ≤ 1000) (m3 : i3 + k3 ≤ 1000) (m4 : i4 + k4 ≤ 1000) (hq : OwnQ W5 base1 ⟨⟨E1, i1, j1⟩, ⟨E2, i2, j2⟩, ⟨E3, i3, j3⟩, ⟨E4, i4, j4⟩, ⟨E5, i5, j5⟩⟩ P xs ms) (hq2 : OwnQ W5 base2 ⟨⟨F1, k1, l1⟩, ⟨F2, k2, l2⟩, ⟨F3, k3, l3⟩, ⟨F4, k4, l4⟩, ⟨F5, k5, l5⟩⟩ Q xs2 ms2)
    (hb : Below W5.heap.size W5 V) (hgs : W5.heap.size ≤ gs) (kv : Blk V gs 32 #[.slice E1 i1 j1, .slice E2 i2 j2, .slice E3 i3 j3, .slice E4 i4 j4, .slice E5 i5 j5])
    (o2 : V.ownsRow W5.heap.size 66 2 (.slice A2 (i2 + k2) e2) (i2 + k2) (P.dif.flatMap pv ++ Q.dif.flatMap pv)) (o3 : V.ownsRow W5.heap.size 66 2 (.slice A3 (i3 + k3) e3) (i3 + k3) (P.sam.flatMap pv ++ Q.sam.flatMap pv)) (o4 : V.ownsRow W5.heap.size 69 2 (.slice A4 (i4 + k4) e4) (i4 + k4) (ms.flatMap qv ++ ms2.flatMap qv)) :
    ShS W5 base1 gs (moreP P Q true) ⟨⟨E1, i1, j1⟩, ⟨A2, i2 + k2, e2⟩, ⟨A3, i3 + k3, e3⟩, ⟨A4, i4 + k4, e4⟩, ⟨E5, i5, j5⟩⟩ xs (ms ++ ms2) (((V.setCell ⟨gs, 1, none⟩ (.slice A2 (i2 + k2) e2)).setCell ⟨gs, 2, none⟩ (.slice A3 (i3 + k3) e3)).setCell ⟨gs, 3, none⟩ (.slice A4 (i4 + k4) e4)) := by
  have k1' := kv.put 1 (.slice A2 (i2 + k2) e2)
  have k2' := k1'.put 2 (.slice A3 (i3 + k3) e3)
  have k3' := k2'.put 3 (.slice A4 (i4 + k4) e4)
  have B : Below W5.heap.size W5 (((V.setCell ⟨gs, 1, none⟩ (.slice A2 (i2 + k2) e2)).setCell ⟨gs, 2, none⟩ (.slice A3 (i3 + k3) e3)).setCell ⟨gs, 3, none⟩ (.slice A4 (i4 + k4) e4)) := ((hb.setCell (p := ⟨gs, 1, none⟩) hgs _).setCell (p := ⟨gs, 2, none⟩) hgs _).setCell (p := ⟨gs, 3, none⟩) hgs _
  have keep : ∀ {e : TypeId} {n : Nat} {v : Value} {ys : List Value}, V.ownsRow W5.heap.size e 2 v n ys → e ≠ 32 → (((V.setCell ⟨gs, 1, none⟩ (.slice A2 (i2 + k2) e2)).setCell ⟨gs, 2, none⟩ (.slice A3 (i3 + k3) e3)).setCell ⟨gs, 3, none⟩ (.slice A4 (i4 + k4) e4)).ownsRow W5.heap.size e 2 v n ys := fun o hne => by
    have h1 := ownsRow_setCell_other o (a := ⟨gs, 1, none⟩) (own_off o kv hne) (.slice A2 (i2 + k2) e2)
    have h2 := ownsRow_setCell_other h1 (a := ⟨gs, 2, none⟩) (own_off h1 k1' hne) (.slice A3 (i3 + k3) e3)
    exact ownsRow_setCell_other h2 (a := ⟨gs, 3, none⟩) (own_off h2 k2' hne) _
  have o2' := keep o2 (by decide)
  have o3' := keep o3 (by decide)
  have o4' := keep o4 (by decide)
  rw [flat_app] at o2' o3' o4'
  refine ⟨by simpa [Sl.v] using k3', ⟨own_on hq.o1 B, own_less o2' hbs, own_less o3' hbs, own_less o4' hbs, own_on hq.o5 B, hq.x1, fun i M hi => ?_, ?_, fun i x hi => ?_, hq.b1, m2, m3, m4, hq.b5⟩, B⟩
  · obtain ⟨X, a, b⟩ := hq.s1 i M hi
    exact ⟨X, a, (b.below B).more B.size⟩
  · show (ms ++ ms2).length = (P.mst ++ Q.mst).length
    rw [List.length_append, List.length_append, hq.x4, hq2.x4]
  · refine app_get (R := fun (x : Int × Nat) (m : Int × Value) => m.1 = x.1 ∧ SetAt _ _ (.agg #[m.2]) x.2) hq.x4 (fun i x hi => ?_) (fun i x hi => ?_) i x hi
    · obtain ⟨m, a, b, c⟩ := hq.s4 i x hi
      exact ⟨m, a, b, (c.below B).more B.size⟩
    · obtain ⟨m, a, b, c⟩ := hq2.s4 i x hi
      exact ⟨m, a, b, (c.below B).more B.size⟩
theorem own_set1 {w : World} {base e n c g i : Nat} {xs : List Value} (h : w.ownsRow base e 1 (.slice (some ⟨g, 0, none⟩) n c) n xs) (hi : i < n) (u : Value) : (w.setCell ⟨g, i, none⟩ u).ownsRow base e 1 (.slice (some ⟨g, 0, none⟩) n c) n (xs.set i u) := by
  obtain ⟨h1, h2⟩ := h
  rcases h2 with ⟨e, _⟩ | ⟨g', cap, cur, e, h3, h4, h5, h6, h7, h8⟩
  · cases e
  · injection e with e1 e2 e3
    injection e1 with e1
    injection e1 with e1
    subst e1 e3
    refine ⟨by simpa using h1, .inr ⟨g, c, cur.setIfInBounds i u, rfl, h3, ?_, h5, h6, by simpa using h7, ?_⟩⟩
    · exact Blk.put (show Blk w g _ cur from h4) i u
    · rw [← h8]
      simp only [Array.toList_setIfInBounds]
      rw [List.take_set]
theorem pr_shr {W : World} {base B g n c k u M : Nat} {q : PrV} {P Q : Pr} {b : Bool} {xs : List Value} {msx : List (Int × Value)} {Y : Value} (h : OwnQ W base q (moreP P Q b) xs msx) (o : W.ownsRow B 63 1 (.slice (some ⟨g, 0, none⟩) n c) n xs) (hn : q.s1.n = n) (hk : k < n) (hM : P.elig[k]? = some M)
    (s : SetAt W W.heap.size (.agg #[Y]) (clrU M u)) : PrAt (W.setCell ⟨g, k, none⟩ Y) (W.setCell ⟨g, k, none⟩ Y).heap.size ⟨⟨some ⟨g, 0, none⟩, n, c⟩, q.s2, q.s3, q.s4, q.s5⟩ (shrP P Q b k u) := by
  obtain ⟨g', cs, e, hg, kb⟩ := own_blk o (by omega)
  injection e with e
  injection e with e1 e2
  subst e1
  have far : ∀ v M, SetAt W W.heap.size v M → SetAt (W.setCell ⟨g, k, none⟩ Y) (W.setCell ⟨g, k, none⟩ Y).heap.size v M := fun v M hv => by rw [setCell_size]; exact hv.far kb (by decide)
  have keep : ∀ {e size n : Nat} {v : Value} {ys : List Value}, W.ownsRow base e size v n ys → e ≠ 63 → (W.setCell ⟨g, k, none⟩ Y).ownsRow base e size v n ys := fun o hne => ownsRow_setCell_other o (a := ⟨g, k, none⟩) (own_off o kb hne) _
  have o1' := own_set1 o hk Y
  have o2' := keep h.o2 (by decide)
  have o3' := keep h.o3 (by decide)
  have o4' := keep h.o4 (by decide)
  have o5' := keep h.o5 (by decide)
  have hA := h.at
  have hl : P.elig.length = n := by rw [← hn]; exact hA.l1
  refine ⟨by show (P.elig.set k _).length = n; rw [List.length_set]; exact hl, hA.l2, hA.l3, hA.l4, hA.l5, fun i M' hi => ?_, PairsAt.of (Sees.own o2' (by omega)), PairsAt.of (Sees.own o3' (by omega)), most_at o4' fun i x hi => ?_, Sees.own o5' (by omega), by have := hA.b1; rw [hn] at this; exact this, hA.b2, hA.b3, hA.b4, hA.b5, own_room o5'⟩
  · have hi : (P.elig.set k (clrU (P.elig[k]?.getD 0) u))[i]? = some M' := hi
    have hx : xs.length = n := by rw [← hl]; exact h.x1
    rw [hM, Option.getD_some, List.getElem?_set] at hi
    by_cases hki : k = i
    · subst hki
      rw [if_pos rfl, if_pos (by rw [hl]; exact hk)] at hi
      obtain rfl : clrU M u = M' := by simpa using hi
      obtain ⟨b9, o9, e9, hb, hc⟩ := Sees.own o1' (by omega) (by intro e; have := congrArg List.length e; rw [List.length_set, List.length_nil] at this; omega)
      exact ⟨b9, o9, Y, e9, hb, hc k Y (by rw [List.getElem?_set_self (by omega)]), far _ _ s⟩
    · rw [if_neg hki] at hi
      obtain ⟨X, a, b⟩ := h.s1 i M' hi
      obtain ⟨b9, o9, e9, hb, hc⟩ := Sees.own o1' (by omega) (by intro e; have := congrArg List.length e; rw [List.length_set, List.length_nil] at this; omega)
      exact ⟨b9, o9, X, e9, hb, hc i X (by rw [List.getElem?_set_ne hki]; exact a), far _ _ b⟩
  · obtain ⟨m, a, b, c⟩ := h.s4 i x hi
    exact ⟨m, a, b, far _ _ c⟩
section
variable {W5 : World} {P Q : Pr} {ms ms2 : List (Int × Value)} {E2 F2 E3 F3 E4 F4 : Option Addr} {i2 j2 fn2 fc2 i3 j3 fn3 fc3 i4 j4 fn4 fc4 : Nat} {ecs : Array Value}
/-- What has come up of the three rows. -/
structure CF (W5 : World) (P Q : Pr) (ms ms2 : List (Int × Value)) (E2 F2 E3 F3 E4 F4 : Option Addr) (i2 j2 fn2 fc2 i3 j3 fn3 fc3 i4 j4 fn4 fc4 : Nat) (ecs : Array Value) (k : Nat) (b c : Bool) (x48 x49 x54 x55 x60 x61 : Value) (w : World) : Prop where
  bel : Below W5.heap.size W5 w
  kv : Blk w W5.heap.size 32 ecs
  m4 : 1 ≤ k → ∃ g, x48 = .slice (some ⟨g, 0, none⟩) 2 2 ∧ Blk w g 28 #[.slice E2 i2 j2, .slice F2 fn2 fc2]
  m5 : 2 ≤ k → ∃ A e, x49 = .slice A (i2 + fn2) e ∧ w.ownsRow W5.heap.size 66 2 (.slice A (i2 + fn2) e) (i2 + fn2) (P.dif.flatMap pv ++ Q.dif.flatMap pv)
  m10 : b = true → ∃ g, x54 = .slice (some ⟨g, 0, none⟩) 2 2 ∧ Blk w g 28 #[.slice E3 i3 j3, .slice F3 fn3 fc3]
  m11 : 3 ≤ k → ∃ A e, x55 = .slice A (i3 + fn3) e ∧ w.ownsRow W5.heap.size 66 2 (.slice A (i3 + fn3) e) (i3 + fn3) (P.sam.flatMap pv ++ Q.sam.flatMap pv)
  m16 : c = true → ∃ g, x60 = .slice (some ⟨g, 0, none⟩) 2 2 ∧ Blk w g 29 #[.slice E4 i4 j4, .slice F4 fn4 fc4]
  m17 : 4 ≤ k → ∃ A e, x61 = .slice A (i4 + fn4) e ∧ w.ownsRow W5.heap.size 69 2 (.slice A (i4 + fn4) e) (i4 + fn4) (ms.flatMap qv ++ ms2.flatMap qv)
variable {k : Nat} {b c : Bool} {x48 x49 x54 x55 x60 x61 : Value} {w u : World}
theorem CF.on (h : CF W5 P Q ms ms2 E2 F2 E3 F3 E4 F4 i2 j2 fn2 fc2 i3 j3 fn3 fc3 i4 j4 fn4 fc4 ecs k b c x48 x49 x54 x55 x60 x61 w) (hb : Below w.heap.size w u) : CF W5 P Q ms ms2 E2 F2 E3 F3 E4 F4 i2 j2 fn2 fc2 i3 j3 fn3 fc3 i4 j4 fn4 fc4 ecs k b c x48 x49 x54 x55 x60 x61 u :=
  ⟨bJoin h.bel hb, h.kv.on hb, fun e => by obtain ⟨g, e1, o⟩ := h.m4 e; exact ⟨g, e1, o.on hb⟩, fun e => by obtain ⟨A, z, e1, o⟩ := h.m5 e; exact ⟨A, z, e1, own_on o hb⟩, fun e => by obtain ⟨g, e1, o⟩ := h.m10 e; exact ⟨g, e1, o.on hb⟩, fun e => by obtain ⟨A, z, e1, o⟩ := h.m11 e; exact ⟨A, z, e1, own_on o hb⟩,
   fun e => by obtain ⟨g, e1, o⟩ := h.m16 e; exact ⟨g, e1, o.on hb⟩, fun e => by obtain ⟨A, z, e1, o⟩ := h.m17 e; exact ⟨A, z, e1, own_on o hb⟩⟩
theorem CF.s4 (h : CF W5 P Q ms ms2 E2 F2 E3 F3 E4 F4 i2 j2 fn2 fc2 i3 j3 fn3 fc3 i4 j4 fn4 fc4 ecs 0 b c x48 x49 x54 x55 x60 x61 w) : CF W5 P Q ms ms2 E2 F2 E3 F3 E4 F4 i2 j2 fn2 fc2 i3 j3 fn3 fc3 i4 j4 fn4 fc4 ecs 1 b c (.slice (some ⟨w.heap.size, 0, none⟩) 2 2) x49 x54 x55 x60 x61 (w.alloc (.cells #[.slice E2 i2 j2, .slice F2 fn2 fc2] 28)) :=
  have g := h.on (bAl (Below.refl _ _) (.cells #[.slice E2 i2 j2, .slice F2 fn2 fc2] 28))
  ⟨g.bel, g.kv, fun _ => ⟨_, rfl, Blk.new _ _ _⟩, fun e => by omega, g.m10, fun e => by omega, g.m16, fun e => by omega⟩
theorem CF.s10 (h : CF W5 P Q ms ms2 E2 F2 E3 F3 E4 F4 i2 j2 fn2 fc2 i3 j3 fn3 fc3 i4 j4 fn4 fc4 ecs k false c x48 x49 x54 x55 x60 x61 w) : CF W5 P Q ms ms2 E2 F2 E3 F3 E4 F4 i2 j2 fn2 fc2 i3 j3 fn3 fc3 i4 j4 fn4 fc4 ecs k true c x48 x49 (.slice (some ⟨w.heap.size, 0, none⟩) 2 2) x55 x60 x61 (w.alloc (.cells #[.slice E3 i3 j3, .slice F3 fn3 fc3] 28)) :=
  have g := h.on (bAl (Below.refl _ _) (.cells #[.slice E3 i3 j3, .slice F3 fn3 fc3] 28))
  ⟨g.bel, g.kv, g.m4, g.m5, fun _ => ⟨_, rfl, Blk.new _ _ _⟩, g.m11, g.m16, g.m17⟩
theorem CF.s16 (h : CF W5 P Q ms ms2 E2 F2 E3 F3 E4 F4 i2 j2 fn2 fc2 i3 j3 fn3 fc3 i4 j4 fn4 fc4 ecs k b false x48 x49 x54 x55 x60 x61 w) : CF W5 P Q ms ms2 E2 F2 E3 F3 E4 F4 i2 j2 fn2 fc2 i3 j3 fn3 fc3 i4 j4 fn4 fc4 ecs k b true x48 x49 x54 x55 (.slice (some ⟨w.heap.size, 0, none⟩) 2 2) x61 (w.alloc (.cells #[.slice E4 i4 j4, .slice F4 fn4 fc4] 29)) :=
  have g := h.on (bAl (Below.refl _ _) (.cells #[.slice E4 i4 j4, .slice F4 fn4 fc4] 29))
  ⟨g.bel, g.kv, g.m4, g.m5, g.m10, g.m11, fun _ => ⟨_, rfl, Blk.new _ _ _⟩, g.m17⟩
theorem CF.s5 {A : Option Addr} {e : Nat} (h : CF W5 P Q ms ms2 E2 F2 E3 F3 E4 F4 i2 j2 fn2 fc2 i3 j3 fn3 fc3 i4 j4 fn4 fc4 ecs 1 b c x48 x49 x54 x55 x60 x61 w) (hb : Below w.heap.size w u) (ho : u.ownsRow w.heap.size 66 2 (.slice A (i2 + fn2) e) (i2 + fn2) (P.dif.flatMap pv ++ Q.dif.flatMap pv)) :
    CF W5 P Q ms ms2 E2 F2 E3 F3 E4 F4 i2 j2 fn2 fc2 i3 j3 fn3 fc3 i4 j4 fn4 fc4 ecs 2 b c x48 (.slice A (i2 + fn2) e) x54 x55 x60 x61 u :=
  have g := h.on hb
  ⟨g.bel, g.kv, fun _ => g.m4 (by omega), fun _ => ⟨_, _, rfl, own_less ho h.bel.size⟩, g.m10, fun e => by omega, g.m16, fun e => by omega⟩
theorem CF.s11 {A : Option Addr} {e : Nat} (h : CF W5 P Q ms ms2 E2 F2 E3 F3 E4 F4 i2 j2 fn2 fc2 i3 j3 fn3 fc3 i4 j4 fn4 fc4 ecs 2 b c x48 x49 x54 x55 x60 x61 w) (hb : Below w.heap.size w u) (ho : u.ownsRow w.heap.size 66 2 (.slice A (i3 + fn3) e) (i3 + fn3) (P.sam.flatMap pv ++ Q.sam.flatMap pv)) :
    CF W5 P Q ms ms2 E2 F2 E3 F3 E4 F4 i2 j2 fn2 fc2 i3 j3 fn3 fc3 i4 j4 fn4 fc4 ecs 3 b c x48 x49 x54 (.slice A (i3 + fn3) e) x60 x61 u :=
  have g := h.on hb
  ⟨g.bel, g.kv, fun _ => g.m4 (by omega), fun _ => g.m5 (by omega), g.m10, fun _ => ⟨_, _, rfl, own_less ho h.bel.size⟩, g.m16, fun e => by omega⟩
theorem CF.s17 {A : Option Addr} {e : Nat} (h : CF W5 P Q ms ms2 E2 F2 E3 F3 E4 F4 i2 j2 fn2 fc2 i3 j3 fn3 fc3 i4 j4 fn4 fc4 ecs 3 b c x48 x49 x54 x55 x60 x61 w) (hb : Below w.heap.size w u) (ho : u.ownsRow w.heap.size 69 2 (.slice A (i4 + fn4) e) (i4 + fn4) (ms.flatMap qv ++ ms2.flatMap qv)) :
    CF W5 P Q ms ms2 E2 F2 E3 F3 E4 F4 i2 j2 fn2 fc2 i3 j3 fn3 fc3 i4 j4 fn4 fc4 ecs 4 b c x48 x49 x54 x55 x60 (.slice A (i4 + fn4) e) u :=
  have g := h.on hb
  ⟨g.bel, g.kv, fun _ => g.m4 (by omega), fun _ => g.m5 (by omega), g.m10, fun _ => g.m11 (by omega), g.m16, fun _ => ⟨_, _, rfl, own_less ho h.bel.size⟩⟩
end
set_option maxHeartbeats 32000000 in
set_option maxRecDepth 100000 in
theorem walk (r : RwV) (R : Rw) (r2 : RwV) (R2 : Rw) (a : Int) (w : World) (h : RwAt w w.heap.size r R) (h2 : RwAt w w.heap.size r2 R2) (wa : (Lit.int .u8 a).wf = true) (hT : Tab w) :
    Calls Tryd.prog 9 #[r.v R, r2.v R2, .int .u8 a] w fun e w' => e = .returned (.bool true) ∧ Below w.heap.size w w' := by
  have hg0 : 0 < w.heap.size := World.block_lt_of_cell? w _ (hT 0 (by omega))
  have mk := fun W (hw : Below w.heap.size w W) => made_any r R W (h.on hw)
  have mk2 := fun W (hw : Below w.heap.size w W) => made_any r2 R2 W (h2.on hw)
  have HSH := Lib.hid (fun (b : Bool) hb k u hk => shr_facts (chkP_mkP R) (chkP_mkP R2) (mkP_few R) (mkP_few R2) (mkP_sm R) (few128_of (mkP_32 R)) (mkP_fix6 R) b hb k u hk)
  have mf := mkP_few R
  have mf2 := mkP_few R2
  have hc := chkP_mkP R
  have sm := mkP_sm R
  obtain ⟨P, hP⟩ : ∃ P, Hid (P = mkP R) := ⟨_, Lib.hid rfl⟩
  obtain ⟨Q, hQ'⟩ : ∃ P, Hid (P = mkP R2) := ⟨_, Lib.hid rfl⟩
  rw [← hP.out] at mf mk hc sm HSH
  rw [← hQ'.out] at mf2 mk2 HSH
  have hcnP := fun q W (hW : Below w.heap.size w W) (h1 : PrAt W W.heap.size q P) => count_any q P 10000 W h1 (hT.below hW hg0) (fun _ => sm)
  rw [count_10000 hc sm] at hcnP
  have hcn := fun q P' (hs : SmP P') W (hW : Below w.heap.size w W) (h1 : PrAt W W.heap.size q P') => count_any q P' 10000 W h1 (hT.below hW hg0) (fun _ => hs)
  have hsv := fun q P' (hs : SmP P') W (hW : Below w.heap.size w W) (h1 : PrAt W W.heap.size q P') => solve_any q P' 0 W h1 (hT.below hW hg0) (fun _ => hs)
  have hva := fun q A n c l W (hW : Below w.heap.size w W) (h1 : PrAt W W.heap.size q P) hl hn hb => Valid_any q P A n c l W h1 hl hn hb (hT.below hW hg0)
  obtain ⟨a0, a1⟩ := wf_u8 wa
  obtain ⟨⟨A1, n1, c1⟩, ⟨A2, n2, c2⟩, ⟨A3, n3, c3⟩, ⟨A4, n4, c4⟩, ⟨A5, n5, c5⟩⟩ := r
  obtain ⟨⟨G1, pn1, pc1⟩, ⟨G2, pn2, pc2⟩, ⟨G3, pn3, pc3⟩, ⟨G4, pn4, pc4⟩, ⟨G5, pn5, pc5⟩⟩ := r2
  obtain ⟨st, hst⟩ : ∃ st, Hid (st = R.steps) := ⟨_, Lib.hid rfl⟩
  obtain ⟨st2, hst2⟩ : ∃ st, Hid (st = R2.steps) := ⟨_, Lib.hid rfl⟩
  unfold RwV.v Sl.v at mk mk2 ⊢
  simp only [] at mk mk2 ⊢
  rw [← hst.out] at mk ⊢
  rw [← hst2.out] at mk2 ⊢
  have SM := Lib.hid sm
  have HC := Lib.hid hc
  have MF := Lib.hid mf
  have MF2 := Lib.hid mf2
  clear h h2 mf mf2 sm hc
  go_enter Tryd.func9, Tryd.ntmps9
  go_wp2_with fail
  have r1 : Blk ((w.alloc (.cells #[.int .u8 (st : Int), .slice A1 n1 c1, .slice A2 n2 c2, .slice A3 n3 c3, .slice A4 n4 c4, .slice A5 n5 c5] 25)).alloc (.cells #[.int .u8 (st2 : Int), .slice G1 pn1 pc1, .slice G2 pn2 pc2, .slice G3 pn3 pc3, .slice G4 pn4 pc4, .slice G5 pn5 pc5] 25)) w.heap.size 25 #[.int .u8 (st : Int), .slice A1 n1 c1, .slice A2 n2 c2, .slice A3 n3 c3, .slice A4 n4 c4, .slice A5 n5 c5] := (Blk.new w 25 #[.int .u8 (st : Int), .slice A1 n1 c1, .slice A2 n2 c2, .slice A3 n3 c3, .slice A4 n4 c4, .slice A5 n5 c5]).alloc _
  have ra : Blk ((w.alloc (.cells #[.int .u8 (st : Int), .slice A1 n1 c1, .slice A2 n2 c2, .slice A3 n3 c3, .slice A4 n4 c4, .slice A5 n5 c5] 25)).alloc (.cells #[.int .u8 (st2 : Int), .slice G1 pn1 pc1, .slice G2 pn2 pc2, .slice G3 pn3 pc3, .slice G4 pn4 pc4, .slice G5 pn5 pc5] 25)) (w.heap.size + 1) 25 #[.int .u8 (st2 : Int), .slice G1 pn1 pc1, .slice G2 pn2 pc2, .slice G3 pn3 pc3, .slice G4 pn4 pc4, .slice G5 pn5 pc5] := Blk.mk' (by simp)
  have b1 : Below w.heap.size w ((w.alloc (.cells #[.int .u8 (st : Int), .slice A1 n1 c1, .slice A2 n2 c2, .slice A3 n3 c3, .slice A4 n4 c4, .slice A5 n5 c5] 25)).alloc (.cells #[.int .u8 (st2 : Int), .slice G1 pn1 pc1, .slice G2 pn2 pc2, .slice G3 pn3 pc3, .slice G4 pn4 pc4, .slice G5 pn5 pc5] 25)) := bAl (bAl (Below.refl w.heap.size w) _) _
  generalize ((w.alloc (.cells #[.int .u8 (st : Int), .slice A1 n1 c1, .slice A2 n2 c2, .slice A3 n3 c3, .slice A4 n4 c4, .slice A5 n5 c5] 25)).alloc (.cells #[.int .u8 (st2 : Int), .slice G1 pn1 pc1, .slice G2 pn2 pc2, .slice G3 pn3 pc3, .slice G4 pn4 pc4, .slice G5 pn5 pc5] 25)) = W0 at r1 ra b1 ⊢
  refine (awake_any W0 (hT.below b1 hg0)).mono ?_
  rintro e W1 ⟨rfl, ba⟩
  have r1 := r1.on ba
  have ra := ra.on ba
  have b1 := b1.trans (ba.mono b1.size)
  clear ba
  have x0 : W1.cell? ⟨w.heap.size, 0, none⟩ = some (.int .u8 (st : Int)) := (r1.cell 0).trans rfl
  have x1 : W1.cell? ⟨w.heap.size, 1, none⟩ = some (.slice A1 n1 c1) := (r1.cell 1).trans rfl
  have x2 : W1.cell? ⟨w.heap.size, 2, none⟩ = some (.slice A2 n2 c2) := (r1.cell 2).trans rfl
  have x3 : W1.cell? ⟨w.heap.size, 3, none⟩ = some (.slice A3 n3 c3) := (r1.cell 3).trans rfl
  have x4 : W1.cell? ⟨w.heap.size, 4, none⟩ = some (.slice A4 n4 c4) := (r1.cell 4).trans rfl
  have x5 : W1.cell? ⟨w.heap.size, 5, none⟩ = some (.slice A5 n5 c5) := (r1.cell 5).trans rfl
  go_wp2_with fail
  refine (mk W1 b1).mono ?_
  rintro e W2 ⟨⟨⟨E1, i1, j1⟩, ⟨E2, i2, j2⟩, ⟨E3, i3, j3⟩, ⟨E4, i4, j4⟩, ⟨E5, i5, j5⟩⟩, ⟨⟨B1, m1, d1⟩, ⟨B2, m2, d2⟩, ⟨B3, m3, d3⟩, ⟨B4, m4, d4⟩, ⟨B5, m5, d5⟩⟩, AL, nL, cL, rfl, ⟨xs, ms, hq⟩, hpl, oAL, hAL, bw2⟩
  have hza := bw2.size
  have ra := ra.on bw2
  have b2 := b1.trans (bw2.mono b1.size)
  simp only [PrV.v, Sl.v]
  clear x0 x1 x2 x3 x4 x5 r1 b1 mk bw2 hpl oAL hAL
  go_upto_region 4 with (fail)
  have kP4 : Blk ((W2.alloc (.cells #[.slice E1 i1 j1, .slice E2 i2 j2, .slice E3 i3 j3, .slice E4 i4 j4, .slice E5 i5 j5] 32)).alloc (.cells #[.slice B1 m1 d1, .slice B2 m2 d2, .slice B3 m3 d3, .slice B4 m4 d4, .slice B5 m5 d5] 36)) W2.heap.size 32 #[.slice E1 i1 j1, .slice E2 i2 j2, .slice E3 i3 j3, .slice E4 i4 j4, .slice E5 i5 j5] := Blk.alloc (Blk.mk' rfl) _
  have bk : Below W2.heap.size W2 ((W2.alloc (.cells #[.slice E1 i1 j1, .slice E2 i2 j2, .slice E3 i3 j3, .slice E4 i4 j4, .slice E5 i5 j5] 32)).alloc (.cells #[.slice B1 m1 d1, .slice B2 m2 d2, .slice B3 m3 d3, .slice B4 m4 d4, .slice B5 m5 d5] 36)) := bAl (bAl (Below.refl _ _) _) _
  generalize ((W2.alloc (.cells #[.slice E1 i1 j1, .slice E2 i2 j2, .slice E3 i3 j3, .slice E4 i4 j4, .slice E5 i5 j5] 32)).alloc (.cells #[.slice B1 m1 d1, .slice B2 m2 d2, .slice B3 m3 d3, .slice B4 m4 d4, .slice B5 m5 d5] 36)) = W3 at kP4 bk ⊢
  have hzb := bk.size
  have ra := ra.on bk
  have hq := hq.on bk
  have b3 := b2.trans (bk.mono b2.size)
  clear bk b2
  have x0 : W3.cell? ⟨w.heap.size + 1, 0, none⟩ = some (.int .u8 (st2 : Int)) := (ra.cell 0).trans rfl
  have x1 : W3.cell? ⟨w.heap.size + 1, 1, none⟩ = some (.slice G1 pn1 pc1) := (ra.cell 1).trans rfl
  have x2 : W3.cell? ⟨w.heap.size + 1, 2, none⟩ = some (.slice G2 pn2 pc2) := (ra.cell 2).trans rfl
  have x3 : W3.cell? ⟨w.heap.size + 1, 3, none⟩ = some (.slice G3 pn3 pc3) := (ra.cell 3).trans rfl
  have x4 : W3.cell? ⟨w.heap.size + 1, 4, none⟩ = some (.slice G4 pn4 pc4) := (ra.cell 4).trans rfl
  have x5 : W3.cell? ⟨w.heap.size + 1, 5, none⟩ = some (.slice G5 pn5 pc5) := (ra.cell 5).trans rfl
  go_wp2_with fail
  refine (mk2 W3 b3).mono ?_
  rintro e W4 ⟨⟨⟨F1, fn1, fc1⟩, ⟨F2, fn2, fc2⟩, ⟨F3, fn3, fc3⟩, ⟨F4, fn4, fc4⟩, ⟨F5, fn5, fc5⟩⟩, ⟨⟨D1, dn1, dc1⟩, ⟨D2, dn2, dc2⟩, ⟨D3, dn3, dc3⟩, ⟨D4, dn4, dc4⟩, ⟨D5, dn5, dc5⟩⟩, AM, nM, cM, rfl, ⟨xs2, ms2, hq2⟩, hpl, oAL, hAL, bw4⟩
  simp only [PrV.v, Sl.v]
  have hzc := bw4.size
  have kp := kP4.on bw4
  have hq := hq.on bw4
  have b4 := b3.trans (bw4.mono b3.size)
  clear x0 x1 x2 x3 x4 x5 ra mk2 kP4 b3 bw4 hpl oAL hAL
  go_upto_region 5 with (fail)
  have kq : Blk ((W4.alloc (.cells #[.slice F1 fn1 fc1, .slice F2 fn2 fc2, .slice F3 fn3 fc3, .slice F4 fn4 fc4, .slice F5 fn5 fc5] 32)).alloc (.cells #[.slice D1 dn1 dc1, .slice D2 dn2 dc2, .slice D3 dn3 dc3, .slice D4 dn4 dc4, .slice D5 dn5 dc5] 36)) W4.heap.size 32 #[.slice F1 fn1 fc1, .slice F2 fn2 fc2, .slice F3 fn3 fc3, .slice F4 fn4 fc4, .slice F5 fn5 fc5] := Blk.alloc (Blk.mk' rfl) _
  have bk : Below W4.heap.size W4 ((W4.alloc (.cells #[.slice F1 fn1 fc1, .slice F2 fn2 fc2, .slice F3 fn3 fc3, .slice F4 fn4 fc4, .slice F5 fn5 fc5] 32)).alloc (.cells #[.slice D1 dn1 dc1, .slice D2 dn2 dc2, .slice D3 dn3 dc3, .slice D4 dn4 dc4, .slice D5 dn5 dc5] 36)) := bAl (bAl (Below.refl _ _) _) _
  generalize ((W4.alloc (.cells #[.slice F1 fn1 fc1, .slice F2 fn2 fc2, .slice F3 fn3 fc3, .slice F4 fn4 fc4, .slice F5 fn5 fc5] 32)).alloc (.cells #[.slice D1 dn1 dc1, .slice D2 dn2 dc2, .slice D3 dn3 dc3, .slice D4 dn4 dc4, .slice D5 dn5 dc5] 36)) = W5 at kq bk ⊢
  have hz15 : W1.heap.size ≤ W5.heap.size := by have := bk.size; omega
  clear hza hzb hzc
  have kp := kp.on bk
  have hq := hq.on bk
  have hq2 := hq2.on bk
  have b5 := b4.trans (bk.mono b4.size)
  clear bk b4
  have x0 : W5.cell? ⟨W2.heap.size, 0, none⟩ = some (.slice E1 i1 j1) := (kp.cell 0).trans rfl
  have x1 : W5.cell? ⟨W2.heap.size, 1, none⟩ = some (.slice E2 i2 j2) := (kp.cell 1).trans rfl
  have x2 : W5.cell? ⟨W2.heap.size, 2, none⟩ = some (.slice E3 i3 j3) := (kp.cell 2).trans rfl
  have x3 : W5.cell? ⟨W2.heap.size, 3, none⟩ = some (.slice E4 i4 j4) := (kp.cell 3).trans rfl
  have x4 : W5.cell? ⟨W2.heap.size, 4, none⟩ = some (.slice E5 i5 j5) := (kp.cell 4).trans rfl
  go_upto_region 6 with (fail)
  have ks := Blk.new W5 32 #[.slice E1 i1 j1, .slice E2 i2 j2, .slice E3 i3 j3, .slice E4 i4 j4, .slice E5 i5 j5]
  have bk := bAl (Below.refl W5.heap.size W5) (.cells #[.slice E1 i1 j1, .slice E2 i2 j2, .slice E3 i3 j3, .slice E4 i4 j4, .slice E5 i5 j5] 32)
  have W56 : Below W5.heap.size W5 (W5.alloc (.cells #[.slice E1 i1 j1, .slice E2 i2 j2, .slice E3 i3 j3, .slice E4 i4 j4, .slice E5 i5 j5] 32)) := bk
  generalize (W5.alloc (.cells #[.slice E1 i1 j1, .slice E2 i2 j2, .slice E3 i3 j3, .slice E4 i4 j4, .slice E5 i5 j5] 32)) = W6 at ks bk W56 ⊢
  have kp6 := kp.on bk
  have kq6 := kq.on bk
  have hq6 := hq.on bk
  have hq62 := hq2.on bk
  have hgs : W5.heap.size < W6.heap.size := ks.lt
  clear x0 x1 x2 x3 x4
  have HQ := Lib.hid hq
  have HQ2 := Lib.hid hq2
  have KP := Lib.hid kp
  have KQ := Lib.hid kq
  have KPL := kp.lt
  have KQL := kq.lt
  clear hq hq2 kp kq bk
  have hlP : P.elig.length = i1 := hq6.at.l1
  have hlQ : Q.elig.length = fn1 := hq62.at.l1
  have HLP := Lib.hid hlP
  have HLQ := Lib.hid hlQ
  clear hlP hlQ
  have x0 : W6.cell? ⟨W2.heap.size, 0, none⟩ = some (.slice E1 i1 j1) := (kp6.cell 0).trans rfl
  have x1 : W6.cell? ⟨W2.heap.size, 1, none⟩ = some (.slice E2 i2 j2) := (kp6.cell 1).trans rfl
  have x2 : W6.cell? ⟨W2.heap.size, 2, none⟩ = some (.slice E3 i3 j3) := (kp6.cell 2).trans rfl
  have x3 : W6.cell? ⟨W2.heap.size, 3, none⟩ = some (.slice E4 i4 j4) := (kp6.cell 3).trans rfl
  have x4 : W6.cell? ⟨W2.heap.size, 4, none⟩ = some (.slice E5 i5 j5) := (kp6.cell 4).trans rfl
  have y0 : W6.cell? ⟨W4.heap.size, 0, none⟩ = some (.slice F1 fn1 fc1) := (kq6.cell 0).trans rfl
  have y1 : W6.cell? ⟨W4.heap.size, 1, none⟩ = some (.slice F2 fn2 fc2) := (kq6.cell 1).trans rfl
  have y2 : W6.cell? ⟨W4.heap.size, 2, none⟩ = some (.slice F3 fn3 fc3) := (kq6.cell 2).trans rfl
  have y3 : W6.cell? ⟨W4.heap.size, 3, none⟩ = some (.slice F4 fn4 fc4) := (kq6.cell 3).trans rfl
  have y4 : W6.cell? ⟨W4.heap.size, 4, none⟩ = some (.slice F5 fn5 fc5) := (kq6.cell 4).trans rfl
  go_upto_if 43 with (fail)
  obtain ⟨bb, hbb⟩ : ∃ bb : Bool, Hid (bb = decide (fn1 = i1)) := ⟨_, Lib.hid rfl⟩
  go_cut [] from 37 to 64 (fun wx => ∃ (V2 V3 V4 : Option Addr) (v2 z2 v3 z3 v4 z4 : Nat) (msx : List (Int × Value)), ShS W5 W1.heap.size W5.heap.size (moreP P Q bb) ⟨⟨E1, i1, j1⟩, ⟨V2, v2, z2⟩, ⟨V3, v3, z3⟩, ⟨V4, v4, z4⟩, ⟨E5, i5, j5⟩⟩ xs msx wx)
  case first =>
    by_cases hki : fn1 = i1
    · obtain rfl : i1 = fn1 := hki.symm
      obtain rfl : bb = true := by rw [hbb.out]; simp
      have q2 := hq6.b2
      have q3 := hq6.b3
      have q4 := hq6.b4
      have q5 := hq62.b2
      have q6 := hq62.b3
      have q7 := hq62.b4
      simp only at q2 q3 q4 q5 q6 q7
      have g2 : i2 ≤ 4 := by rw [← show P.dif.length = i2 from hq6.at.l2]; exact MF.out.d1
      have g3 : i3 ≤ 4 := by rw [← show P.sam.length = i3 from hq6.at.l3]; exact MF.out.s1
      have g4 : i4 ≤ 4 := by rw [← show P.mst.length = i4 from hq6.at.l4]; exact Nat.le_trans MF.out.m1 (by omega)
      have g5 : fn2 ≤ 4 := by rw [← show Q.dif.length = fn2 from hq62.at.l2]; exact MF2.out.d1
      have g6 : fn3 ≤ 4 := by rw [← show Q.sam.length = fn3 from hq62.at.l3]; exact MF2.out.s1
      have g7 : fn4 ≤ 4 := by rw [← show Q.mst.length = fn4 from hq62.at.l4]; exact Nat.le_trans MF2.out.m1 (by omega)
      have h1c := ones_qv HQ.out
      have h2c := ones_qv HQ2.out
      have cc2 := fun W g (hW : Below W5.heap.size W5 W) hk => concat2_pairs g i2 j2 fn2 fc2 E2 F2 _ _ W hk ((Sees.own HQ.out.o2 (by omega)).below hW |>.more hW.size) ((Sees.own HQ2.out.o2 (by omega)).below hW |>.more hW.size) HQ.out.o2.1 HQ2.out.o2.1 (oneCell_pv _) (oneCell_pv _) (by omega) (by omega)
      have cc3 := fun W g (hW : Below W5.heap.size W5 W) hk => concat2_pairs g i3 j3 fn3 fc3 E3 F3 _ _ W hk ((Sees.own HQ.out.o3 (by omega)).below hW |>.more hW.size) ((Sees.own HQ2.out.o3 (by omega)).below hW |>.more hW.size) HQ.out.o3.1 HQ2.out.o3.1 (oneCell_pv _) (oneCell_pv _) (by omega) (by omega)
      have cc4 := fun W g (hW : Below W5.heap.size W5 W) hk => concat2_most g i4 j4 fn4 fc4 E4 F4 _ _ W hk ((Sees.own HQ.out.o4 (by omega)).below hW |>.more hW.size) ((Sees.own HQ2.out.o4 (by omega)).below hW |>.more hW.size) HQ.out.o4.1 HQ2.out.o4.1 h1c h2c (by omega) (by omega)
      obtain ⟨SS, hSS⟩ : ∃ S : World → Prop, S = ((fun w' => w'.cell? ⟨W2.heap.size, 1, none⟩ = some (.slice E2 i2 j2) ∧ w'.cell? ⟨W2.heap.size, 2, none⟩ = some (.slice E3 i3 j3) ∧ w'.cell? ⟨W2.heap.size, 3, none⟩ = some (.slice E4 i4 j4) ∧ w'.cell? ⟨W4.heap.size, 1, none⟩ = some (.slice F2 fn2 fc2) ∧ w'.cell? ⟨W4.heap.size, 2, none⟩ = some (.slice F3 fn3 fc3) ∧ w'.cell? ⟨W4.heap.size, 3, none⟩ = some (.slice F4 fn4 fc4))) := ⟨_, rfl⟩
      have sB : ∀ W, Below W5.heap.size W5 W → SS W := fun W hW => by
        have k := KP.out.below hW KPL
        have kk := KQ.out.below hW KQL
        rw [hSS]
        exact ⟨(k.cell 1).trans rfl, (k.cell 2).trans rfl, (k.cell 3).trans rfl, (kk.cell 1).trans rfl, (kk.cell 2).trans rfl, (kk.cell 3).trans rfl⟩
      have qd : Below W5.heap.size W5 W6.drew := W56.drew
      have ksd : Blk W6.drew W5.heap.size 32 #[.slice E1 i1 j1, .slice E2 i2 j2, .slice E3 i3 j3, .slice E4 i4 j4, .slice E5 i5 j5] := ks.on (Below.refl _ _).drew
      have hgl : W5.heap.size ≤ W5.heap.size := Nat.le_refl _
      clear hq6 hq62 kp6 kq6 h1c h2c
      go_wp2_with fail
      refine wp_region_F noD SS (by kernel_rfl) (sB _ qd) (fun hHeld => ?_)
      generalize W6.drew = W7 at qd ksd hHeld ⊢
      refine wpAnyF_take (i := 0) (v := ?_) rfl (by kernel_rfl) (by kernel_rfl) (by kernel_rfl) (by kernel_rfl) (fun _ _ _ h => h) hHeld (Or.inl ⟨by rfl, ?_⟩) ?_
      rotate_left
      · (intro w hSw; (try rw [hSS] at hSw); (try dsimp only at hSw); go_simp; try with_reducible rfl)
      try simp only [Act.put, List.getElem_toArray, List.getElem_cons_zero, List.getElem_cons_succ, List.setIfInBounds_toArray, List.set_cons_zero, List.set_cons_succ]
      refine wpAnyF_take (i := 1) (v := ?_) rfl (by kernel_rfl) (by kernel_rfl) (by kernel_rfl) (by kernel_rfl) (fun _ _ _ h => h) hHeld (Or.inl ⟨by rfl, ?_⟩) ?_
      rotate_left
      · (intro w hSw; (try rw [hSS] at hSw); (try dsimp only at hSw); go_simp; try with_reducible rfl)
      try simp only [Act.put, List.getElem_toArray, List.getElem_cons_zero, List.getElem_cons_succ, List.setIfInBounds_toArray, List.set_cons_zero, List.set_cons_succ]
      refine wpAnyF_take (i := 2) (v := ?_) rfl (by kernel_rfl) (by kernel_rfl) (by kernel_rfl) (by kernel_rfl) (fun _ _ _ h => h) hHeld (Or.inl ⟨by rfl, ?_⟩) ?_
      rotate_left
      · (intro w hSw; (try rw [hSS] at hSw); (try dsimp only at hSw); go_simp; try with_reducible rfl)
      try simp only [Act.put, List.getElem_toArray, List.getElem_cons_zero, List.getElem_cons_succ, List.setIfInBounds_toArray, List.set_cons_zero, List.set_cons_succ]
      refine wpAnyF_take (i := 3) (v := ?_) rfl (by kernel_rfl) (by kernel_rfl) (by kernel_rfl) (by kernel_rfl) (fun _ _ _ h => h) hHeld (Or.inl ⟨by rfl, ?_⟩) ?_
      rotate_left
      · (intro w hSw; (try rw [hSS] at hSw); (try dsimp only at hSw); go_simp; try with_reducible rfl)
      try simp only [Act.put, List.getElem_toArray, List.getElem_cons_zero, List.getElem_cons_succ, List.setIfInBounds_toArray, List.set_cons_zero, List.set_cons_succ]
      refine wpAnyF_take (i := 6) (v := ?_) rfl (by kernel_rfl) (by kernel_rfl) (by kernel_rfl) (by kernel_rfl) (fun _ _ _ h => h) hHeld (Or.inl ⟨by rfl, ?_⟩) ?_
      rotate_left
      · (intro w hSw; (try rw [hSS] at hSw); (try dsimp only at hSw); go_simp; try with_reducible rfl)
      try simp only [Act.put, List.getElem_toArray, List.getElem_cons_zero, List.getElem_cons_succ, List.setIfInBounds_toArray, List.set_cons_zero, List.set_cons_succ]
      refine wpAnyF_take (i := 7) (v := ?_) rfl (by kernel_rfl) (by kernel_rfl) (by kernel_rfl) (by kernel_rfl) (fun _ _ _ h => h) hHeld (Or.inl ⟨by rfl, ?_⟩) ?_
      rotate_left
      · (intro w hSw; (try rw [hSS] at hSw); (try dsimp only at hSw); go_simp; try with_reducible rfl)
      try simp only [Act.put, List.getElem_toArray, List.getElem_cons_zero, List.getElem_cons_succ, List.setIfInBounds_toArray, List.set_cons_zero, List.set_cons_succ]
      refine wpAnyF_take (i := 8) (v := ?_) rfl (by kernel_rfl) (by kernel_rfl) (by kernel_rfl) (by kernel_rfl) (fun _ _ _ h => h) hHeld (Or.inl ⟨by rfl, ?_⟩) ?_
      rotate_left
      · (intro w hSw; (try rw [hSS] at hSw); (try dsimp only at hSw); go_simp; try with_reducible rfl)
      try simp only [Act.put, List.getElem_toArray, List.getElem_cons_zero, List.getElem_cons_succ, List.setIfInBounds_toArray, List.set_cons_zero, List.set_cons_succ]
      refine wpAnyF_take (i := 9) (v := ?_) rfl (by kernel_rfl) (by kernel_rfl) (by kernel_rfl) (by kernel_rfl) (fun _ _ _ h => h) hHeld (Or.inl ⟨by rfl, ?_⟩) ?_
      rotate_left
      · (intro w hSw; (try rw [hSS] at hSw); (try dsimp only at hSw); go_simp; try with_reducible rfl)
      try simp only [Act.put, List.getElem_toArray, List.getElem_cons_zero, List.getElem_cons_succ, List.setIfInBounds_toArray, List.set_cons_zero, List.set_cons_succ]
      refine wpAnyF_take (i := 12) (v := ?_) rfl (by kernel_rfl) (by kernel_rfl) (by kernel_rfl) (by kernel_rfl) (fun _ _ _ h => h) hHeld (Or.inl ⟨by rfl, ?_⟩) ?_
      rotate_left
      · (intro w hSw; (try rw [hSS] at hSw); (try dsimp only at hSw); go_simp; try with_reducible rfl)
      try simp only [Act.put, List.getElem_toArray, List.getElem_cons_zero, List.getElem_cons_succ, List.setIfInBounds_toArray, List.set_cons_zero, List.set_cons_succ]
      refine wpAnyF_take (i := 13) (v := ?_) rfl (by kernel_rfl) (by kernel_rfl) (by kernel_rfl) (by kernel_rfl) (fun _ _ _ h => h) hHeld (Or.inl ⟨by rfl, ?_⟩) ?_
      rotate_left
      · (intro w hSw; (try rw [hSS] at hSw); (try dsimp only at hSw); go_simp; try with_reducible rfl)
      try simp only [Act.put, List.getElem_toArray, List.getElem_cons_zero, List.getElem_cons_succ, List.setIfInBounds_toArray, List.set_cons_zero, List.set_cons_succ]
      refine wpAnyF_take (i := 14) (v := ?_) rfl (by kernel_rfl) (by kernel_rfl) (by kernel_rfl) (by kernel_rfl) (fun _ _ _ h => h) hHeld (Or.inl ⟨by rfl, ?_⟩) ?_
      rotate_left
      · (intro w hSw; (try rw [hSS] at hSw); (try dsimp only at hSw); go_simp; try with_reducible rfl)
      try simp only [Act.put, List.getElem_toArray, List.getElem_cons_zero, List.getElem_cons_succ, List.setIfInBounds_toArray, List.set_cons_zero, List.set_cons_succ]
      refine wpAnyF_take (i := 15) (v := ?_) rfl (by kernel_rfl) (by kernel_rfl) (by kernel_rfl) (by kernel_rfl) (fun _ _ _ h => h) hHeld (Or.inl ⟨by rfl, ?_⟩) ?_
      rotate_left
      · (intro w hSw; (try rw [hSS] at hSw); (try dsimp only at hSw); go_simp; try with_reducible rfl)
      try simp only [Act.put, List.getElem_toArray, List.getElem_cons_zero, List.getElem_cons_succ, List.setIfInBounds_toArray, List.set_cons_zero, List.set_cons_succ]
      refine (show WF _ _ _ SS 12 (lT 0 false false) _ _ from ?_)
      refine tri (S := SS) rfl rfl rfl rfl rfl rfl (fun k b c act wv => ∃ x48 x49 x54 x55 x60 x61 x62 : Value, act = ⟨#[.agg #[.int .u8 (st : Int), .slice A1 n1 c1, .slice A2 n2 c2, .slice A3 n3 c3, .slice A4 n4 c4, .slice A5 n5 c5], .agg #[.int .u8 (st2 : Int), .slice G1 pn1 pc1, .slice G2 pn2 pc2, .slice G3 pn3 pc3, .slice G4 pn4 pc4, .slice G5 pn5 pc5], .int .u8 a, .pointer (some ⟨w.heap.size, 0, none⟩), .pointer (some ⟨w.heap.size + 1, 0, none⟩), undef, .bool false, .pointer (some ⟨W2.heap.size, 0, none⟩), .pointer (some ⟨W2.heap.size + 1, 0, none⟩), .slice AL nL cL, .pointer (some ⟨W4.heap.size, 0, none⟩), .pointer (some ⟨W4.heap.size + 1, 0, none⟩), .slice AM nM cM, .pointer (some ⟨W5.heap.size, 0, none⟩), undef, undef, undef, undef, undef, undef, undef, undef, .bool true, .bool false, .tuple #[.agg #[.slice E1 i1 j1, .slice E2 i2 j2, .slice E3 i3 j3, .slice E4 i4 j4, .slice E5 i5 j5], .agg #[.slice B1 m1 d1, .slice B2 m2 d2, .slice B3 m3 d3, .slice B4 m4 d4, .slice B5 m5 d5], .slice AL nL cL], .agg #[.int .u8 (st : Int), .slice A1 n1 c1, .slice A2 n2 c2, .slice A3 n3 c3, .slice A4 n4 c4, .slice A5 n5 c5], .tuple #[.agg #[.slice E1 i1 j1, .slice E2 i2 j2, .slice E3 i3 j3, .slice E4 i4 j4, .slice E5 i5 j5], .agg #[.slice B1 m1 d1, .slice B2 m2 d2, .slice B3 m3 d3, .slice B4 m4 d4, .slice B5 m5 d5], .slice AL nL cL], .agg #[.slice E1 i1 j1, .slice E2 i2 j2, .slice E3 i3 j3, .slice E4 i4 j4, .slice E5 i5 j5], .agg #[.slice B1 m1 d1, .slice B2 m2 d2, .slice B3 m3 d3, .slice B4 m4 d4, .slice B5 m5 d5], .slice AL nL cL, .tuple #[.agg #[.slice F1 i1 fc1, .slice F2 fn2 fc2, .slice F3 fn3 fc3, .slice F4 fn4 fc4, .slice F5 fn5 fc5], .agg #[.slice D1 dn1 dc1, .slice D2 dn2 dc2, .slice D3 dn3 dc3, .slice D4 dn4 dc4, .slice D5 dn5 dc5], .slice AM nM cM], .agg #[.int .u8 (st2 : Int), .slice G1 pn1 pc1, .slice G2 pn2 pc2, .slice G3 pn3 pc3, .slice G4 pn4 pc4, .slice G5 pn5 pc5], .tuple #[.agg #[.slice F1 i1 fc1, .slice F2 fn2 fc2, .slice F3 fn3 fc3, .slice F4 fn4 fc4, .slice F5 fn5 fc5], .agg #[.slice D1 dn1 dc1, .slice D2 dn2 dc2, .slice D3 dn3 dc3, .slice D4 dn4 dc4, .slice D5 dn5 dc5], .slice AM nM cM], .agg #[.slice F1 i1 fc1, .slice F2 fn2 fc2, .slice F3 fn3 fc3, .slice F4 fn4 fc4, .slice F5 fn5 fc5], .agg #[.slice D1 dn1 dc1, .slice D2 dn2 dc2, .slice D3 dn3 dc3, .slice D4 dn4 dc4, .slice D5 dn5 dc5], .slice AM nM cM, .agg #[.slice E1 i1 j1, .slice E2 i2 j2, .slice E3 i3 j3, .slice E4 i4 j4, .slice E5 i5 j5], .pointer (some ⟨W4.heap.size, 0, none⟩), .slice F1 i1 fc1, .int .i64 (i1 : Int), .pointer (some ⟨W2.heap.size, 0, none⟩), .slice E1 i1 j1, .int .i64 (i1 : Int), .bool true, .pointer (some ⟨W2.heap.size, 1, none⟩), .slice E2 i2 j2, .pointer (some ⟨W4.heap.size, 1, none⟩), .slice F2 fn2 fc2, x48, x49, .pointer (some ⟨W2.heap.size, 2, none⟩), .slice E3 i3 j3, .pointer (some ⟨W4.heap.size, 2, none⟩), .slice F3 fn3 fc3, x54, x55, .pointer (some ⟨W2.heap.size, 3, none⟩), .slice E4 i4 j4, .pointer (some ⟨W4.heap.size, 3, none⟩), .slice F4 fn4 fc4, x60, x61, x62, undef, undef, undef, undef, undef, undef, undef, undef, undef, undef, undef, undef, undef, undef, undef, undef, undef, undef, undef, undef, undef, undef, undef, undef, undef, undef, undef, undef, undef, undef, undef, undef, undef, undef, undef, undef, undef, undef, undef, undef, undef, undef, undef, undef, undef, undef, undef, undef, undef, undef, undef, undef, undef, undef, undef, undef, undef, undef, undef, undef, undef, undef, undef, undef, undef, undef, undef, undef, undef, undef, undef, undef, undef, undef], []⟩ ∧ CF W5 P Q ms ms2 E2 F2 E3 F3 E4 F4 i2 j2 fn2 fc2 i3 j3 fn3 fc3 i4 j4 fn4 fc4 #[.slice E1 i1 j1, .slice E2 i2 j2, .slice E3 i3 j3, .slice E4 i4 j4, .slice E5 i5 j5] k b c x48 x49 x54 x55 x60 x61 wv ∧ (2 ≤ k → x62 = .pointer (some ⟨W5.heap.size, 1, none⟩))) (fun b c act wv => ∃ x48 x49 x54 x55 x60 x61 x62 : Value, act = ⟨#[.agg #[.int .u8 (st : Int), .slice A1 n1 c1, .slice A2 n2 c2, .slice A3 n3 c3, .slice A4 n4 c4, .slice A5 n5 c5], .agg #[.int .u8 (st2 : Int), .slice G1 pn1 pc1, .slice G2 pn2 pc2, .slice G3 pn3 pc3, .slice G4 pn4 pc4, .slice G5 pn5 pc5], .int .u8 a, .pointer (some ⟨w.heap.size, 0, none⟩), .pointer (some ⟨w.heap.size + 1, 0, none⟩), undef, .bool false, .pointer (some ⟨W2.heap.size, 0, none⟩), .pointer (some ⟨W2.heap.size + 1, 0, none⟩), .slice AL nL cL, .pointer (some ⟨W4.heap.size, 0, none⟩), .pointer (some ⟨W4.heap.size + 1, 0, none⟩), .slice AM nM cM, .pointer (some ⟨W5.heap.size, 0, none⟩), undef, undef, undef, undef, undef, undef, undef, undef, .bool true, .bool false, .tuple #[.agg #[.slice E1 i1 j1, .slice E2 i2 j2, .slice E3 i3 j3, .slice E4 i4 j4, .slice E5 i5 j5], .agg #[.slice B1 m1 d1, .slice B2 m2 d2, .slice B3 m3 d3, .slice B4 m4 d4, .slice B5 m5 d5], .slice AL nL cL], .agg #[.int .u8 (st : Int), .slice A1 n1 c1, .slice A2 n2 c2, .slice A3 n3 c3, .slice A4 n4 c4, .slice A5 n5 c5], .tuple #[.agg #[.slice E1 i1 j1, .slice E2 i2 j2, .slice E3 i3 j3, .slice E4 i4 j4, .slice E5 i5 j5], .agg #[.slice B1 m1 d1, .slice B2 m2 d2, .slice B3 m3 d3, .slice B4 m4 d4, .slice B5 m5 d5], .slice AL nL cL], .agg #[.slice E1 i1 j1, .slice E2 i2 j2, .slice E3 i3 j3, .slice E4 i4 j4, .slice E5 i5 j5], .agg #[.slice B1 m1 d1, .slice B2 m2 d2, .slice B3 m3 d3, .slice B4 m4 d4, .slice B5 m5 d5], .slice AL nL cL, .tuple #[.agg #[.slice F1 i1 fc1, .slice F2 fn2 fc2, .slice F3 fn3 fc3, .slice F4 fn4 fc4, .slice F5 fn5 fc5], .agg #[.slice D1 dn1 dc1, .slice D2 dn2 dc2, .slice D3 dn3 dc3, .slice D4 dn4 dc4, .slice D5 dn5 dc5], .slice AM nM cM], .agg #[.int .u8 (st2 : Int), .slice G1 pn1 pc1, .slice G2 pn2 pc2, .slice G3 pn3 pc3, .slice G4 pn4 pc4, .slice G5 pn5 pc5], .tuple #[.agg #[.slice F1 i1 fc1, .slice F2 fn2 fc2, .slice F3 fn3 fc3, .slice F4 fn4 fc4, .slice F5 fn5 fc5], .agg #[.slice D1 dn1 dc1, .slice D2 dn2 dc2, .slice D3 dn3 dc3, .slice D4 dn4 dc4, .slice D5 dn5 dc5], .slice AM nM cM], .agg #[.slice F1 i1 fc1, .slice F2 fn2 fc2, .slice F3 fn3 fc3, .slice F4 fn4 fc4, .slice F5 fn5 fc5], .agg #[.slice D1 dn1 dc1, .slice D2 dn2 dc2, .slice D3 dn3 dc3, .slice D4 dn4 dc4, .slice D5 dn5 dc5], .slice AM nM cM, .agg #[.slice E1 i1 j1, .slice E2 i2 j2, .slice E3 i3 j3, .slice E4 i4 j4, .slice E5 i5 j5], .pointer (some ⟨W4.heap.size, 0, none⟩), .slice F1 i1 fc1, .int .i64 (i1 : Int), .pointer (some ⟨W2.heap.size, 0, none⟩), .slice E1 i1 j1, .int .i64 (i1 : Int), .bool true, .pointer (some ⟨W2.heap.size, 1, none⟩), .slice E2 i2 j2, .pointer (some ⟨W4.heap.size, 1, none⟩), .slice F2 fn2 fc2, x48, x49, .pointer (some ⟨W2.heap.size, 2, none⟩), .slice E3 i3 j3, .pointer (some ⟨W4.heap.size, 2, none⟩), .slice F3 fn3 fc3, x54, x55, .pointer (some ⟨W2.heap.size, 3, none⟩), .slice E4 i4 j4, .pointer (some ⟨W4.heap.size, 3, none⟩), .slice F4 fn4 fc4, x60, x61, x62, undef, undef, undef, undef, undef, undef, undef, undef, undef, undef, undef, undef, undef, undef, undef, undef, undef, undef, undef, undef, undef, undef, undef, undef, undef, undef, undef, undef, undef, undef, undef, undef, undef, undef, undef, undef, undef, undef, undef, undef, undef, undef, undef, undef, undef, undef, undef, undef, undef, undef, undef, undef, undef, undef, undef, undef, undef, undef, undef, undef, undef, undef, undef, undef, undef, undef, undef, undef, undef, undef, undef, undef, undef, undef], []⟩ ∧ CF W5 P Q ms ms2 E2 F2 E3 F3 E4 F4 i2 j2 fn2 fc2 i3 j3 fn3 fc3 i4 j4 fn4 fc4 #[.slice E1 i1 j1, .slice E2 i2 j2, .slice E3 i3 j3, .slice E4 i4 j4, .slice E5 i5 j5] 2 b c x48 x49 x54 x55 x60 x61 wv) (by kernel_rfl) (by kernel_rfl) (by kernel_rfl) (by kernel_rfl) (by kernel_rfl) (by kernel_rfl) (by kernel_rfl) (by kernel_rfl) (by kernel_rfl) (by kernel_rfl) (by kernel_rfl) (by kernel_rfl) (by kernel_rfl) (by kernel_rfl) ?_ ?_ ?_ ?_ ?_ ?_ ?_ ?_ ?_ ?_ ?_
      · intro b c a wv h
        obtain ⟨x48, x49, x54, x55, x60, x61, x62, rfl, hJ, h62⟩ := h
        intro K hK
        go_simp
        exact hK.out _ _ ⟨_, x49, x54, x55, x60, x61, x62, rfl, hJ.s4, fun e => by omega⟩
      · intro b c a wv h
        obtain ⟨x48, x49, x54, x55, x60, x61, x62, rfl, hJ, h62⟩ := h
        obtain ⟨g, rfl, hk⟩ := hJ.m4 (by omega)
        intro K hK
        go_simp
        go_at_call 28
        refine (cc2 wv g hJ.bel hk).mono ?_
        rintro e u ⟨A', e', rfl, ho, hb⟩
        simp only []
        exact hK.out _ _ ⟨_, _, x54, x55, x60, x61, x62, rfl, hJ.s5 hb ho⟩
      · intro b c f a wv h hn
        obtain ⟨x48, x49, x54, x55, x60, x61, x62, rfl, hJ⟩ := h
        have hHeld := sB wv hJ.bel
        cases b <;> cases c
        all_goals (
          unfold WF l5
          refine wpAnyF_take (i := 18) (v := ?_) rfl (by kernel_rfl) (by kernel_rfl) (by kernel_rfl) (by kernel_rfl) (fun _ _ _ h => h) hHeld (Or.inl ⟨by rfl, ?_⟩) ?_
          rotate_left
          · (intro w hSw; (try rw [hSS] at hSw); (try dsimp only at hSw); go_simp; try with_reducible rfl)
          try simp only [Act.put, List.getElem_toArray, List.getElem_cons_zero, List.getElem_cons_succ, List.setIfInBounds_toArray, List.set_cons_zero, List.set_cons_succ]
          exact hn _ _ ⟨x48, x49, x54, x55, x60, x61, _, rfl, hJ, fun _ => rfl⟩)
      · intro c a wv h
        obtain ⟨x48, x49, x54, x55, x60, x61, x62, rfl, hJ, h62⟩ := h
        obtain ⟨g, rfl, hk⟩ := hJ.m10 rfl
        have H62 := Lib.hid h62
        clear h62
        intro K hK
        go_simp
        go_at_call 28
        refine (cc3 wv g hJ.bel hk).mono ?_
        rintro e u ⟨A', e', rfl, ho, hb⟩
        simp only []
        exact hK.out _ _ ⟨x48, x49, _, _, x60, x61, x62, rfl, hJ.s11 hb ho, fun e => H62.out (by omega)⟩
      · intro a wv h
        obtain ⟨x48, x49, x54, x55, x60, x61, x62, rfl, hJ, h62⟩ := h
        obtain ⟨g, rfl, hk⟩ := hJ.m16 rfl
        have H62 := Lib.hid h62
        clear h62
        intro K hK
        go_simp
        go_at_call 29
        refine (cc4 wv g hJ.bel hk).mono ?_
        rintro e u ⟨A', e', rfl, ho, hb⟩
        simp only []
        exact hK.out _ _ ⟨x48, x49, x54, x55, _, _, x62, rfl, hJ.s17 hb ho, fun e => H62.out (by omega)⟩
      · intro k c a wv h
        obtain ⟨x48, x49, x54, x55, x60, x61, x62, rfl, hJ, h62⟩ := h
        intro K hK
        go_simp
        exact hK.out _ _ ⟨x48, x49, _, x55, x60, x61, x62, rfl, hJ.s10, h62⟩
      · intro k b a wv h
        obtain ⟨x48, x49, x54, x55, x60, x61, x62, rfl, hJ, h62⟩ := h
        intro K hK
        go_simp
        exact hK.out _ _ ⟨x48, x49, x54, x55, _, x61, x62, rfl, hJ.s16, h62⟩
      · intro k b c a wv h
        obtain ⟨x48, x49, x54, x55, x60, x61, x62, rfl, hJ, h62⟩ := h
        exact sB _ hJ.bel
      · intro b c a wv h
        obtain ⟨x48, x49, x54, x55, x60, x61, x62, rfl, hJ⟩ := h
        exact sB _ hJ.bel
      · intro a wv h
        obtain ⟨x48, x49, x54, x55, x60, x61, x62, rfl, hJ, h62⟩ := h
        obtain rfl := h62 (by omega)
        obtain ⟨A2', e2, rfl, o2⟩ := hJ.m5 (by omega)
        obtain ⟨A3', e3, rfl, o3⟩ := hJ.m11 (by omega)
        obtain ⟨A4', e4, rfl, o4⟩ := hJ.m17 (by omega)
        have hbv := hJ.bel
        have hkv := hJ.kv
        have hz : W5.heap.size ≤ W5.heap.size := Nat.le_refl _
        have z1 : wv.cell? ⟨W5.heap.size, 1, none⟩ = some (.slice E2 i2 j2) := (hkv.cell 1).trans rfl
        have z2 : wv.cell? ⟨W5.heap.size, 2, none⟩ = some (.slice E3 i3 j3) := (hkv.cell 2).trans rfl
        have z3 : wv.cell? ⟨W5.heap.size, 3, none⟩ = some (.slice E4 i4 j4) := (hkv.cell 3).trans rfl
        have f1 := hkv.frozen 1
        have f2 := hkv.frozen 2
        have f3 := hkv.frozen 3
        have R9 := sh_close hz15 (by omega) (by omega) (by omega) HQ.out HQ2.out hbv (Nat.le_refl _) hkv o2 o3 o4
        clear hJ o2 o3 o4
        unfold WF lT
        refine wpAnyF_one (i := 19) (by kernel_rfl) rfl (fun K hK => ?_)
        go_simp
        refine hK.out _ _ (Or.inr (sB _ (hbv.setCell (p := ⟨W5.heap.size, 1, none⟩) hz _))) ?_
        clear hK K
        try simp only [Act.put, List.getElem_toArray, List.getElem_cons_zero, List.getElem_cons_succ, List.setIfInBounds_toArray, List.set_cons_zero, List.set_cons_succ]
        refine wpAnyF_one (i := 20) (by kernel_rfl) rfl (fun K hK => ?_)
        go_simp
        refine hK.out _ _ (Or.inr (sB _ (hbv.setCell (p := ⟨W5.heap.size, 1, none⟩) hz _))) ?_
        clear hK K
        try simp only [Act.put, List.getElem_toArray, List.getElem_cons_zero, List.getElem_cons_succ, List.setIfInBounds_toArray, List.set_cons_zero, List.set_cons_succ]
        refine wpAnyF_one (i := 21) (by kernel_rfl) rfl (fun K hK => ?_)
        go_simp
        refine hK.out _ _ (Or.inr (sB _ ((hbv.setCell (p := ⟨W5.heap.size, 1, none⟩) hz _).setCell (p := ⟨W5.heap.size, 2, none⟩) hz _))) ?_
        clear hK K
        try simp only [Act.put, List.getElem_toArray, List.getElem_cons_zero, List.getElem_cons_succ, List.setIfInBounds_toArray, List.set_cons_zero, List.set_cons_succ]
        refine wpAnyF_one (i := 22) (by kernel_rfl) rfl (fun K hK => ?_)
        go_simp
        refine hK.out _ _ (Or.inr (sB _ ((hbv.setCell (p := ⟨W5.heap.size, 1, none⟩) hz _).setCell (p := ⟨W5.heap.size, 2, none⟩) hz _))) ?_
        clear hK K
        try simp only [Act.put, List.getElem_toArray, List.getElem_cons_zero, List.getElem_cons_succ, List.setIfInBounds_toArray, List.set_cons_zero, List.set_cons_succ]
        refine wpAnyF_one (i := 23) (by kernel_rfl) rfl (fun K hK => ?_)
        go_simp
        refine hK.out _ _ (Or.inr (sB _ (((hbv.setCell (p := ⟨W5.heap.size, 1, none⟩) hz _).setCell (p := ⟨W5.heap.size, 2, none⟩) hz _).setCell (p := ⟨W5.heap.size, 3, none⟩) hz _))) ?_
        clear hK K
        try simp only [Act.put, List.getElem_toArray, List.getElem_cons_zero, List.getElem_cons_succ, List.setIfInBounds_toArray, List.set_cons_zero, List.set_cons_succ]
        refine wpAnyF_done (by kernel_rfl) ?_ _
        go_wp2_with fail
        go_meet
        exact ⟨_, _, _, _, _, _, _, _, _, _, R9⟩
      · exact ⟨_, _, _, _, _, _, _, rfl, ⟨qd, ksd, (fun e => absurd e (by omega)), (fun e => absurd e (by omega)), (fun e => Bool.noConfusion e), (fun e => absurd e (by omega)), (fun e => Bool.noConfusion e), (fun e => absurd e (by omega))⟩, (fun e => absurd e (by omega))⟩
    · have hkb : ((fn1 : Int) == (i1 : Int)) = false := beq_false_of_ne (by omega)
      obtain rfl : bb = false := by rw [hbb.out]; simpa using hki
      go_wp2_with fail
      go_meet
      exact ⟨E2, E3, E4, i2, j2, i3, j3, i4, j4, ms, ks, by rw [moreP_no]; exact hq6, W56⟩
  case rest =>
    obtain ⟨V2, V3, V4, v2, z2, v3, z3, v4, z4, msx, hS⟩ := hcut
    have hSb := hS.bel
    have k8 := KP.out.below hSb KPL
    have hn1 := hS.own.b1
    simp only at hn1
    have hi0 : 1 ≤ i1 := by rw [← HLP.out]; exact MF.out.e0
    have hi5 : i1 ≤ 5 := by rw [← HLP.out]; exact SM.out.1
    have hcl := cloneSet_any E1 i1 j1 xs wc (Sees.own hS.own.o1 (by omega)) hS.own.o1.1 (ones_xs hS.own) (by omega)
    have x0 : wc.cell? ⟨W2.heap.size, 0, none⟩ = some (.slice E1 i1 j1) := (k8.cell 0).trans rfl
    go_wp2_with fail
    refine hcl.mono ?_
    rintro e u1 ⟨A9, e9, rfl, o9, b9⟩
    have kg := hS.blk.on b9
    simp only [Sl.v] at kg
    have y0 : u1.cell? ⟨W5.heap.size, 0, none⟩ = some (.slice E1 i1 j1) := (kg.cell 0).trans rfl
    have fy0 := kg.frozen 0
    have HS := Lib.hid hS
    clear x0 hcl hS k8 hn1
    go_upto_region 9 with (fail)
    have kg2 : Blk (u1.setCell ⟨W5.heap.size, 0, none⟩ (.slice A9 i1 e9)) W5.heap.size 32 #[.slice A9 i1 e9, .slice V2 v2 z2, .slice V3 v3 z3, .slice V4 v4 z4, .slice E5 i5 j5] := by simpa using kg.put 0 (.slice A9 i1 e9)
    have o92 := ownsRow_setCell_other o9 (a := ⟨W5.heap.size, 0, none⟩) (own_off o9 kg (by decide)) (.slice A9 i1 e9)
    have ow2 := OwnQ.put (i := 0) (u := .slice A9 i1 e9) (HS.out.own.on b9) kg (by decide)
    have bu2 : Below W5.heap.size W5 (u1.setCell ⟨W5.heap.size, 0, none⟩ (.slice A9 i1 e9)) := (hSb.trans (b9.mono hSb.size)).setCell (p := ⟨W5.heap.size, 0, none⟩) (Nat.le_refl _) _
    have hwc := hSb.size
    clear y0 fy0 kg o9 b9 hSb HS
    generalize (u1.setCell ⟨W5.heap.size, 0, none⟩ (.slice A9 i1 e9)) = u2 at kg2 o92 ow2 bu2 ⊢
    obtain ⟨k, hk⟩ : ∃ k : Nat, Hid (k = a.toNat % i1) := ⟨_, Lib.hid rfl⟩
    have hki : k < i1 := by rw [hk.out]; exact Nat.mod_lt _ (by omega)
    have hki' : (k : Int) < (i1 : Int) := by omega
    have htm : a.tmod (i1 : Int) = (k : Int) := by rw [Int.tmod_eq_emod_of_nonneg a0, hk.out, Int.natCast_emod, Int.toNat_of_nonneg a0]
    have hw1 : IntKind.i64.wrap a = a := IntWalk.i64_in _ (by omega)
    have hn0 : ¬ ((i1 : Int) = 0) := by omega
    have hn00 : ¬ (i1 = 0) := by omega
    have hnb : ((i1 : Int) == 0) = false := beq_false_of_ne hn0
    obtain ⟨M, hM⟩ : ∃ M, P.elig[k]? = some M := ⟨_, List.getElem?_eq_getElem (by rw [HLP.out]; exact hki)⟩
    obtain ⟨X, hX, sX⟩ := ow2.s1 k M hM
    obtain ⟨g9, cs9, rfl, hg9, kb9⟩ := own_blk o92 (by omega)
    have hc9 : u2.cell? ⟨g9, k, none⟩ = some X := by
      obtain ⟨b, o, e, hb, hc⟩ := Sees.own o92 (by omega) (by intro e; rw [e] at hX; simp at hX)
      injection e with e
      injection e with e1 e2
      subst e1 e2
      have := hc k X hX
      rwa [Nat.zero_add] at this
    obtain ⟨Av, nv, cv, rfl, sX'⟩ : ∃ A n c, X = .slice A n c ∧ SetAt u2 u2.heap.size (.agg #[.slice A n c]) M := by
      obtain ⟨A, n, c, e, h⟩ := id sX
      obtain rfl : X = .slice A n c := by simpa using e
      exact ⟨A, n, c, rfl, sX⟩
    obtain ⟨us, hus⟩ : ∃ u : Nat, Hid (u = a.toNat / 16) := ⟨_, Lib.hid rfl⟩
    obtain ⟨u0, hu0⟩ : ∃ u : Nat, Hid (u = us % 4) := ⟨_, Lib.hid rfl⟩
    have hsh : a / 16 = (us : Int) := by rw [hus.out]; omega
    have htu : (us : Int).tmod 4 = (u0 : Int) := by rw [Int.tmod_eq_emod_of_nonneg (by omega), hu0.out]; omega
    obtain ⟨u, hu⟩ : ∃ u : Nat, Hid (u = 1 + u0) := ⟨_, Lib.hid rfl⟩
    have hu04 : u0 < 4 := by have := hu0.out; omega
    have hu1 : 1 ≤ u ∧ u ≤ 4 := by rw [hu.out]; omega
    have hu1' : (1 : Int) + (u0 : Int) = (u : Int) := by rw [hu.out]; omega
    have hus15 : us ≤ 15 := by rw [hus.out]; omega
    have hwus : IntKind.i64.wrap (us : Int) = (us : Int) := IntWalk.i64_in _ (by omega)
    have hwu : IntKind.i64.wrap (u : Int) = (u : Int) := IntWalk.i64_in _ (by omega)
    have HM := Lib.hid hM
    have HX := Lib.hid hX
    have bd : Below u2.heap.size u2 u2.drew := (Below.refl _ _).drew
    obtain ⟨SS, hSS⟩ : ∃ S : World → Prop, S = (fun W => W.cell? ⟨W5.heap.size, 0, none⟩ = some (.slice (some ⟨g9, 0, none⟩) i1 e9) ∧ W.cell? ⟨g9, k, none⟩ = some (.slice Av nv cv)) := ⟨_, rfl⟩
    have sB : ∀ W, Below u2.heap.size u2 W → SS W := fun W hW => by rw [hSS]; exact ⟨((kg2.on hW).cell 0).trans rfl, (hW.cell (p := ⟨g9, k, none⟩) kb9.lt).trans hc9⟩
    clear hM hX sX hus hu0 hu hk
    refine wp_region_F (fun i => i == 25) SS (by kernel_rfl) (sB _ bd) (fun hHeld => ?_)
    generalize hu3 : u2.drew = u3 at bd hHeld ⊢
    clear hu3
    refine wpAnyF_take (i := 0) (v := ?_) rfl (by kernel_rfl) (by kernel_rfl) (by kernel_rfl) (by kernel_rfl) (fun _ _ _ h => h) hHeld (Or.inl ⟨by rfl, ?_⟩) ?_
    rotate_left
    · (intro w hSw; (try rw [hSS] at hSw); (try dsimp only at hSw); go_simp; try with_reducible rfl)
    try simp only [Act.put, List.getElem_toArray, List.getElem_cons_zero, List.getElem_cons_succ, List.setIfInBounds_toArray, List.set_cons_zero, List.set_cons_succ]
    refine wpAnyF_take (i := 1) (v := ?_) rfl (by kernel_rfl) (by kernel_rfl) (by kernel_rfl) (by kernel_rfl) (fun _ _ _ h => h) hHeld (Or.inl ⟨by rfl, ?_⟩) ?_
    rotate_left
    · (intro w hSw; (try rw [hSS] at hSw); (try dsimp only at hSw); go_simp; try with_reducible rfl)
    try simp only [Act.put, List.getElem_toArray, List.getElem_cons_zero, List.getElem_cons_succ, List.setIfInBounds_toArray, List.set_cons_zero, List.set_cons_succ]
    refine wpAnyF_take (i := 2) (v := ?_) rfl (by kernel_rfl) (by kernel_rfl) (by kernel_rfl) (by kernel_rfl) (fun _ _ _ h => h) hHeld (Or.inl ⟨by rfl, ?_⟩) ?_
    rotate_left
    · (intro w hSw; (try rw [hSS] at hSw); (try dsimp only at hSw); go_simp; try with_reducible rfl)
    try simp only [Act.put, List.getElem_toArray, List.getElem_cons_zero, List.getElem_cons_succ, List.setIfInBounds_toArray, List.set_cons_zero, List.set_cons_succ]
    refine wpAnyF_take (i := 3) (v := ?_) rfl (by kernel_rfl) (by kernel_rfl) (by kernel_rfl) (by kernel_rfl) (fun _ _ _ h => h) hHeld (Or.inl ⟨by rfl, ?_⟩) ?_
    rotate_left
    · (intro w hSw; (try rw [hSS] at hSw); (try dsimp only at hSw); go_simp; try with_reducible rfl)
    try simp only [Act.put, List.getElem_toArray, List.getElem_cons_zero, List.getElem_cons_succ, List.setIfInBounds_toArray, List.set_cons_zero, List.set_cons_succ]
    refine wpAnyF_take (i := 4) (v := ?_) rfl (by kernel_rfl) (by kernel_rfl) (by kernel_rfl) (by kernel_rfl) (fun _ _ _ h => h) hHeld (Or.inl ⟨by rfl, ?_⟩) ?_
    rotate_left
    · (intro w hSw; (try rw [hSS] at hSw); (try dsimp only at hSw); go_simp; try with_reducible rfl)
    try simp only [Act.put, List.getElem_toArray, List.getElem_cons_zero, List.getElem_cons_succ, List.setIfInBounds_toArray, List.set_cons_zero, List.set_cons_succ]
    refine wpAnyF_take (i := 5) (v := ?_) rfl (by kernel_rfl) (by kernel_rfl) (by kernel_rfl) (by kernel_rfl) (fun _ _ _ h => h) hHeld (Or.inl ⟨by rfl, ?_⟩) ?_
    rotate_left
    · (intro w hSw; (try rw [hSS] at hSw); (try dsimp only at hSw); go_simp; try with_reducible rfl)
    try simp only [Act.put, List.getElem_toArray, List.getElem_cons_zero, List.getElem_cons_succ, List.setIfInBounds_toArray, List.set_cons_zero, List.set_cons_succ]
    refine wpAnyF_take (i := 6) (v := ?_) rfl (by kernel_rfl) (by kernel_rfl) (by kernel_rfl) (by kernel_rfl) (fun _ _ _ h => h) hHeld (Or.inl ⟨by rfl, ?_⟩) ?_
    rotate_left
    · (intro w hSw; (try rw [hSS] at hSw); (try dsimp only at hSw); go_simp; try with_reducible rfl)
    try simp only [Act.put, List.getElem_toArray, List.getElem_cons_zero, List.getElem_cons_succ, List.setIfInBounds_toArray, List.set_cons_zero, List.set_cons_succ]
    refine wpAnyF_take (i := 7) (v := ?_) rfl (by kernel_rfl) (by kernel_rfl) (by kernel_rfl) (by kernel_rfl) (fun _ _ _ h => h) hHeld (Or.inl ⟨by rfl, ?_⟩) ?_
    rotate_left
    · (intro w hSw; (try rw [hSS] at hSw); (try dsimp only at hSw); go_simp; try with_reducible rfl)
    try simp only [Act.put, List.getElem_toArray, List.getElem_cons_zero, List.getElem_cons_succ, List.setIfInBounds_toArray, List.set_cons_zero, List.set_cons_succ]
    refine wpAnyF_take (i := 8) (v := ?_) rfl (by kernel_rfl) (by kernel_rfl) (by kernel_rfl) (by kernel_rfl) (fun _ _ _ h => h) hHeld (Or.inl ⟨by rfl, ?_⟩) ?_
    rotate_left
    · (intro w hSw; (try rw [hSS] at hSw); (try dsimp only at hSw); go_simp; try with_reducible rfl)
    try simp only [Act.put, List.getElem_toArray, List.getElem_cons_zero, List.getElem_cons_succ, List.setIfInBounds_toArray, List.set_cons_zero, List.set_cons_succ]
    refine wpAnyF_take (i := 9) (v := ?_) rfl (by kernel_rfl) (by kernel_rfl) (by kernel_rfl) (by kernel_rfl) (fun _ _ _ h => h) hHeld (Or.inl ⟨by rfl, ?_⟩) ?_
    rotate_left
    · (intro w hSw; (try rw [hSS] at hSw); (try dsimp only at hSw); go_simp; try with_reducible rfl)
    try simp only [Act.put, List.getElem_toArray, List.getElem_cons_zero, List.getElem_cons_succ, List.setIfInBounds_toArray, List.set_cons_zero, List.set_cons_succ]
    refine wpAnyF_take (i := 10) (v := ?_) rfl (by kernel_rfl) (by kernel_rfl) (by kernel_rfl) (by kernel_rfl) (fun _ _ _ h => h) hHeld (Or.inl ⟨by rfl, ?_⟩) ?_
    rotate_left
    · (intro w hSw; (try rw [hSS] at hSw); (try dsimp only at hSw); go_simp; try with_reducible rfl)
    try simp only [Act.put, List.getElem_toArray, List.getElem_cons_zero, List.getElem_cons_succ, List.setIfInBounds_toArray, List.set_cons_zero, List.set_cons_succ]
    refine wpAnyF_take (i := 11) (v := ?_) rfl (by kernel_rfl) (by kernel_rfl) (by kernel_rfl) (by kernel_rfl) (fun _ _ _ h => h) hHeld (Or.inl ⟨by rfl, ?_⟩) ?_
    rotate_left
    · (intro w hSw; (try rw [hSS] at hSw); (try dsimp only at hSw); go_simp; try with_reducible rfl)
    try simp only [Act.put, List.getElem_toArray, List.getElem_cons_zero, List.getElem_cons_succ, List.setIfInBounds_toArray, List.set_cons_zero, List.set_cons_succ]
    refine wpAnyF_take (i := 12) (v := ?_) rfl (by kernel_rfl) (by kernel_rfl) (by kernel_rfl) (by kernel_rfl) (fun _ _ _ h => h) hHeld (Or.inl ⟨by rfl, ?_⟩) ?_
    rotate_left
    · (intro w hSw; (try rw [hSS] at hSw); (try dsimp only at hSw); go_simp; try with_reducible rfl)
    try simp only [Act.put, List.getElem_toArray, List.getElem_cons_zero, List.getElem_cons_succ, List.setIfInBounds_toArray, List.set_cons_zero, List.set_cons_succ]
    refine wpAnyF_take (i := 13) (v := ?_) rfl (by kernel_rfl) (by kernel_rfl) (by kernel_rfl) (by kernel_rfl) (fun _ _ _ h => h) hHeld (Or.inl ⟨by rfl, ?_⟩) ?_
    rotate_left
    · (intro w hSw; (try rw [hSS] at hSw); (try dsimp only at hSw); go_simp; try with_reducible rfl)
    try simp only [Act.put, List.getElem_toArray, List.getElem_cons_zero, List.getElem_cons_succ, List.setIfInBounds_toArray, List.set_cons_zero, List.set_cons_succ]
    refine wpAnyF_take (i := 14) (v := ?_) rfl (by kernel_rfl) (by kernel_rfl) (by kernel_rfl) (by kernel_rfl) (fun _ _ _ h => h) hHeld (Or.inl ⟨by rfl, ?_⟩) ?_
    rotate_left
    · (intro w hSw; (try rw [hSS] at hSw); (try dsimp only at hSw); go_simp; try with_reducible rfl)
    try simp only [Act.put, List.getElem_toArray, List.getElem_cons_zero, List.getElem_cons_succ, List.setIfInBounds_toArray, List.set_cons_zero, List.set_cons_succ]
    refine wpAnyF_take (i := 15) (v := ?_) rfl (by kernel_rfl) (by kernel_rfl) (by kernel_rfl) (by kernel_rfl) (fun _ _ _ h => h) hHeld (Or.inl ⟨by rfl, ?_⟩) ?_
    rotate_left
    · (intro w hSw; (try rw [hSS] at hSw); (try dsimp only at hSw); go_simp; try with_reducible rfl)
    try simp only [Act.put, List.getElem_toArray, List.getElem_cons_zero, List.getElem_cons_succ, List.setIfInBounds_toArray, List.set_cons_zero, List.set_cons_succ]
    refine wpAnyF_take (i := 16) (v := ?_) rfl (by kernel_rfl) (by kernel_rfl) (by kernel_rfl) (by kernel_rfl) (fun _ _ _ h => h) hHeld (Or.inl ⟨by rfl, ?_⟩) ?_
    rotate_left
    · (intro w hSw; (try rw [hSS] at hSw); (try dsimp only at hSw); go_simp; try with_reducible rfl)
    try simp only [Act.put, List.getElem_toArray, List.getElem_cons_zero, List.getElem_cons_succ, List.setIfInBounds_toArray, List.set_cons_zero, List.set_cons_succ]
    refine wpAnyF_take (i := 17) (v := ?_) rfl (by kernel_rfl) (by kernel_rfl) (by kernel_rfl) (by kernel_rfl) (fun _ _ _ h => h) hHeld (Or.inl ⟨by rfl, ?_⟩) ?_
    rotate_left
    · (intro w hSw; (try rw [hSS] at hSw); (try dsimp only at hSw); go_simp; try with_reducible rfl)
    try simp only [Act.put, List.getElem_toArray, List.getElem_cons_zero, List.getElem_cons_succ, List.setIfInBounds_toArray, List.set_cons_zero, List.set_cons_succ]
    refine wpAnyF_take (i := 18) (v := ?_) rfl (by kernel_rfl) (by kernel_rfl) (by kernel_rfl) (by kernel_rfl) (fun _ _ _ h => h) hHeld (Or.inl ⟨by rfl, ?_⟩) ?_
    rotate_left
    · (intro w hSw; (try rw [hSS] at hSw); (try dsimp only at hSw); go_simp; try with_reducible rfl)
    try simp only [Act.put, List.getElem_toArray, List.getElem_cons_zero, List.getElem_cons_succ, List.setIfInBounds_toArray, List.set_cons_zero, List.set_cons_succ]
    refine wpAnyF_take (i := 19) (v := ?_) rfl (by kernel_rfl) (by kernel_rfl) (by kernel_rfl) (by kernel_rfl) (fun _ _ _ h => h) hHeld (Or.inl ⟨by rfl, ?_⟩) ?_
    rotate_left
    · (intro w hSw; (try rw [hSS] at hSw); (try dsimp only at hSw); go_simp; try with_reducible rfl)
    try simp only [Act.put, List.getElem_toArray, List.getElem_cons_zero, List.getElem_cons_succ, List.setIfInBounds_toArray, List.set_cons_zero, List.set_cons_succ]
    refine wpAnyF_take (i := 20) (v := ?_) rfl (by kernel_rfl) (by kernel_rfl) (by kernel_rfl) (by kernel_rfl) (fun _ _ _ h => h) hHeld (Or.inl ⟨by rfl, ?_⟩) ?_
    rotate_left
    · (intro w hSw; (try rw [hSS] at hSw); (try dsimp only at hSw); go_simp; try with_reducible rfl)
    try simp only [Act.put, List.getElem_toArray, List.getElem_cons_zero, List.getElem_cons_succ, List.setIfInBounds_toArray, List.set_cons_zero, List.set_cons_succ]
    refine wpAnyF_take (i := 21) (v := ?_) rfl (by kernel_rfl) (by kernel_rfl) (by kernel_rfl) (by kernel_rfl) (fun _ _ _ h => h) hHeld (Or.inl ⟨by rfl, ?_⟩) ?_
    rotate_left
    · (intro w hSw; (try rw [hSS] at hSw); (try dsimp only at hSw); go_simp; try with_reducible rfl)
    try simp only [Act.put, List.getElem_toArray, List.getElem_cons_zero, List.getElem_cons_succ, List.setIfInBounds_toArray, List.set_cons_zero, List.set_cons_succ]
    refine wpAnyF_take (i := 22) (v := ?_) rfl (by kernel_rfl) (by kernel_rfl) (by kernel_rfl) (by kernel_rfl) (fun _ _ _ h => h) hHeld (Or.inl ⟨by rfl, ?_⟩) ?_
    rotate_left
    · (intro w hSw; (try rw [hSS] at hSw); (try dsimp only at hSw); go_simp; try with_reducible rfl)
    try simp only [Act.put, List.getElem_toArray, List.getElem_cons_zero, List.getElem_cons_succ, List.setIfInBounds_toArray, List.set_cons_zero, List.set_cons_succ]
    have b3 := bu2.trans (bd.mono bu2.size)
    have kg3 := kg2.on bd
    have o93 := own_on o92 bd
    have ow3 := ow2.on bd
    have kb3 := kb9.on bd
    have sX3 := sX'.on bd
    refine wpAnyF_one (i := 23) (by kernel_rfl) rfl (fun K hK => ?_)
    go_simp
    go_at_call 25
    refine (without_any (.agg #[.slice Av nv cv]) M u u3 sX3 (by omega)).mono ?_
    rintro e u4 ⟨v4', rfl, s4, b4⟩
    obtain ⟨A4', n4', c4', rfl, s4'⟩ := setAt_agg s4
    simp only []
    have bd4 := bd.trans (b4.mono bd.size)
    refine hK.out _ _ (Or.inr (sB _ bd4)) ?_
    clear hK K
    try simp only [Act.put, List.getElem_toArray, List.getElem_cons_zero, List.getElem_cons_succ, List.setIfInBounds_toArray, List.set_cons_zero, List.set_cons_succ]
    refine wpAnyF_one (i := 24) (by kernel_rfl) rfl (fun K hK => ?_)
    go_simp
    refine hK.out _ _ (Or.inr (sB _ bd4)) ?_
    clear hK K
    try simp only [Act.put, List.getElem_toArray, List.getElem_cons_zero, List.getElem_cons_succ, List.setIfInBounds_toArray, List.set_cons_zero, List.set_cons_succ]
    have kg4 := kg3.on b4
    have kb4 := kb3.on b4
    have z9 : u4.cell? ⟨g9, k, none⟩ = some (.slice Av nv cv) := (bd4.cell (p := ⟨g9, k, none⟩) kb9.lt).trans hc9
    have fz9 := kb4.frozen k
    refine wpAnyF_one (i := 25) (by kernel_rfl) rfl (fun K hK => ?_)
    go_simp
    refine hK.out _ _ (Or.inl rfl) ?_
    clear hK K
    refine wpAnyF_done (by kernel_rfl) ?_ _
    have hV := pr_shr (ow3.on b4) (own_on o93 b4) rfl hki HM.out s4'
    have kgV := kg4.far (p := ⟨g9, k, none⟩) (kg4.apart kb4 (by decide)) (.slice A4' n4' c4')
    have bV : Below W5.heap.size W5 (u4.setCell ⟨g9, k, none⟩ (.slice A4' n4' c4')) := (b3.trans (b4.mono b3.size)).setCell (p := ⟨g9, k, none⟩) (Nat.le_trans hwc hg9) _
    clear z9 fz9 kg4 kb4 bd4 s4' s4 b4 sX3 kb3 ow3 o93 kg3 b3 hHeld sB hSS SS bd kg2 o92 ow2 bu2 kb9 hc9 sX'
    generalize (u4.setCell ⟨g9, k, none⟩ (.slice A4' n4' c4')) = V at hV kgV bV ⊢
    obtain ⟨hcS, smS, hle, hval⟩ := HSH.out bb (fun h => by rw [HLQ.out, HLP.out]; rw [hbb.out] at h; simpa using h) k u (by rw [HLP.out]; exact hki)
    have hp := (HQ.out.at.below bV).more bV.size
    have kp := KP.out.below bV KPL
    have bw := b5.trans (bV.mono b5.size)
    have hc10 := hcnP ⟨⟨E1, i1, j1⟩, ⟨E2, i2, j2⟩, ⟨E3, i3, j3⟩, ⟨E4, i4, j4⟩, ⟨E5, i5, j5⟩⟩ V bw hp
    unfold PrV.v Sl.v at hc10
    simp only [] at hc10
    obtain ⟨lp, hlp⟩ : ∃ n, Hid (n = (solsL P).length) := ⟨_, Lib.hid rfl⟩
    obtain ⟨ls, hls⟩ : ∃ n, Hid (n = (solsL (shrP P Q bb k u)).length) := ⟨_, Lib.hid rfl⟩
    rw [← hlp.out] at hc10 hle
    rw [← hls.out] at hle
    have x0 : V.cell? ⟨W2.heap.size, 0, none⟩ = some (.slice E1 i1 j1) := (kp.cell 0).trans rfl
    have x1 : V.cell? ⟨W2.heap.size, 1, none⟩ = some (.slice E2 i2 j2) := (kp.cell 1).trans rfl
    have x2 : V.cell? ⟨W2.heap.size, 2, none⟩ = some (.slice E3 i3 j3) := (kp.cell 2).trans rfl
    have x3 : V.cell? ⟨W2.heap.size, 3, none⟩ = some (.slice E4 i4 j4) := (kp.cell 3).trans rfl
    have x4 : V.cell? ⟨W2.heap.size, 4, none⟩ = some (.slice E5 i5 j5) := (kp.cell 4).trans rfl
    go_wp2_with fail
    refine hc10.mono ?_
    rintro e V1 ⟨rfl, c1'⟩
    have hV := hV.on c1'
    have kgV := kgV.on c1'
    have hp := hp.on c1'
    have kp := kp.on c1'
    have bw := bw.trans (c1'.mono bw.size)
    clear hc10 x0 x1 x2 x3 x4 c1'
    have hc11 := hcn ⟨⟨some ⟨g9, 0, none⟩, i1, e9⟩, ⟨V2, v2, z2⟩, ⟨V3, v3, z3⟩, ⟨V4, v4, z4⟩, ⟨E5, i5, j5⟩⟩ _ smS V1 bw hV
    rw [count_10000 hcS smS, ← hls.out] at hc11
    unfold PrV.v Sl.v at hc11
    simp only [] at hc11
    have x0 : V1.cell? ⟨W5.heap.size, 0, none⟩ = some (.slice (some ⟨g9, 0, none⟩) i1 e9) := (kgV.cell 0).trans rfl
    have x1 : V1.cell? ⟨W5.heap.size, 1, none⟩ = some (.slice V2 v2 z2) := (kgV.cell 1).trans rfl
    have x2 : V1.cell? ⟨W5.heap.size, 2, none⟩ = some (.slice V3 v3 z3) := (kgV.cell 2).trans rfl
    have x3 : V1.cell? ⟨W5.heap.size, 3, none⟩ = some (.slice V4 v4 z4) := (kgV.cell 3).trans rfl
    have x4 : V1.cell? ⟨W5.heap.size, 4, none⟩ = some (.slice E5 i5 j5) := (kgV.cell 4).trans rfl
    go_wp2_with fail
    refine hc11.mono ?_
    rintro e V2' ⟨rfl, c1'⟩
    have hV := hV.on c1'
    have kgV := kgV.on c1'
    have hp := hp.on c1'
    have kp := kp.on c1'
    have bw := bw.trans (c1'.mono bw.size)
    clear hc11 x0 x1 x2 x3 x4 c1'
    have hc12 := hsv ⟨⟨some ⟨g9, 0, none⟩, i1, e9⟩, ⟨V2, v2, z2⟩, ⟨V3, v3, z3⟩, ⟨V4, v4, z4⟩, ⟨E5, i5, j5⟩⟩ _ smS V2' bw hV
    unfold SolvePost at hc12
    unfold PrV.v Sl.v at hc12
    simp only [] at hc12
    have x0 : V2'.cell? ⟨W5.heap.size, 0, none⟩ = some (.slice (some ⟨g9, 0, none⟩) i1 e9) := (kgV.cell 0).trans rfl
    have x1 : V2'.cell? ⟨W5.heap.size, 1, none⟩ = some (.slice V2 v2 z2) := (kgV.cell 1).trans rfl
    have x2 : V2'.cell? ⟨W5.heap.size, 2, none⟩ = some (.slice V3 v3 z3) := (kgV.cell 2).trans rfl
    have x3 : V2'.cell? ⟨W5.heap.size, 3, none⟩ = some (.slice V4 v4 z4) := (kgV.cell 3).trans rfl
    have x4 : V2'.cell? ⟨W5.heap.size, 4, none⟩ = some (.slice E5 i5 j5) := (kgV.cell 4).trans rfl
    have hlei : ¬ ((lp : Int) < (ls : Int)) := by omega
    have hleb : decide ((ls : Int) ≤ (lp : Int)) = true := by simpa using hle
    have hlen : decide (ls ≤ lp) = true := by simpa using hle
    rcases solveR_zero hcS with ⟨l, lr, h1, h2⟩ | ⟨h1, nds, sts, h2, _, _⟩
    · rw [h2] at hc12
      simp only [Option.isSome_some, Option.getD_some] at hc12
      have hv := hval l ((solsL_mem hcS l).1 (by rw [h1]; simp))
      have hls0 : 0 < ls := by rw [hls.out, h1]; simp
      have hlsi : (0 : Int) < (ls : Int) := by omega
      have hlsb : decide (0 < ls) = true := by simpa using hls0
      have hll : l.length ≤ 5 := by rw [valid_len hv]; exact SM.out.1
      clear h1 h2 hval
      go_wp2_with fail
      refine hc12.mono ?_
      rintro e V3' ⟨Al, nl, cl, An, nn, cn, rfl, ol, _, c1'⟩
      go_upto_region 13 with (fail)
      have bA := bAl c1' (.cells #[.slice An nn cn] 46)
      have ol := ol.alloc (.cells #[.slice An nn cn] 46)
      generalize (V3'.alloc (.cells #[.slice An nn cn] 46)) = V4' at bA ol ⊢
      have hp := hp.on bA
      have kp := kp.on bA
      have bw := bw.trans (bA.mono bw.size)
      have hnl := ol.len
      have hva := hva ⟨⟨E1, i1, j1⟩, ⟨E2, i2, j2⟩, ⟨E3, i3, j3⟩, ⟨E4, i4, j4⟩, ⟨E5, i5, j5⟩⟩ Al nl cl l V4' bw hp ol.sees hnl (by omega)
      rw [hv] at hva
      unfold PrV.v Sl.v at hva
      simp only [] at hva
      clear hc12 x0 x1 x2 x3 x4 c1' hV kgV ol hnl bA
      have x0 : V4'.cell? ⟨W2.heap.size, 0, none⟩ = some (.slice E1 i1 j1) := (kp.cell 0).trans rfl
      have x1 : V4'.cell? ⟨W2.heap.size, 1, none⟩ = some (.slice E2 i2 j2) := (kp.cell 1).trans rfl
      have x2 : V4'.cell? ⟨W2.heap.size, 2, none⟩ = some (.slice E3 i3 j3) := (kp.cell 2).trans rfl
      have x3 : V4'.cell? ⟨W2.heap.size, 3, none⟩ = some (.slice E4 i4 j4) := (kp.cell 3).trans rfl
      have x4 : V4'.cell? ⟨W2.heap.size, 4, none⟩ = some (.slice E5 i5 j5) := (kp.cell 4).trans rfl
      go_wp2_with fail
      refine hva.mono ?_
      rintro e V5' ⟨rfl, c1'⟩
      have bw := bw.trans (c1'.mono bw.size)
      go_wp2_with fail
      go_ret
      exact ⟨rfl, bw⟩
    · rw [h2] at hc12
      simp only [Option.isSome_none, Option.getD_none] at hc12
      have hls0 : ls = 0 := by rw [hls.out, h1]; rfl
      clear h1 h2 hval hls
      subst hls0
      go_wp2_with fail
      refine hc12.mono ?_
      rintro e V3' ⟨Al, nl, cl, An, nn, cn, rfl, ol, _, c1'⟩
      go_upto_region 13 with (fail)
      have bA := bAl c1' (.cells #[.slice An nn cn] 46)
      generalize (V3'.alloc (.cells #[.slice An nn cn] 46)) = V4' at bA ⊢
      have bw := bw.trans (bA.mono bw.size)
      clear hc12 x0 x1 x2 x3 x4 c1' hV kgV ol bA
      go_wp2_with fail
      go_ret
      exact ⟨rfl, bw⟩
end Go.Proofs.YtfnhaoindehjdaaDoor.staffingShrinks
