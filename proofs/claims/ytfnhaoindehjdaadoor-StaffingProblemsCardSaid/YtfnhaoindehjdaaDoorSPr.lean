/- staffing.Problem. (gensp.py) -/
import Derived.Test.YtfnhaoindehjdaaDoorCat
import Derived.Test.YtfnhaoindehjdaaDoorPd
import Derived.Test.YtfnhaoindehjdaaDoorSc
import Derived.Test.YtfnhaoindehjdaaDoorMade
import Derived.Deep.CutBlock
import Derived.Deep.RegionHeld3
import Derived.Deep.CutRange
namespace Go.Proofs.YtfnhaoindehjdaaDoor
open Go.RowKit
set_option linter.unusedVariables false
set_option linter.unusedSimpArgs false

theorem results_ct {P : Program} {fn : Func} {p u : Tmp} {ty : TypeId} (h : fn.results = #[.cell p ty, .tmp u]) (tmps : Array Value) (w : World) (g : Nat) (t : TypeId) (cs : Array Value) (fr : Nat × Nat) (d : TypeDesc)
    (hp : tmps.getD p undef = .pointer (some ⟨g, 0, none⟩)) (hg : w.heap[g]? = some (.cells cs t fr)) (hu : P.underlying ty = some d) (hd : (match d with | .struct _ | .array _ _ => true | _ => false) = true) (hi : (P.info? ty).map (·.size) = some cs.size) :
    (results fn tmps).run P w = .ok (.tuple #[.agg cs, tmps.getD u undef]) w := by
  have e1 : tmps[p]?.getD undef = .pointer (some ⟨g, 0, none⟩) := by simpa using hp
  simp [results, h, e1, asAddr, Sem.run_bind, run_loadVar_row w g t ty cs fr d hg hu hd hi]
theorem ret_ct {fn : Func} {R : Ending → World → Prop} {a : Act} {w : World} {p u : Tmp} (h : fn.results = #[.cell p 32, .tmp u]) (g : Nat) (c1 c2 c3 c4 c5 v : Value) (hp : a.tmps.getD p undef = .pointer (some ⟨g, 0, none⟩)) (hv : a.tmps.getD u undef = v)
    (hb : Blk w g 32 #[c1, c2, c3, c4, c5]) (hd : a.defers = []) (hR : R (.returned (.tuple #[.agg #[c1, c2, c3, c4, c5], v])) w) : bodyPost Tryd.prog fn R .ret a w := by
  refine bodyPost_ret (results_ct h _ _ g 32 _ _ _ hp hb Tryd.underlying32 rfl (by kernel_rfl)) hd ?_
  rw [hv]
  exact hR
/-- What a problem is made of, read. -/
structure SpIn (w : World) (P : Pr) (xs : List Value) (ms : List (Int × Value)) (A1 : Option Addr) (m1 : Nat) (E2 : Option Addr) (i2 : Nat) (E3 : Option Addr) (i3 : Nat) (E4 : Option Addr) (i4 : Nat) (A5 : Option Addr) (m5 : Nat) : Prop where
  h1 : Sees w w.heap.size A1 xs
  l1 : xs.length = m1
  x1 : xs.length = P.elig.length
  s1 : ∀ (i M : Nat), P.elig[i]? = some M → ∃ X, xs[i]? = some X ∧ SetAt w w.heap.size (.agg #[X]) M
  o1 : ∀ u ∈ xs, u.oneCell' = true
  h2 : PairsAt w w.heap.size E2 P.dif
  l2 : P.dif.length = i2
  h3 : PairsAt w w.heap.size E3 P.sam
  l3 : P.sam.length = i3
  h4 : Sees w w.heap.size E4 (ms.flatMap qv)
  l4 : ms.length = i4
  x4 : ms.length = P.mst.length
  s4 : ∀ (i : Nat) (x : Int × Nat), P.mst[i]? = some x → ∃ m, ms[i]? = some m ∧ m.1 = x.1 ∧ SetAt w w.heap.size (.agg #[m.2]) x.2
  o4 : ∀ u ∈ ms.flatMap qv, u.oneCell' = true
  h5 : Sees w w.heap.size A5 (P.fix.map iv)
  l5 : P.fix.length = m5
  b1 : m1 ≤ 1000
  b2 : i2 ≤ 1000
  b3 : i3 ≤ 1000
  b4 : i4 ≤ 1000
  b5 : m5 ≤ 1000
theorem SpIn.on {w w' : World} {P : Pr} {xs : List Value} {ms : List (Int × Value)} {A1 E2 E3 E4 A5 : Option Addr} {m1 i2 i3 i4 m5 : Nat} (h : SpIn w P xs ms A1 m1 E2 i2 E3 i3 E4 i4 A5 m5) (hb : Below w.heap.size w w') : SpIn w' P xs ms A1 m1 E2 i2 E3 i3 E4 i4 A5 m5 :=
  ⟨h.h1.on hb, h.l1, h.x1, fun i M hi => by obtain ⟨X, a, b⟩ := h.s1 i M hi; exact ⟨X, a, b.on hb⟩, h.o1, (h.h2.below hb).more hb.size, h.l2, (h.h3.below hb).more hb.size, h.l3, h.h4.on hb, h.l4, h.x4, fun i x hi => by obtain ⟨m, a, b, c⟩ := h.s4 i x hi; exact ⟨m, a, b, c.on hb⟩, h.o4, h.h5.on hb, h.l5, h.b1, h.b2, h.b3, h.b4, h.b5⟩
/-- The problem that comes of it. -/
def sprP (P : Pr) (sn : Nat) : Pr := if P.fix.length = 0 then ⟨P.elig, P.dif, P.sam, P.mst, List.replicate sn 0⟩ else P
/-- What staffing.Problem gives. -/
def SprPost (P : Pr) (sn : Nat) (w : World) (e : Ending) (w' : World) : Prop :=
  Below w.heap.size w w' ∧ ((P.elig.length ≠ sn ∨ (P.fix.length ≠ sn ∧ P.fix.length ≠ 0)) ∧ e = .returned (.tuple #[.agg #[.slice none 0 0, .slice none 0 0, .slice none 0 0, .slice none 0 0, .slice none 0 0], .int .i64 1]) ∨
    P.elig.length = sn ∧ (P.fix.length = sn ∨ P.fix.length = 0) ∧ (chkP (sprP P sn) ≠ 0 ∧ e = .returned (.tuple #[.agg #[.slice none 0 0, .slice none 0 0, .slice none 0 0, .slice none 0 0, .slice none 0 0], .int .i64 (chkP (sprP P sn))]) ∨
      chkP (sprP P sn) = 0 ∧ ∃ q : PrV, e = .returned (.tuple #[.agg #[q.s1.v, q.s2.v, q.s3.v, q.s4.v, q.s5.v], .int .i64 0]) ∧ PrAt w' w'.heap.size q (sprP P sn)))
theorem sp_own {u4 W1 : World} {B1 B2 B3 B4 B5 c1' c2' c3' c4' c5' : Nat} {A1' A2' A3' A4' A5' : Option Addr} {P : Pr} {xs : List Value} {ms : List (Int × Value)} {A1 E2 E3 E4 A5 : Option Addr} {m1 i2 i3 i4 m5 : Nat} (hi : SpIn W1 P xs ms A1 m1 E2 i2 E3 i3 E4 i4 A5 m5) (hb : Below W1.heap.size W1 u4)
    (o1 : u4.ownsRow B1 63 1 (.slice A1' m1 c1') m1 xs) (o2 : u4.ownsRow B2 66 2 (.slice A2' i2 c2') i2 (P.dif.flatMap pv)) (o3 : u4.ownsRow B3 66 2 (.slice A3' i3 c3') i3 (P.sam.flatMap pv)) (o4 : u4.ownsRow B4 69 2 (.slice A4' i4 c4') i4 (ms.flatMap qv)) (o5 : OwnI u4 B5 (.slice A5' m5 c5') m5 P.fix)
    (h1 : W1.heap.size ≤ B1) (h2 : W1.heap.size ≤ B2) (h3 : W1.heap.size ≤ B3) (h4 : W1.heap.size ≤ B4) (h5 : W1.heap.size ≤ B5) : OwnQ u4 W1.heap.size ⟨⟨A1', m1, c1'⟩, ⟨A2', i2, c2'⟩, ⟨A3', i3, c3'⟩, ⟨A4', i4, c4'⟩, ⟨A5', m5, c5'⟩⟩ P xs ms :=
  ⟨own_less o1 h1, own_less o2 h2, own_less o3 h3, own_less o4 h4, own_less o5 h5, hi.x1, fun i M h => by obtain ⟨X, a, b⟩ := hi.s1 i M h; exact ⟨X, a, b.on hb⟩, hi.x4, fun i x h => by obtain ⟨m, a, b, c⟩ := hi.s4 i x h; exact ⟨m, a, b, c.on hb⟩, hi.b1, hi.b2, hi.b3, hi.b4, hi.b5⟩
theorem sp_set {W1 u : World} {A1 A2 A3 A4 A5 : Option Addr} {m1 e1 i2 e2 i3 e3 i4 e4 m5 e5 : Nat} {P : Pr} {xs : List Value} {ms : List (Int × Value)} (hb : Below W1.heap.size W1 u) {g : Nat} (hg : W1.heap.size ≤ g) (kz : Blk u g 32 #[.slice none 0 0, .slice none 0 0, .slice none 0 0, .slice none 0 0, .slice none 0 0]) (ho : OwnQ u W1.heap.size ⟨⟨A1, m1, e1⟩, ⟨A2, i2, e2⟩, ⟨A3, i3, e3⟩, ⟨A4, i4, e4⟩, ⟨A5, m5, e5⟩⟩ P xs ms) : ∃ (g' : Nat) (q : PrV), Value.pointer (some ⟨g, 0, none⟩) = .pointer (some ⟨g', 0, none⟩) ∧ W1.heap.size ≤ g' ∧ q.s1.n = m1 ∧ q.s5.n = m5 ∧ Blk (((((u.setCell ⟨g, 0, none⟩ (.slice A1 m1 e1)).setCell ⟨g, 1, none⟩ (.slice A2 i2 e2)).setCell ⟨g, 2, none⟩ (.slice A3 i3 e3)).setCell ⟨g, 3, none⟩ (.slice A4 i4 e4)).setCell ⟨g, 4, none⟩ (.slice A5 m5 e5)) g' 32 #[q.s1.v, q.s2.v, q.s3.v, q.s4.v, q.s5.v] ∧ OwnQ (((((u.setCell ⟨g, 0, none⟩ (.slice A1 m1 e1)).setCell ⟨g, 1, none⟩ (.slice A2 i2 e2)).setCell ⟨g, 2, none⟩ (.slice A3 i3 e3)).setCell ⟨g, 3, none⟩ (.slice A4 i4 e4)).setCell ⟨g, 4, none⟩ (.slice A5 m5 e5)) W1.heap.size q P xs ms ∧ Below W1.heap.size W1 (((((u.setCell ⟨g, 0, none⟩ (.slice A1 m1 e1)).setCell ⟨g, 1, none⟩ (.slice A2 i2 e2)).setCell ⟨g, 2, none⟩ (.slice A3 i3 e3)).setCell ⟨g, 3, none⟩ (.slice A4 i4 e4)).setCell ⟨g, 4, none⟩ (.slice A5 m5 e5)) :=
  ⟨g, ⟨⟨A1, m1, e1⟩, ⟨A2, i2, e2⟩, ⟨A3, i3, e3⟩, ⟨A4, i4, e4⟩, ⟨A5, m5, e5⟩⟩, rfl, hg, rfl, rfl, blk5 kz, ho.put5 kz (by decide), bset5 hb hg⟩
theorem sp_new {W1 u : World} {A1 A2 A3 A4 A5 : Option Addr} {m1 e1 i2 e2 i3 e3 i4 e4 m5 e5 : Nat} {P : Pr} {xs : List Value} {ms : List (Int × Value)} (hb : Below W1.heap.size W1 u) (ho : OwnQ u W1.heap.size ⟨⟨A1, m1, e1⟩, ⟨A2, i2, e2⟩, ⟨A3, i3, e3⟩, ⟨A4, i4, e4⟩, ⟨A5, m5, e5⟩⟩ P xs ms) : ∃ (g' : Nat) (q : PrV), Value.pointer (some ⟨u.heap.size, 0, none⟩) = .pointer (some ⟨g', 0, none⟩) ∧ W1.heap.size ≤ g' ∧ q.s1.n = m1 ∧ q.s5.n = m5 ∧ Blk (u.alloc (.cells #[.slice A1 m1 e1, .slice A2 i2 e2, .slice A3 i3 e3, .slice A4 i4 e4, .slice A5 m5 e5] 32)) g' 32 #[q.s1.v, q.s2.v, q.s3.v, q.s4.v, q.s5.v] ∧ OwnQ (u.alloc (.cells #[.slice A1 m1 e1, .slice A2 i2 e2, .slice A3 i3 e3, .slice A4 i4 e4, .slice A5 m5 e5] 32)) W1.heap.size q P xs ms ∧ Below W1.heap.size W1 (u.alloc (.cells #[.slice A1 m1 e1, .slice A2 i2 e2, .slice A3 i3 e3, .slice A4 i4 e4, .slice A5 m5 e5] 32)) :=
  ⟨u.heap.size, ⟨⟨A1, m1, e1⟩, ⟨A2, i2, e2⟩, ⟨A3, i3, e3⟩, ⟨A4, i4, e4⟩, ⟨A5, m5, e5⟩⟩, rfl, hb.size, rfl, rfl, Blk.new _ _ _, ho.on (bAl (Below.refl _ _) _), bAl hb _⟩
theorem set5_below {W W' : World} {g : Nat} {a b c d e : Value} (h : Below W.heap.size W W') (hg : W.heap.size ≤ g) : Below W.heap.size W (((((W'.setCell ⟨g, 0, none⟩ a).setCell ⟨g, 1, none⟩ b).setCell ⟨g, 2, none⟩ c).setCell ⟨g, 3, none⟩ d).setCell ⟨g, 4, none⟩ e) := bset5 h hg
set_option maxHeartbeats 16000000 in
set_option maxRecDepth 100000 in
theorem sprob_any (S1 S2 E2 E3 E4 A1 A5 : Option Addr) (sn sc tn tc i2 j2 i3 j3 i4 j4 m1 c1 m5 c5 : Nat) (P : Pr) (xs : List Value) (ms : List (Int × Value)) (w : World) (h : SpIn w P xs ms A1 m1 E2 i2 E3 i3 E4 i4 A5 m5) (hsn : sn ≤ 1000) :
    Calls Tryd.prog 34 #[.agg #[.slice S1 sn sc, .slice S2 tn tc, .slice E2 i2 j2, .slice E3 i3 j3, .slice E4 i4 j4], .slice A1 m1 c1, .slice A5 m5 c5] w (SprPost P sn w) := by
  have hlE : P.elig.length = m1 := by rw [← h.x1]; exact h.l1
  have hlF : P.fix.length = m5 := h.l5
  have HE := Lib.hid hlE
  have HF := Lib.hid hlF
  have b1 := h.b1
  have b5 := h.b5
  clear hlE hlF
  go_enter Tryd.func34, Tryd.ntmps34
  go_upto_region 1 with (fail)
  have kf : Blk ((w.alloc (.cells #[.slice S1 sn sc, .slice S2 tn tc, .slice E2 i2 j2, .slice E3 i3 j3, .slice E4 i4 j4] 83)).alloc (.cells #[.slice none 0 0, .slice none 0 0, .slice none 0 0, .slice none 0 0, .slice none 0 0] 32)) w.heap.size 83 #[.slice S1 sn sc, .slice S2 tn tc, .slice E2 i2 j2, .slice E3 i3 j3, .slice E4 i4 j4] := (Blk.new w _ _).alloc _
  have kr : Blk ((w.alloc (.cells #[.slice S1 sn sc, .slice S2 tn tc, .slice E2 i2 j2, .slice E3 i3 j3, .slice E4 i4 j4] 83)).alloc (.cells #[.slice none 0 0, .slice none 0 0, .slice none 0 0, .slice none 0 0, .slice none 0 0] 32)) (w.heap.size + 1) 32 #[.slice none 0 0, .slice none 0 0, .slice none 0 0, .slice none 0 0, .slice none 0 0] := Blk.mk' (by simp)
  have bb : Below w.heap.size w ((w.alloc (.cells #[.slice S1 sn sc, .slice S2 tn tc, .slice E2 i2 j2, .slice E3 i3 j3, .slice E4 i4 j4] 83)).alloc (.cells #[.slice none 0 0, .slice none 0 0, .slice none 0 0, .slice none 0 0, .slice none 0 0] 32)) := bAl (bAl (Below.refl _ _) _) _
  generalize ((w.alloc (.cells #[.slice S1 sn sc, .slice S2 tn tc, .slice E2 i2 j2, .slice E3 i3 j3, .slice E4 i4 j4] 83)).alloc (.cells #[.slice none 0 0, .slice none 0 0, .slice none 0 0, .slice none 0 0, .slice none 0 0] 32)) = W1 at kf kr bb ⊢
  have hi := h.on bb
  clear h
  have x0 : W1.cell? ⟨w.heap.size, 0, none⟩ = some (.slice S1 sn sc) := (kf.cell 0).trans rfl
  by_cases hA : m1 = sn ∧ (m5 = sn ∨ m5 = 0)
  · obtain ⟨rfl, hm5⟩ := hA
    have hne : ((m1 : Int) != (m1 : Int)) = false := by simp
    have hg : (((m5 : Int) != (m1 : Int)) && ((m5 : Int) != 0)) = false := by
      rcases hm5 with rfl | rfl <;> simp
    have L2 := Lib.hid hi.l2
    have qd : Below W1.heap.size W1 W1.drew := (Below.refl _ _).drew
    have sB : ∀ W, Below W1.heap.size W1 W → W.cell? ⟨w.heap.size, 2, none⟩ = some (.slice E2 i2 j2) ∧ W.cell? ⟨w.heap.size, 3, none⟩ = some (.slice E3 i3 j3) ∧ W.cell? ⟨w.heap.size, 4, none⟩ = some (.slice E4 i4 j4) := fun W hW => ⟨((kf.on hW).cell 2).trans rfl, ((kf.on hW).cell 3).trans rfl, ((kf.on hW).cell 4).trans rfl⟩
    have cc1 := fun W (hW : Below W1.heap.size W1 W) => cloneSet_any A1 m1 c1 xs W (hi.on hW).h1 (by rw [hi.l1, Nat.mul_one]) hi.o1 (by omega)
    have cc2 := fun W (hW : Below W1.heap.size W1 W) => cloneP_any E2 i2 j2 P.dif W (hi.on hW).h2 hi.l2 (by have := hi.b2; omega)
    have cc3 := fun W (hW : Below W1.heap.size W1 W) => cloneP_any E3 i3 j3 P.sam W (hi.on hW).h3 hi.l3 (by have := hi.b3; omega)
    have cc4 := fun W (hW : Below W1.heap.size W1 W) => cloneMost_any E4 i4 j4 (ms.flatMap qv) W (hi.on hW).h4 (by rw [flat_len (f := qv) (m := 2) (fun _ => rfl), hi.l4]) hi.o4 (by have := hi.b4; omega)
    have cc5 := fun W (hW : Below W1.heap.size W1 W) => cloneI_any A5 m5 c5 P.fix W (hi.on hW).h5 hi.l5 (by omega)
    have HI := Lib.hid hi
    clear hi
    go_upto_region 2 with (fail)
    go_cut [28] from 14 to 28 (fun v28 wx => v28 = .bool false ∧ wx = W1)
    case first =>
      by_cases h0 : m5 = 0
      · subst h0
        by_cases h1 : m1 = 0
        · subst h1
          go_wp2_with fail
          go_meet
          exact ⟨rfl, rfl⟩
        · have h2 : ((0 : Int) != (m1 : Int)) = true := by rw [bne_iff_ne]; omega
          go_wp2_with fail
          go_meet
          exact ⟨rfl, rfl⟩
      · obtain rfl : m5 = m1 := by omega
        go_wp2_with fail
        go_meet
        exact ⟨rfl, rfl⟩
    case rest =>
      obtain ⟨rfl, hw⟩ := hcut
      obtain rfl : W1 = wc := hw.symm
      clear x0 hg hne hw
      go_upto_region 4 with (fail)
      go_cut [9] from 29 to 43 (fun v9 wx => ∃ (g : Nat) (q : PrV), v9 = .pointer (some ⟨g, 0, none⟩) ∧ W1.heap.size ≤ g ∧ q.s1.n = m1 ∧ q.s5.n = m5 ∧ Blk wx g 32 #[q.s1.v, q.s2.v, q.s3.v, q.s4.v, q.s5.v] ∧ OwnQ wx W1.heap.size q P xs ms ∧ Below W1.heap.size W1 wx)
      case first =>
        clear kr
        go_region_held3 (fun W => W.cell? ⟨w.heap.size, 2, none⟩ = some (.slice E2 i2 j2) ∧ W.cell? ⟨w.heap.size, 3, none⟩ = some (.slice E3 i3 j3) ∧ W.cell? ⟨w.heap.size, 4, none⟩ = some (.slice E4 i4 j4))
          ((refine sB _ ?_; first | ((repeat (first | with_reducible exact q5 | with_reducible exact q4 | with_reducible exact q3 | with_reducible exact q2 | with_reducible exact q1 | with_reducible exact qd | with_reducible refine bAl ?_ _ | with_reducible refine Below.drew ?_ | with_reducible exact Below.refl _ _)); done) | (with_reducible refine set5_below ?_ ?_; (· (repeat (first | with_reducible exact q5 | with_reducible exact q4 | with_reducible exact q3 | with_reducible exact q2 | with_reducible exact q1 | with_reducible exact qd | with_reducible refine bAl ?_ _ | with_reducible refine Below.drew ?_ | with_reducible exact Below.refl _ _))); (· first | with_reducible exact Nat.le_refl _ | with_reducible exact q5.size | with_reducible exact q4.size | with_reducible exact q3.size | with_reducible exact q2.size | with_reducible exact q1.size))))
          (first
            | (go_at_call 24; have mm := q4; refine (cc5 _ (by (repeat (first | with_reducible exact q5 | with_reducible exact q4 | with_reducible exact q3 | with_reducible exact q2 | with_reducible exact q1 | with_reducible exact qd | with_reducible refine bAl ?_ _ | with_reducible refine Below.drew ?_ | with_reducible exact Below.refl _ _)))).mono ?_; rintro e u5 ⟨A5', e5, rfl, o5, bu5⟩; have z5 := Below.size (w := W1) (B := W1.heap.size) (by (repeat (first | with_reducible exact q5 | with_reducible exact q4 | with_reducible exact q3 | with_reducible exact q2 | with_reducible exact q1 | with_reducible exact qd | with_reducible refine bAl ?_ _ | with_reducible refine Below.drew ?_ | with_reducible exact Below.refl _ _))); have q5 : Below W1.heap.size W1 u5 := (by refine bJoin ?_ bu5; (repeat (first | with_reducible exact q5 | with_reducible exact q4 | with_reducible exact q3 | with_reducible exact q2 | with_reducible exact q1 | with_reducible exact qd | with_reducible refine bAl ?_ _ | with_reducible refine Below.drew ?_ | with_reducible exact Below.refl _ _))); (try first | (have Bz : Blk u5 W1.heap.size 32 #[.slice none 0 0, .slice none 0 0, .slice none 0 0, .slice none 0 0, .slice none 0 0] := Bz.on bu5) | (have Bz : Blk u5 u1.heap.size 32 #[.slice none 0 0, .slice none 0 0, .slice none 0 0, .slice none 0 0, .slice none 0 0] := Bz.on bu5) | (have Bz : Blk u5 u2.heap.size 32 #[.slice none 0 0, .slice none 0 0, .slice none 0 0, .slice none 0 0, .slice none 0 0] := Bz.on bu5) | (have Bz : Blk u5 u3.heap.size 32 #[.slice none 0 0, .slice none 0 0, .slice none 0 0, .slice none 0 0, .slice none 0 0] := Bz.on bu5) | (have Bz : Blk u5 u4.heap.size 32 #[.slice none 0 0, .slice none 0 0, .slice none 0 0, .slice none 0 0, .slice none 0 0] := (Blk.new u4 32 #[.slice none 0 0, .slice none 0 0, .slice none 0 0, .slice none 0 0, .slice none 0 0]).on bu5)); (try have y0 := (Bz.cell 0).trans rfl); (try have f0 := Bz.frozen 0); (try have y1 := (Bz.cell 1).trans rfl); (try have f1 := Bz.frozen 1); (try have y2 := (Bz.cell 2).trans rfl); (try have f2 := Bz.frozen 2); (try have y3 := (Bz.cell 3).trans rfl); (try have f3 := Bz.frozen 3); (try have y4 := (Bz.cell 4).trans rfl); (try have f4 := Bz.frozen 4))
            | (go_at_call 68; have mm := q3; refine (cc4 _ (by (repeat (first | with_reducible exact q5 | with_reducible exact q4 | with_reducible exact q3 | with_reducible exact q2 | with_reducible exact q1 | with_reducible exact qd | with_reducible refine bAl ?_ _ | with_reducible refine Below.drew ?_ | with_reducible exact Below.refl _ _)))).mono ?_; rintro e u4 ⟨A4', e4, rfl, o4, bu4⟩; have q4 : Below W1.heap.size W1 u4 := (by refine bJoin ?_ bu4; (repeat (first | with_reducible exact q5 | with_reducible exact q4 | with_reducible exact q3 | with_reducible exact q2 | with_reducible exact q1 | with_reducible exact qd | with_reducible refine bAl ?_ _ | with_reducible refine Below.drew ?_ | with_reducible exact Below.refl _ _))); (try first | (have Bz : Blk u4 W1.heap.size 32 #[.slice none 0 0, .slice none 0 0, .slice none 0 0, .slice none 0 0, .slice none 0 0] := Bz.on bu4) | (have Bz : Blk u4 u1.heap.size 32 #[.slice none 0 0, .slice none 0 0, .slice none 0 0, .slice none 0 0, .slice none 0 0] := Bz.on bu4) | (have Bz : Blk u4 u2.heap.size 32 #[.slice none 0 0, .slice none 0 0, .slice none 0 0, .slice none 0 0, .slice none 0 0] := Bz.on bu4) | (have Bz : Blk u4 u3.heap.size 32 #[.slice none 0 0, .slice none 0 0, .slice none 0 0, .slice none 0 0, .slice none 0 0] := (Blk.new u3 32 #[.slice none 0 0, .slice none 0 0, .slice none 0 0, .slice none 0 0, .slice none 0 0]).on bu4)))
            | (go_at_call 64; have mm := q2; refine (cc3 _ (by (repeat (first | with_reducible exact q5 | with_reducible exact q4 | with_reducible exact q3 | with_reducible exact q2 | with_reducible exact q1 | with_reducible exact qd | with_reducible refine bAl ?_ _ | with_reducible refine Below.drew ?_ | with_reducible exact Below.refl _ _)))).mono ?_; rintro e u3 ⟨A3', e3, rfl, o3, bu3⟩; have q3 : Below W1.heap.size W1 u3 := (by refine bJoin ?_ bu3; (repeat (first | with_reducible exact q5 | with_reducible exact q4 | with_reducible exact q3 | with_reducible exact q2 | with_reducible exact q1 | with_reducible exact qd | with_reducible refine bAl ?_ _ | with_reducible refine Below.drew ?_ | with_reducible exact Below.refl _ _))); (try first | (have Bz : Blk u3 W1.heap.size 32 #[.slice none 0 0, .slice none 0 0, .slice none 0 0, .slice none 0 0, .slice none 0 0] := Bz.on bu3) | (have Bz : Blk u3 u1.heap.size 32 #[.slice none 0 0, .slice none 0 0, .slice none 0 0, .slice none 0 0, .slice none 0 0] := Bz.on bu3) | (have Bz : Blk u3 u2.heap.size 32 #[.slice none 0 0, .slice none 0 0, .slice none 0 0, .slice none 0 0, .slice none 0 0] := (Blk.new u2 32 #[.slice none 0 0, .slice none 0 0, .slice none 0 0, .slice none 0 0, .slice none 0 0]).on bu3)))
            | (go_at_call 64; have mm := q1; refine (cc2 _ (by (repeat (first | with_reducible exact q5 | with_reducible exact q4 | with_reducible exact q3 | with_reducible exact q2 | with_reducible exact q1 | with_reducible exact qd | with_reducible refine bAl ?_ _ | with_reducible refine Below.drew ?_ | with_reducible exact Below.refl _ _)))).mono ?_; rintro e u2 ⟨A2', e2, rfl, o2, bu2⟩; have q2 : Below W1.heap.size W1 u2 := (by refine bJoin ?_ bu2; (repeat (first | with_reducible exact q5 | with_reducible exact q4 | with_reducible exact q3 | with_reducible exact q2 | with_reducible exact q1 | with_reducible exact qd | with_reducible refine bAl ?_ _ | with_reducible refine Below.drew ?_ | with_reducible exact Below.refl _ _))); (try first | (have Bz : Blk u2 W1.heap.size 32 #[.slice none 0 0, .slice none 0 0, .slice none 0 0, .slice none 0 0, .slice none 0 0] := Bz.on bu2) | (have Bz : Blk u2 u1.heap.size 32 #[.slice none 0 0, .slice none 0 0, .slice none 0 0, .slice none 0 0, .slice none 0 0] := (Blk.new u1 32 #[.slice none 0 0, .slice none 0 0, .slice none 0 0, .slice none 0 0, .slice none 0 0]).on bu2)))
            | (go_at_call 30; refine (cc1 _ (by (repeat (first | with_reducible exact q5 | with_reducible exact q4 | with_reducible exact q3 | with_reducible exact q2 | with_reducible exact q1 | with_reducible exact qd | with_reducible refine bAl ?_ _ | with_reducible refine Below.drew ?_ | with_reducible exact Below.refl _ _)))).mono ?_; rintro e u1 ⟨A1', e1, rfl, o1, bu1⟩; have q1 : Below W1.heap.size W1 u1 := (by refine bJoin ?_ bu1; (repeat (first | with_reducible exact q5 | with_reducible exact q4 | with_reducible exact q3 | with_reducible exact q2 | with_reducible exact q1 | with_reducible exact qd | with_reducible refine bAl ?_ _ | with_reducible refine Below.drew ?_ | with_reducible exact Below.refl _ _))); (try first | (have Bz : Blk u1 W1.heap.size 32 #[.slice none 0 0, .slice none 0 0, .slice none 0 0, .slice none 0 0, .slice none 0 0] := (Blk.new W1.drew 32 #[.slice none 0 0, .slice none 0 0, .slice none 0 0, .slice none 0 0, .slice none 0 0]).on bu1) | (have Bz : Blk u1 W1.heap.size 32 #[.slice none 0 0, .slice none 0 0, .slice none 0 0, .slice none 0 0, .slice none 0 0] := (show Blk (W1.alloc (.cells #[.slice none 0 0, .slice none 0 0, .slice none 0 0, .slice none 0 0, .slice none 0 0] 32)).drew W1.heap.size 32 #[.slice none 0 0, .slice none 0 0, .slice none 0 0, .slice none 0 0, .slice none 0 0] from Blk.new W1 32 #[.slice none 0 0, .slice none 0 0, .slice none 0 0, .slice none 0 0, .slice none 0 0]).on bu1))))
        all_goals (
          have o4x := own_on o4 (bJoin (by (repeat (first | exact Below.refl _ _ | with_reducible refine bAl ?_ _ | refine Below.drew ?_))) bu5)
          have o3x := own_on (own_on o3 (bJoin (by (repeat (first | exact Below.refl _ _ | with_reducible refine bAl ?_ _ | refine Below.drew ?_))) bu4)) (bJoin (by (repeat (first | exact Below.refl _ _ | with_reducible refine bAl ?_ _ | refine Below.drew ?_))) bu5)
          have o2x := own_on (own_on (own_on o2 (bJoin (by (repeat (first | exact Below.refl _ _ | with_reducible refine bAl ?_ _ | refine Below.drew ?_))) bu3)) (bJoin (by (repeat (first | exact Below.refl _ _ | with_reducible refine bAl ?_ _ | refine Below.drew ?_))) bu4)) (bJoin (by (repeat (first | exact Below.refl _ _ | with_reducible refine bAl ?_ _ | refine Below.drew ?_))) bu5)
          have o1x := own_on (own_on (own_on (own_on o1 (bJoin (by (repeat (first | exact Below.refl _ _ | with_reducible refine bAl ?_ _ | refine Below.drew ?_))) bu2)) (bJoin (by (repeat (first | exact Below.refl _ _ | with_reducible refine bAl ?_ _ | refine Below.drew ?_))) bu3)) (bJoin (by (repeat (first | exact Below.refl _ _ | with_reducible refine bAl ?_ _ | refine Below.drew ?_))) bu4)) (bJoin (by (repeat (first | exact Below.refl _ _ | with_reducible refine bAl ?_ _ | refine Below.drew ?_))) bu5)
          have hown := sp_own HI.out q5 o1x o2x o3x o4x o5 (by refine Below.size (w := W1) (B := W1.heap.size) ?_; (repeat (first | with_reducible exact q5 | with_reducible exact q4 | with_reducible exact q3 | with_reducible exact q2 | with_reducible exact q1 | with_reducible exact qd | with_reducible refine bAl ?_ _ | with_reducible refine Below.drew ?_ | with_reducible exact Below.refl _ _))) (by refine Below.size (w := W1) (B := W1.heap.size) ?_; (repeat (first | with_reducible exact q5 | with_reducible exact q4 | with_reducible exact q3 | with_reducible exact q2 | with_reducible exact q1 | with_reducible exact qd | with_reducible refine bAl ?_ _ | with_reducible refine Below.drew ?_ | with_reducible exact Below.refl _ _))) (by refine Below.size (w := W1) (B := W1.heap.size) ?_; (repeat (first | with_reducible exact q5 | with_reducible exact q4 | with_reducible exact q3 | with_reducible exact q2 | with_reducible exact q1 | with_reducible exact qd | with_reducible refine bAl ?_ _ | with_reducible refine Below.drew ?_ | with_reducible exact Below.refl _ _))) (by refine Below.size (w := W1) (B := W1.heap.size) ?_; (repeat (first | with_reducible exact q5 | with_reducible exact q4 | with_reducible exact q3 | with_reducible exact q2 | with_reducible exact q1 | with_reducible exact qd | with_reducible refine bAl ?_ _ | with_reducible refine Below.drew ?_ | with_reducible exact Below.refl _ _))) (by refine Below.size (w := W1) (B := W1.heap.size) ?_; (repeat (first | with_reducible exact q5 | with_reducible exact q4 | with_reducible exact q3 | with_reducible exact q2 | with_reducible exact q1 | with_reducible exact qd | with_reducible refine bAl ?_ _ | with_reducible refine Below.drew ?_ | with_reducible exact Below.refl _ _)))
          go_wp2_with fail
          go_meet)
        · exact sp_new q5 hown
        all_goals (
          exact sp_set q5 (by first | with_reducible exact Nat.le_refl _ | with_reducible exact q1.size | with_reducible exact q2.size | with_reducible exact q3.size | with_reducible exact q4.size) Bz hown)
      case rest =>
        obtain ⟨g, ⟨⟨V1, v1, y1⟩, ⟨V2, v2, y2⟩, ⟨V3, v3, y3⟩, ⟨V4, v4, y4⟩, ⟨V5, v5, y5⟩⟩, rfl, hg, hn1, hn5, kg, oq, bx⟩ := hcut
        simp only at hn1 hn5
        obtain rfl : m1 = v1 := hn1.symm
        obtain rfl : m5 = v5 := hn5.symm
        simp only [Sl.v] at kg
        go_upto_if 46 with (fail)
        go_cut [] from 44 to 49 (fun wy => ∃ (V6 : Option Addr) (v6 y6 : Nat), Blk wy g 32 #[.slice V1 m1 y1, .slice V2 v2 y2, .slice V3 v3 y3, .slice V4 v4 y4, .slice V6 v6 y6] ∧ OwnQ wy W1.heap.size ⟨⟨V1, m1, y1⟩, ⟨V2, v2, y2⟩, ⟨V3, v3, y3⟩, ⟨V4, v4, y4⟩, ⟨V6, v6, y6⟩⟩ (sprP P m1) xs ms ∧ Below W1.heap.size W1 wy)
        case first =>
          by_cases h0 : m5 = 0
          · subst h0
            have hz := bx.size
            have y4 : wc.cell? ⟨g, 4, none⟩ = some (.slice V5 0 y5) := (kg.cell 4).trans rfl
            have hsp : sprP P m1 = ⟨P.elig, P.dif, P.sam, P.mst, List.replicate m1 0⟩ := if_pos HF.out
            go_wp2_with (refine wpL_mkI _ rfl _ _ rfl _ _ m1 rfl rfl rfl rfl (by omega) ?_; intro w4 hS4 bw4 hsz4; have kg4 := kg.on bw4; have y4' : w4.cell? ⟨g, 4, none⟩ = some (.slice V5 0 y5) := (kg4.cell 4).trans rfl; have fy4 := kg4.frozen 4)
            go_meet
            have o4 := (oq.on bw4).put (i := 4) (u := .slice (some ⟨wc.heap.size, 0, none⟩) m1 m1) kg4 (by decide)
            have o5 : OwnI (w4.setCell ⟨g, 4, none⟩ (.slice (some ⟨wc.heap.size, 0, none⟩) m1 m1)) W1.heap.size (.slice (some ⟨wc.heap.size, 0, none⟩) m1 m1) m1 (List.replicate m1 0) := by
              have h1 : OwnI w4 wc.heap.size (.slice (some ⟨wc.heap.size, 0, none⟩) m1 m1) m1 (List.replicate m1 0) := ⟨by simp, .inr ⟨wc.heap.size, m1, _, rfl, Nat.le_refl _, hS4.out, Nat.le_refl _, by unfold maxLen; omega, by simp, by simp⟩⟩
              exact own_less (ownsRow_setCell_other h1 (a := ⟨g, 4, none⟩) (own_off h1 kg4 (by decide)) _) hz
            rw [hsp]
            exact ⟨some ⟨wc.heap.size, 0, none⟩, m1, m1, by simpa using kg4.put 4 (.slice (some ⟨wc.heap.size, 0, none⟩) m1 m1), ⟨o4.o1, o4.o2, o4.o3, o4.o4, o5, o4.x1, o4.s1, o4.x4, o4.s4, o4.b1, o4.b2, o4.b3, o4.b4, hsn⟩, (bx.trans (bw4.mono hz)).setCell (p := ⟨g, 4, none⟩) hg _⟩
          · have h0i : ¬ ((m5 : Int) = 0) := by omega
            have hsp : sprP P m1 = P := if_neg (by rw [HF.out]; exact h0)
            go_wp2_with fail
            go_meet
            rw [hsp]
            exact ⟨V5, m5, y5, kg, oq, bx⟩
        case rest =>
          obtain ⟨V6, v6, y6, kg, oq, bx⟩ := hcut
          have hE := HE.out
          have hF := HF.out
          have HP := Lib.hid (show P.elig.length = m1 ∧ (P.fix.length = m1 ∨ P.fix.length = 0) from ⟨hE, by rw [hF]; exact hm5⟩)
          clear hE hF
          have kr := kr.on bx
          have hck := chkP_any ⟨⟨V1, m1, y1⟩, ⟨V2, v2, y2⟩, ⟨V3, v3, y3⟩, ⟨V4, v4, y4⟩, ⟨V6, v6, y6⟩⟩ (sprP P m1) wc oq.at
          unfold PrV.v Sl.v at hck
          simp only [] at hck
          obtain ⟨z, hz⟩ : ∃ z, Hid (z = chkP (sprP P m1)) := ⟨_, Lib.hid rfl⟩
          rw [← hz.out] at hck
          have bw := bb.trans (bx.mono bb.size)
          have x0 : wc.cell? ⟨g, 0, none⟩ = some (.slice V1 m1 y1) := (kg.cell 0).trans rfl
          have x1 : wc.cell? ⟨g, 1, none⟩ = some (.slice V2 v2 y2) := (kg.cell 1).trans rfl
          have x2 : wc.cell? ⟨g, 2, none⟩ = some (.slice V3 v3 y3) := (kg.cell 2).trans rfl
          have x3 : wc.cell? ⟨g, 3, none⟩ = some (.slice V4 v4 y4) := (kg.cell 3).trans rfl
          have x4 : wc.cell? ⟨g, 4, none⟩ = some (.slice V6 v6 y6) := (kg.cell 4).trans rfl
          go_wp2_with fail
          refine hck.mono ?_
          rintro e W6 ⟨rfl, b6⟩
          have kg := kg.on b6
          have kr := kr.on b6
          have oq := oq.on b6
          have bw := bw.trans (b6.mono bw.size)
          clear hck x0 x1 x2 x3 x4
          have x0 : W6.cell? ⟨g, 0, none⟩ = some (.slice V1 m1 y1) := (kg.cell 0).trans rfl
          have x1 : W6.cell? ⟨g, 1, none⟩ = some (.slice V2 v2 y2) := (kg.cell 1).trans rfl
          have x2 : W6.cell? ⟨g, 2, none⟩ = some (.slice V3 v3 y3) := (kg.cell 2).trans rfl
          have x3 : W6.cell? ⟨g, 3, none⟩ = some (.slice V4 v4 y4) := (kg.cell 3).trans rfl
          have x4 : W6.cell? ⟨g, 4, none⟩ = some (.slice V6 v6 y6) := (kg.cell 4).trans rfl
          have r0 : W6.cell? ⟨w.heap.size + 1, 0, none⟩ = some (.slice none 0 0) := (kr.cell 0).trans rfl
          have r1 : W6.cell? ⟨w.heap.size + 1, 1, none⟩ = some (.slice none 0 0) := (kr.cell 1).trans rfl
          have r2 : W6.cell? ⟨w.heap.size + 1, 2, none⟩ = some (.slice none 0 0) := (kr.cell 2).trans rfl
          have r3 : W6.cell? ⟨w.heap.size + 1, 3, none⟩ = some (.slice none 0 0) := (kr.cell 3).trans rfl
          have r4 : W6.cell? ⟨w.heap.size + 1, 4, none⟩ = some (.slice none 0 0) := (kr.cell 4).trans rfl
          have f0 := kr.frozen 0
          have f1 := kr.frozen 1
          have f2 := kr.frozen 2
          have f3 := kr.frozen 3
          have f4 := kr.frozen 4
          by_cases h0 : z = 0
          · have hzb : (z != 0) = false := by simpa using h0
            subst h0
            go_wp2_with fail
            refine ret_ct rfl (w.heap.size + 1) _ _ _ _ _ _ rfl rfl (blk5 kr) rfl ?_
            exact ⟨bset5 bw (by omega), .inr ⟨HP.out.1, HP.out.2, .inr ⟨hz.out.symm, ⟨⟨V1, m1, y1⟩, ⟨V2, v2, y2⟩, ⟨V3, v3, y3⟩, ⟨V4, v4, y4⟩, ⟨V6, v6, y6⟩⟩, rfl, (oq.put5 kr (by decide)).at⟩⟩⟩
          · have hzb : (z != 0) = true := by simpa using h0
            go_wp2_with fail
            refine ret_ct rfl (w.heap.size + 1) _ _ _ _ _ _ rfl rfl (blk5 kr) rfl ?_
            exact ⟨bset5 bw (by omega), .inr ⟨HP.out.1, HP.out.2, .inl ⟨by rw [← hz.out]; exact h0, by have h9 := hz.out; subst h9; rfl⟩⟩⟩
  · have HN := Lib.hid (show P.elig.length ≠ sn ∨ (P.fix.length ≠ sn ∧ P.fix.length ≠ 0) from by rw [HE.out, HF.out]; omega)
    have r0 : W1.cell? ⟨w.heap.size + 1, 0, none⟩ = some (.slice none 0 0) := (kr.cell 0).trans rfl
    have r1 : W1.cell? ⟨w.heap.size + 1, 1, none⟩ = some (.slice none 0 0) := (kr.cell 1).trans rfl
    have r2 : W1.cell? ⟨w.heap.size + 1, 2, none⟩ = some (.slice none 0 0) := (kr.cell 2).trans rfl
    have r3 : W1.cell? ⟨w.heap.size + 1, 3, none⟩ = some (.slice none 0 0) := (kr.cell 3).trans rfl
    have r4 : W1.cell? ⟨w.heap.size + 1, 4, none⟩ = some (.slice none 0 0) := (kr.cell 4).trans rfl
    have f0 := kr.frozen 0
    have f1 := kr.frozen 1
    have f2 := kr.frozen 2
    have f3 := kr.frozen 3
    have f4 := kr.frozen 4
    by_cases h1 : m1 = sn
    · subst h1
      have h2 : ((m5 : Int) != (m1 : Int)) = true := by rw [bne_iff_ne]; omega
      have h3 : ((m5 : Int) != 0) = true := by rw [bne_iff_ne]; omega
      go_wp2_with fail
      refine ret_ct rfl (w.heap.size + 1) _ _ _ _ _ _ rfl rfl (blk5 kr) rfl ?_
      exact ⟨bset5 bb (by omega), .inl ⟨HN.out, rfl⟩⟩
    · have h2 : ((m1 : Int) != (sn : Int)) = true := by rw [bne_iff_ne]; omega
      go_wp2_with fail
      refine ret_ct rfl (w.heap.size + 1) _ _ _ _ _ _ rfl rfl (blk5 kr) rfl ?_
      exact ⟨bset5 bb (by omega), .inl ⟨HN.out, rfl⟩⟩
end Go.Proofs.YtfnhaoindehjdaaDoor
