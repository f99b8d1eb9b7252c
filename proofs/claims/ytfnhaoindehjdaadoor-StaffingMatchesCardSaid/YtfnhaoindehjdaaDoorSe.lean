/- A pack of texts: InR, PoA, PoB, PoL, PoC. -/
import Derived.Test.YtfnhaoindehjdaaDoorPk
import Derived.OrdersIn
import Derived.RangeFuncCalls
import Derived.Test.YtfnhaoindehjdaaDoorSc
import Derived.Test.YtfnhaoindehjdaaDoorPe
import Derived.LoopIn
import Derived.Deep.CutRange
import Derived.Deep.RegionWith
import Derived.Deep.QuietTactic
import Derived.BigQuiet
import Derived.Laws.ResultCell
import Derived.RangeFuncWrites
import Derived.RangeFuncLeaves
import Derived.Sort.CutIn
import Derived.Test.YtfnhaoindehjdaaDoorPj
/- Regions within a round of a range over a function: what was shown for a plain region serves. -/
namespace Go.Proofs.YtfnhaoindehjdaaDoor
open Go.RowKit
set_option linter.unusedVariables false
set_option linter.unusedSimpArgs false

section
variable {P : Program} {ops : Array Oper} {Q : Exit → Act → World → Prop} {md : Region.Mode} {l n : Nat}
theorem rowsIn_of {row : String} {args : Array Value} {w : World} {R : Value → World → Prop} (h : Rows P row args w R) : RowsIn (Fence.wide.inRound l) n P row args w R :=
  fun c cs _ => let ⟨v, w', r, s⟩ := h c cs; ⟨v, w', r, stepsIn_wide.2 s⟩
theorem opIn_of_wp {o : Oper} {a : Act} {w : World} {K : Act → World → Prop} (hd : ∀ c, o.op ≠ .defer c) (h : o.wp P a w K Q) : o.wpIn (Fence.wide.inRound l) n P a w K Q := by
  refine ⟨fun _ _ => trivial, ?_⟩
  rw [Oper.semAt_eq _ _ _ hd]
  unfold Oper.wp at h
  generalize (execOp a.eval o).run P w = r at *
  cases r with
  | ok x w' =>
    cases x with
    | value v => exact h
    | skip => exact h
    | defer d => exact h
    | enter f args => exact ⟨(fun e => by cases e), CallsIn.inRound l (callsIn_wide.2 h)⟩
    | row row args => exact ⟨(fun e => by cases e), rowsIn_of h⟩
    | _ => exact h.elim
  | halt x w' => cases x <;> first | exact h | exact h.elim
theorem wpOpIn_of_wpOp {i : Nat} {a : Act} {w : World} {K K' : Act → World → Prop} (hd : noDefer ops = true) (hL : ¬ LetsOut Q) (hK : ∀ a w, K a w → K' a w) (h : wpOp P ops Q i K a w) : wpOpIn (Fence.wide.inRound l) n P ops Q i K' a w := by
  unfold wpOp at h
  unfold wpOpIn
  split
  · exact hK _ _ (by simpa [*] using h)
  · rename_i o ho
    simp only [ho] at h
    split
    · rename_i hw
      simp only [hw, if_true] at h
      exact Oper.wpIn_mono hK (opIn_of_wp (fun c => noDefer_ne hd ho c) (h.resolve_right fun hh => hL hh.2))
    · rename_i hw
      simp only [hw] at h
      exact ⟨fun _ _ => trivial, hK _ _ h⟩
theorem wpAnyIn_of_wpAny (hd : noDefer ops = true) (hL : ¬ LetsOut Q) : ∀ (fuel : Nat) (listed : Array Bool) (a : Act) (w : World), wpAny P md ops Q fuel listed a w → wpAnyIn (Fence.wide.inRound l) n P md ops Q fuel listed a w
  | 0, _, _, _, h => h
  | fuel + 1, _, _, _, h => ⟨h.1, fun i hi => wpOpIn_of_wpOp hd hL (fun a' w' h' => wpAnyIn_of_wpAny hd hL fuel _ a' w' h') (h.2 i hi)⟩
theorem wpIn_region_F {id : Nat} {a : Act} {w : World} (D : Nat → Bool) (S : World → Prop) (hd : noDefer ops = true) (hL : ¬ LetsOut Q) (hm : P.follows .mixedOrders = true) (hS : S w.drew)
    (h : S w.drew → wpAnyF P .any ops Q D S ops.size (Array.replicate ops.size false) a w.drew) : (Code.region id ops true).wpIn (Fence.wide.inRound l) n P Q a w :=
  wpIn_region_any hm (wpAnyIn_of_wpAny hd hL _ _ _ _ (wpAny_of_F _ _ _ _ (h hS)))
end
end Go.Proofs.YtfnhaoindehjdaaDoor
/- Possible: the body of the range over the users. (genpos.py) -/
namespace Go.Proofs.YtfnhaoindehjdaaDoor
open Go.RowKit
set_option linter.unusedVariables false
set_option linter.unusedSimpArgs false
attribute [local go_sem] Oper.semAt_some

noncomputable def posBody : Code := Tryd.f19.body.getD .skip
noncomputable def posPart (k : Nat) : Code := headC (tailC k posBody)
noncomputable def posRf : Code := (rfOf (posPart 4)).getD .skip
noncomputable def posRound : Code := rfBody posRf
/-- Only block g has turned. -/
structure OnlyB (w w' : World) (g : Nat) : Prop where
  os : w'.os = w.os
  tape : w'.tape = w.tape
  output : w'.output = w.output
  size : w.heap.size ≤ w'.heap.size
  block : ∀ k, k < w.heap.size → k ≠ g → w'.heap[k]? = w.heap[k]?
theorem OnlyB.refl (w : World) (g : Nat) : OnlyB w w g := ⟨rfl, rfl, rfl, Nat.le_refl _, fun _ _ _ => rfl⟩
theorem OnlyB.trans {a b c : World} {g : Nat} (h : OnlyB a b g) (k : OnlyB b c g) : OnlyB a c g :=
  ⟨k.os.trans h.os, k.tape.trans h.tape, k.output.trans h.output, Nat.le_trans h.size k.size, fun i hi hg => (k.block i (Nat.lt_of_lt_of_le hi h.size) hg).trans (h.block i hi hg)⟩
theorem OnlyB.ofBelow {w w' : World} (h : Below w.heap.size w w') (g : Nat) : OnlyB w w' g := ⟨h.os, h.tape, h.output, h.size, fun k hk _ => h.block k hk⟩
theorem OnlyB.below {w w' : World} {g B : Nat} (h : OnlyB w w' g) (hB : B ≤ w.heap.size) (hg : B ≤ g) : Below B w w' := ⟨h.os, h.tape, h.output, h.size, fun k hk => h.block k (by omega) (by omega)⟩
theorem OnlyB.blk {w w' : World} {g k t : Nat} {cs : Array Value} (h : OnlyB w w' g) (hb : Blk w k t cs) (hk : k ≠ g) : Blk w' k t cs := (h.block k hb.lt hk).trans hb
theorem OnlyB.set {w w' : World} {g i : Nat} (h : OnlyB w w' g) (u : Value) : OnlyB w (w'.setCell ⟨g, i, none⟩ u) g :=
  ⟨h.os, h.tape, h.output, by have := h.size; simpa using this, fun k hk hg => (Below.heap_setCell w' ⟨g, i, none⟩ u k hg).trans (h.block k hk hg)⟩
theorem OnlyB.setF {w w' : World} {g x i : Nat} (h : OnlyB w w' g) (hx : w.heap.size ≤ x) (u : Value) : OnlyB w (w'.setCell ⟨x, i, none⟩ u) g :=
  ⟨h.os, h.tape, h.output, by have := h.size; simpa using this, fun k hk hg => (Below.heap_setCell w' ⟨x, i, none⟩ u k (show k ≠ x by omega)).trans (h.block k hk hg)⟩
theorem OnlyB.more {w w' w'' : World} {g : Nat} (h : OnlyB w w' g) (hb : Below w.heap.size w' w'') : OnlyB w w'' g :=
  ⟨hb.os.trans h.os, hb.tape.trans h.tape, hb.output.trans h.output, Nat.le_trans h.size hb.size, fun k hk hg => (hb.block k hk).trans (h.block k hk hg)⟩
/-- Whether a user is kept. -/
def pkB (P : Pr) (k : Nat) (u : Int) : Bool := (decide (atI P.fix k = 0) || decide (atI P.fix k = u)) && solvB (setFix P k u)
/-- What the users pre have left in step k's row. -/
structure PI (W0 : World) (P : Pr) (gO k : Nat) (vs0 : List Value) (pre : List Nat) (W : World) : Prop where
  row : ∃ A n c, Blk W gO 30 (vs0.set k (.slice A n c)).toArray ∧ OwnI W W0.heap.size (.slice A n c) n ((pre.map fun x : Nat => (x : Int)).filter (pkB P k)) ∧ n ≤ pre.length
  mv : OnlyB W0 W gO
/-- What the rounds know. -/
structure Ps (w W0 : World) (P : Pr) (A1 A2 A3 A4 A5 : Option Addr) (n1 c1 n2 c2 n3 c3 n4 c4 n5 c5 g3 gO gK k : Nat) (vs0 : List Value) : Prop where
  hT : Tab w
  pr : PrAt w w.heap.size ⟨⟨A1, n1, c1⟩, ⟨A2, n2, c2⟩, ⟨A3, n3, c3⟩, ⟨A4, n4, c4⟩, ⟨A5, n5, c5⟩⟩ P
  hc : chkP P = 0
  sm : SmP P
  low : Below w.heap.size w W0
  bp : Blk W0 w.heap.size 32 #[.slice A1 n1 c1, .slice A2 n2 c2, .slice A3 n3 c3, .slice A4 n4 c4, .slice A5 n5 c5]
  b3 : Blk W0 g3 37 #[.slice (some ⟨gO, 0, none⟩) n1 n1]
  bk : Blk W0 gK 3 #[.int .i64 (k : Int)]
  kl : k < n1
  gOb : w.heap.size ≤ gO
  gOl : gO < W0.heap.size
  vl : vs0.length = n1
  b0 : Blk W0 gO 30 vs0.toArray
theorem pk_no {P : Pr} {k : Nat} {pre : List Nat} {x : Nat} (h : pkB P k x = false) : ((pre ++ [x]).map fun x : Nat => (x : Int)).filter (pkB P k) = (pre.map fun x : Nat => (x : Int)).filter (pkB P k) := by
  rw [List.map_append, List.filter_append]; simp [h]
theorem pk_yes {P : Pr} {k : Nat} {pre : List Nat} {x : Nat} (h : pkB P k x = true) : ((pre ++ [x]).map fun x : Nat => (x : Int)).filter (pkB P k) = (pre.map fun x : Nat => (x : Int)).filter (pkB P k) ++ [(x : Int)] := by
  rw [List.map_append, List.filter_append]; simp [h]
set_option maxHeartbeats 8000000 in
set_option maxRecDepth 100000 in
theorem pos_body {w W0 : World} {P : Pr} {A1 A2 A3 A4 A5 : Option Addr} {n1 c1 n2 c2 n3 c3 n4 c4 n5 c5 g3 gO gK k : Nat} {vs0 : List Value} (h : Ps w W0 P A1 A2 A3 A4 A5 n1 c1 n2 c2 n3 c3 n4 c4 n5 c5 g3 gO gK k vs0)
    (lno : Nat) (pre : List Nat) (x : Nat) (W : World) (hx : 1 ≤ x ∧ x ≤ 256) (hlt : pre.length < 4096) (hI : PI W0 P gO k vs0 pre W)
    (Q : Exit → Act → World → Prop) (hO : ¬ LetsOut Q) (hPan : ∀ c a a' w, Q (.panic c) a w → Q (.panic c) a' w)
    (hN : ∀ a W', KeepsFrom W0.heap.size W W' → Below w.heap.size W W' → PI W0 P gO k vs0 (pre ++ [x]) W' → Q .normal a W')
    (cx2 cx6 cx7 cx8 cx9 cx10 cx11 cx12 cx13 cx14 cx15 cx16 cx17 cx18 cx19 cx20 cx21 cx22 cx23 cx24 cx25 cx26 cx27 cx28 cx29 cx30 cx31 cx32 cx33 cx34 cx35 cx36 cx37 cx38 cx39 cx40 cx41 cx42 cx43 cx44 cx45 cx46 cx47 cx48 cx49 cx50 cx51 cx52 cx53 cx54 cx55 cx56 cx57 cx58 cx59 cx60 cx61 cx62 cx63 cx64 cx65 cx66 cx67 cx68 : Value) :
    posRound.wpIn (Fence.wide.inRound lno) 3 Tryd.prog Q ⟨#[.agg #[.slice A1 n1 c1, .slice A2 n2 c2, .slice A3 n3 c3, .slice A4 n4 c4, .slice A5 n5 c5], .pointer (some ⟨w.heap.size, 0, none⟩), cx2, .pointer (some ⟨g3, 0, none⟩), .pointer (some ⟨gK, 0, none⟩), .int .i64 (x : Int), cx6, cx7, cx8, cx9, cx10, cx11, cx12, cx13, cx14, cx15, cx16, cx17, cx18, cx19, cx20, cx21, cx22, cx23, cx24, cx25, cx26, cx27, cx28, cx29, cx30, cx31, cx32, cx33, cx34, cx35, cx36, cx37, cx38, cx39, cx40, cx41, cx42, cx43, cx44, cx45, cx46, cx47, cx48, cx49, cx50, cx51, cx52, cx53, cx54, cx55, cx56, cx57, cx58, cx59, cx60, cx61, cx62, cx63, cx64, cx65, cx66, cx67, cx68], []⟩ W := by
  obtain ⟨hT, pr, hc, sm, low, bp, b3, bk, hkl, gOb, gOl, vl, bO0⟩ := h
  obtain ⟨⟨A, n, c, bO, ho, hn⟩, mv⟩ := hI
  have ok := chkP_ok hc
  have hg0 : 0 < w.heap.size := World.block_lt_of_cell? w _ (hT 0 (by omega))
  have lowW : Below w.heap.size w W := low.trans (mv.below (Nat.le_of_lt gOl) (Nat.le_refl _) |>.mono gOb)
  have bp' := mv.blk bp (bp.apart bO0 (by decide))
  have b3' := mv.blk b3 (b3.apart bO0 (by decide))
  have bk' := mv.blk bk (bk.apart bO0 (by decide))
  have y4 : W.cell? ⟨w.heap.size, 4, none⟩ = some (.slice A5 n5 c5) := (bp'.cell 4).trans rfl
  have y0 : W.cell? ⟨w.heap.size, 0, none⟩ = some (.slice A1 n1 c1) := (bp'.cell 0).trans rfl
  have y1 : W.cell? ⟨w.heap.size, 1, none⟩ = some (.slice A2 n2 c2) := (bp'.cell 1).trans rfl
  have y2 : W.cell? ⟨w.heap.size, 2, none⟩ = some (.slice A3 n3 c3) := (bp'.cell 2).trans rfl
  have y3 : W.cell? ⟨w.heap.size, 3, none⟩ = some (.slice A4 n4 c4) := (bp'.cell 3).trans rfl
  have yk : W.cell? ⟨gK, 0, none⟩ = some (.int .i64 (k : Int)) := (bk'.cell 0).trans rfl
  have hl5 : P.fix.length = n5 := pr.l5
  have hl1 : P.elig.length = n1 := pr.l1
  have h51 : n5 = n1 := by rw [← hl5, ← hl1]; exact ok.fixl
  have hb5 : n5 ≤ 1000000 := pr.b5
  have prW := (pr.below lowW).more lowW.size
  have hs5 : Sees W W.heap.size A5 (P.fix.map iv) := prW.e5
  obtain ⟨fb, fo, f, eA5, _, Hf, hcf⟩ := Sees.int (k := k) hs5 (by rw [hl5]; omega)
  have hfat : atI P.fix k = f := by unfold atI; rw [Hf.out]; rfl
  have hk5 : (k : Int) < (n5 : Int) := by omega
  have hxi : (1 : Int) ≤ (x : Int) ∧ (x : Int) ≤ 256 := by omega
  subst eA5
  by_cases hskip : f ≠ 0 ∧ f ≠ (x : Int)
  · have hpk : pkB P k (x : Int) = false := by unfold pkB; rw [hfat, decide_eq_false hskip.1, decide_eq_false hskip.2]; rfl
    have e1 : (f != 0) = true := by simpa using hskip.1
    have e2 : (f != (x : Int)) = true := by simpa using hskip.2
    have hP : PI W0 P gO k vs0 (pre ++ [x]) W := ⟨⟨A, n, c, bO, by rw [pk_no hpk]; exact ho, by simp; omega⟩, mv⟩
    have HP := Lib.hid hP
    have HN := Lib.hid hN
    clear hP hpk hfat hskip bO ho mv hl5 hl1 h51 hN
    conv => arg 4; whnf
    gi_wp2
    exact HN.out _ _ (KeepsFrom.refl _ _) (Below.refl _ _) HP.out
  · have hor : atI P.fix k = 0 ∨ atI P.fix k = (x : Int) := by rw [hfat]; omega
    have hpk : pkB P k (x : Int) = solvB (setFix P k (x : Int)) := by
      unfold pkB
      rcases hor with e | e
      · rw [e]; simp
      · rw [e]; simp
    have hc' : chkP (setFix P k (x : Int)) = 0 := chkP_of (ok_setFix ok (by omega))
    have sm' : SmP (setFix P k (x : Int)) := sm
    have hcl := fun (W' : World) (hW : Below w.heap.size w W') => cloneI_any (some ⟨fb, fo, none⟩) n5 c5 P.fix W' (((pr.below hW).more hW.size).e5) hl5 (by omega)
    have hsv := fun (W' : World) (A6 : Option Addr) (c6 : Nat) (hW : Below w.heap.size w W') (h6 : OwnI W' w.heap.size (.slice A6 n5 c6) n5 (P.fix.set k (x : Int))) =>
      solvable_any ⟨⟨A1, n1, c1⟩, ⟨A2, n2, c2⟩, ⟨A3, n3, c3⟩, ⟨A4, n4, c4⟩, ⟨A6, n5, c6⟩⟩ (setFix P k (x : Int)) W'
        (by
          have h9 := (pr.below hW).more hW.size
          exact ⟨h9.l1, h9.l2, h9.l3, h9.l4, by show (P.fix.set k (x : Int)).length = n5; rw [List.length_set]; exact hl5, h9.e1, h9.e2, h9.e3, h9.e4, OwnI.sees h6, h9.b1, h9.b2, h9.b3, h9.b4, hb5, OwnI.room h6⟩) (hT.below hW hg0) (fun _ => sm')
    unfold PrV.v Sl.v at hsv
    simp only [] at hsv
    obtain ⟨v, hv⟩ : ∃ v, Hid (v = solvB (setFix P k (x : Int))) := ⟨_, Lib.hid rfl⟩
    rw [← hv.out] at hpk hsv
    have HCL := Lib.hid hcl
    have HSV := Lib.hid hsv
    have HPK := Lib.hid hpk
    have HN := Lib.hid hN
    have HO := Lib.hid ho
    have HMV := Lib.hid mv
    have HL5 := Lib.hid hl5
    have H51 := Lib.hid h51
    have BO := Lib.hid bO
    clear hcl hsv hpk hN ho mv hl5 hl1 h51 bO hc' sm' hfat hor hs5
    have kq := Blk.new W 32 #[.slice A1 n1 c1, .slice A2 n2 c2, .slice A3 n3 c3, .slice A4 n4 c4, .slice (some ⟨fb, fo, none⟩) n5 c5]
    have cases2 : (f = 0) ∨ (f ≠ 0 ∧ f = (x : Int)) := by omega
    rcases cases2 with hf | ⟨hf, hf2⟩
    · have e1 : (f != 0) = false := by simpa using hf
      clear hskip
      conv => arg 4; whnf
      gi_upto_region 13 with (fail)
      have b1 := bAl (Below.refl W.heap.size W) (.cells #[.slice A1 n1 c1, .slice A2 n2 c2, .slice A3 n3 c3, .slice A4 n4 c4, .slice (some ⟨fb, fo, none⟩) n5 c5] 32)
      generalize (W.alloc (.cells #[.slice A1 n1 c1, .slice A2 n2 c2, .slice A3 n3 c3, .slice A4 n4 c4, .slice (some ⟨fb, fo, none⟩) n5 c5] 32)) = W1 at kq b1 ⊢
      have y4 : W1.cell? ⟨w.heap.size, 4, none⟩ = some (.slice (some ⟨fb, fo, none⟩) n5 c5) := ((bp'.on b1).cell 4).trans rfl
      have low1 := lowW.trans (b1.mono lowW.size)
      have hcl := HCL.out W1 low1
      gi_wp2
      refine ⟨trivial, (CallsIn.inRound lno (callsIn_wide.2 hcl)).mono ?_⟩
      rintro e W2 ⟨A6, c6, rfl, o6, b2⟩
      have kq := kq.on b2
      have b12 := b1.trans (b2.mono b1.size)
      have low2 := low1.trans (b2.mono low1.size)
      have z4 : W2.cell? ⟨W.heap.size, 4, none⟩ = some (.slice (some ⟨fb, fo, none⟩) n5 c5) := (kq.cell 4).trans rfl
      have fz4 := kq.frozen 4
      obtain ⟨g6, cs6, e6, hg6, hb6⟩ := own_blk o6 (by omega)
      subst e6
      have hg6W := Nat.le_trans b1.size hg6
      have hne6 : W.heap.size ≠ g6 := kq.apart hb6 (by decide)
      clear hcl y0 y1 y2 y3
      gi_upto_region 14 with (fail)
      have kq3 : Blk (W2.setCell ⟨W.heap.size, 4, none⟩ (.slice (some ⟨g6, 0, none⟩) n5 c6)) W.heap.size 32 #[.slice A1 n1 c1, .slice A2 n2 c2, .slice A3 n3 c3, .slice A4 n4 c4, .slice (some ⟨g6, 0, none⟩) n5 c6] := by simpa using kq.put 4 (.slice (some ⟨g6, 0, none⟩) n5 c6)
      have o63 : OwnI (W2.setCell ⟨W.heap.size, 4, none⟩ (.slice (some ⟨g6, 0, none⟩) n5 c6)) W1.heap.size (.slice (some ⟨g6, 0, none⟩) n5 c6) n5 P.fix := OwnI.same o6 fun j hj => Below.heap_setCell W2 _ _ j (by injection hj with hj; rw [← hj]; exact Ne.symm hne6)
      have b13 : Below W.heap.size W (W2.setCell ⟨W.heap.size, 4, none⟩ (.slice (some ⟨g6, 0, none⟩) n5 c6)) := b12.setCell (p := ⟨W.heap.size, 4, none⟩) (Nat.le_refl _) _
      have hkp : KeepsFrom W0.heap.size W (W2.setCell ⟨W.heap.size, 4, none⟩ (.slice (some ⟨g6, 0, none⟩) n5 c6)) := KeepsFrom.trans (Y := W2) ⟨b12.size, fun j o _ hj _ => (b12.block j (Array.getElem?_eq_some_iff.1 hj).1).trans hj⟩ ((KeepsOthers.setCell _ _ _).from _)
      generalize (W2.setCell ⟨W.heap.size, 4, none⟩ (.slice (some ⟨g6, 0, none⟩) n5 c6)) = W3 at kq3 o63 b13 hkp ⊢
      clear z4 fz4 kq o6 hb6
      have low3 := lowW.trans (b13.mono lowW.size)
      obtain ⟨cs7, hb7, _⟩ := own_type o63 rfl
      have z4 : W3.cell? ⟨W.heap.size, 4, none⟩ = some (.slice (some ⟨g6, 0, none⟩) n5 c6) := (kq3.cell 4).trans rfl
      have yk3 : W3.cell? ⟨gK, 0, none⟩ = some (.int .i64 (k : Int)) := ((bk'.on b13).cell 0).trans rfl
      obtain ⟨q9, y9⟩ : ∃ y, W3.cell? ⟨g6, k, none⟩ = some y := by
        obtain ⟨b, o, z', e, hb2, Hz, hc⟩ := Sees.int (k := k) (OwnI.sees o63) (by rw [HL5.out]; omega)
        injection e with e
        injection e with e1 e2
        subst e1 e2
        rw [Nat.zero_add] at hc
        exact ⟨_, hc⟩
      have f9 := hb7.frozen k
      gi_upto_region 15 with (fail)
      have kq4 : Blk (W3.setCell ⟨g6, k, none⟩ (.int .i64 (x : Int))) W.heap.size 32 #[.slice A1 n1 c1, .slice A2 n2 c2, .slice A3 n3 c3, .slice A4 n4 c4, .slice (some ⟨g6, 0, none⟩) n5 c6] := kq3.far (p := ⟨g6, k, none⟩) hne6 _
      have o64 : OwnI (W3.setCell ⟨g6, k, none⟩ (.int .i64 (x : Int))) W1.heap.size (.slice (some ⟨g6, 0, none⟩) n5 c6) n5 (P.fix.set k (x : Int)) := OwnI.set o63 (by omega) _
      have b14 : Below W.heap.size W (W3.setCell ⟨g6, k, none⟩ (.int .i64 (x : Int))) := b13.setCell (p := ⟨g6, k, none⟩) hg6W _
      have hkp4 : KeepsFrom W0.heap.size W (W3.setCell ⟨g6, k, none⟩ (.int .i64 (x : Int))) := hkp.trans ((KeepsOthers.setCell _ _ _).from _)
      generalize (W3.setCell ⟨g6, k, none⟩ (.int .i64 (x : Int))) = W4 at kq4 o64 b14 hkp4 ⊢
      clear z4 yk3 y9 f9 kq3 o63 hb7 b13 hkp low3
      have low4 := lowW.trans (b14.mono lowW.size)
      have q0 : W4.cell? ⟨W.heap.size, 0, none⟩ = some (.slice A1 n1 c1) := (kq4.cell 0).trans rfl
      have q1 : W4.cell? ⟨W.heap.size, 1, none⟩ = some (.slice A2 n2 c2) := (kq4.cell 1).trans rfl
      have q2 : W4.cell? ⟨W.heap.size, 2, none⟩ = some (.slice A3 n3 c3) := (kq4.cell 2).trans rfl
      have q3 : W4.cell? ⟨W.heap.size, 3, none⟩ = some (.slice A4 n4 c4) := (kq4.cell 3).trans rfl
      have q4 : W4.cell? ⟨W.heap.size, 4, none⟩ = some (.slice (some ⟨g6, 0, none⟩) n5 c6) := (kq4.cell 4).trans rfl
      have hsv := HSV.out W4 _ _ low4 (OwnI.more o64 low1.size)
      gi_wp2
      refine ⟨trivial, (CallsIn.inRound lno (callsIn_wide.2 hsv)).mono ?_⟩
      rintro e W5 ⟨rfl, b5⟩
      have b15 := b14.trans (b5.mono b14.size)
      have low5 := lowW.trans (b15.mono lowW.size)
      have hkp5 : KeepsFrom W0.heap.size W W5 := hkp4.trans ⟨b5.size, fun j o _ hj _ => (b5.block j (Array.getElem?_eq_some_iff.1 hj).1).trans hj⟩
      clear q0 q1 q2 q3 q4 hsv kq4 o64 b14 hkp4 low4 b5
      cases hvv : v
      · have hpk : pkB P k (x : Int) = false := by rw [HPK.out, hvv]
        have HP : Hid (PI W0 P gO k vs0 (pre ++ [x]) W5) := Lib.hid ⟨⟨A, n, c, BO.out.on b15, by rw [pk_no hpk]; exact OwnI.on HO.out b15, by simp; omega⟩, HMV.out.more (b15.mono HMV.out.size)⟩
        clear hpk hvv
        gi_wp2
        exact HN.out _ _ hkp5 (b15.mono lowW.size) HP.out
      · have hpk : pkB P k (x : Int) = true := by rw [HPK.out, hvv]
        have HPk := Lib.hid hpk
        clear hpk hvv
        gi_wp2
        have bO5 := BO.out.on b15
        have k35 := b3'.on b15
        have kk5 := bk'.on b15
        have ho5 := OwnI.on HO.out b15
        have mv5 := HMV.out.more (b15.mono HMV.out.size)
        have hko : k < (vs0.set k (.slice A n c)).length := by rw [List.length_set, vl]; exact hkl
        obtain ⟨SS, hSS⟩ : ∃ S : World → Prop, S = (fun W => W.cell? ⟨g3, 0, none⟩ = some (.slice (some ⟨gO, 0, none⟩) n1 n1) ∧ W.cell? ⟨gK, 0, none⟩ = some (.int .i64 (k : Int)) ∧ W.cell? ⟨gO, k, none⟩ = some (.slice A n c)) := ⟨_, rfl⟩
        have sB : ∀ W, Blk W g3 37 #[.slice (some ⟨gO, 0, none⟩) n1 n1] → Blk W gK 3 #[.int .i64 (k : Int)] → Blk W gO 30 (vs0.set k (.slice A n c)).toArray → SS W := fun W h1 h2 h3 => by
          rw [hSS]
          refine ⟨(h1.cell 0).trans rfl, (h2.cell 0).trans rfl, (h3.cell k).trans ?_⟩
          rw [List.getElem?_toArray, List.getElem?_set_self (by rw [vl]; exact hkl)]
        have hk1 : (k : Int) < (n1 : Int) := by omega
        have hLO : ¬ LetsOut (Exit.inBlock 3 Q) := fun ⟨a, w, h⟩ => hO ⟨a, w, h⟩
        refine wpIn_region_F (fun i => i == 10) SS (by kernel_rfl) hLO (by kernel_rfl) (sB _ (k35.on (Below.refl _ _).drew) (kk5.on (Below.refl _ _).drew) (bO5.on (Below.refl _ _).drew)) (fun hHeld => ?_)
        have bd : Below W5.heap.size W5 W5.drew := (Below.refl _ _).drew
        have bO5 := bO5.on bd
        have k35 := k35.on bd
        have kk5 := kk5.on bd
        have ho5 := OwnI.on ho5 bd
        have mv5 := mv5.more (bd.mono mv5.size)
        have b15 := b15.trans (bd.mono b15.size)
        have low5 := lowW.trans (b15.mono lowW.size)
        have hkp5 : KeepsFrom W0.heap.size W W5.drew := hkp5.trans ⟨Nat.le_refl _, fun j o _ hj _ => hj⟩
        generalize W5.drew = W6 at hHeld bO5 k35 kk5 ho5 mv5 b15 low5 hkp5 ⊢
        clear bd
        refine wpAnyF_take (i := 0) (v := ?_) rfl (by kernel_rfl) (by kernel_rfl) (by kernel_rfl) (by kernel_rfl) (fun _ _ _ h => hPan _ _ _ _ h) hHeld (Or.inl ⟨by rfl, ?_⟩) ?_
        rotate_left
        · (intro w hSw; (try rw [hSS] at hSw); (try dsimp only at hSw); go_simp; try with_reducible rfl)
        try simp only [Act.put, List.getElem_toArray, List.getElem_cons_zero, List.getElem_cons_succ, List.setIfInBounds_toArray, List.set_cons_zero, List.set_cons_succ]
        refine wpAnyF_take (i := 1) (v := ?_) rfl (by kernel_rfl) (by kernel_rfl) (by kernel_rfl) (by kernel_rfl) (fun _ _ _ h => hPan _ _ _ _ h) hHeld (Or.inl ⟨by rfl, ?_⟩) ?_
        rotate_left
        · (intro w hSw; (try rw [hSS] at hSw); (try dsimp only at hSw); go_simp; try with_reducible rfl)
        try simp only [Act.put, List.getElem_toArray, List.getElem_cons_zero, List.getElem_cons_succ, List.setIfInBounds_toArray, List.set_cons_zero, List.set_cons_succ]
        refine wpAnyF_take (i := 2) (v := ?_) rfl (by kernel_rfl) (by kernel_rfl) (by kernel_rfl) (by kernel_rfl) (fun _ _ _ h => hPan _ _ _ _ h) hHeld (Or.inl ⟨by rfl, ?_⟩) ?_
        rotate_left
        · (intro w hSw; (try rw [hSS] at hSw); (try dsimp only at hSw); go_simp; try with_reducible rfl)
        try simp only [Act.put, List.getElem_toArray, List.getElem_cons_zero, List.getElem_cons_succ, List.setIfInBounds_toArray, List.set_cons_zero, List.set_cons_succ]
        refine wpAnyF_take (i := 3) (v := ?_) rfl (by kernel_rfl) (by kernel_rfl) (by kernel_rfl) (by kernel_rfl) (fun _ _ _ h => hPan _ _ _ _ h) hHeld (Or.inl ⟨by rfl, ?_⟩) ?_
        rotate_left
        · (intro w hSw; (try rw [hSS] at hSw); (try dsimp only at hSw); go_simp; try with_reducible rfl)
        try simp only [Act.put, List.getElem_toArray, List.getElem_cons_zero, List.getElem_cons_succ, List.setIfInBounds_toArray, List.set_cons_zero, List.set_cons_succ]
        refine wpAnyF_take (i := 4) (v := ?_) rfl (by kernel_rfl) (by kernel_rfl) (by kernel_rfl) (by kernel_rfl) (fun _ _ _ h => hPan _ _ _ _ h) hHeld (Or.inl ⟨by rfl, ?_⟩) ?_
        rotate_left
        · (intro w hSw; (try rw [hSS] at hSw); (try dsimp only at hSw); go_simp; try with_reducible rfl)
        try simp only [Act.put, List.getElem_toArray, List.getElem_cons_zero, List.getElem_cons_succ, List.setIfInBounds_toArray, List.set_cons_zero, List.set_cons_succ]
        refine wpAnyF_take (i := 5) (v := ?_) rfl (by kernel_rfl) (by kernel_rfl) (by kernel_rfl) (by kernel_rfl) (fun _ _ _ h => hPan _ _ _ _ h) hHeld (Or.inl ⟨by rfl, ?_⟩) ?_
        rotate_left
        · (intro w hSw; (try rw [hSS] at hSw); (try dsimp only at hSw); go_simp; try with_reducible rfl)
        try simp only [Act.put, List.getElem_toArray, List.getElem_cons_zero, List.getElem_cons_succ, List.setIfInBounds_toArray, List.set_cons_zero, List.set_cons_succ]
        refine wpAnyF_take (i := 6) (v := ?_) rfl (by kernel_rfl) (by kernel_rfl) (by kernel_rfl) (by kernel_rfl) (fun _ _ _ h => hPan _ _ _ _ h) hHeld (Or.inl ⟨by rfl, ?_⟩) ?_
        rotate_left
        · (intro w hSw; (try rw [hSS] at hSw); (try dsimp only at hSw); go_simp; try with_reducible rfl)
        try simp only [Act.put, List.getElem_toArray, List.getElem_cons_zero, List.getElem_cons_succ, List.setIfInBounds_toArray, List.set_cons_zero, List.set_cons_succ]
        refine wpAnyF_one (i := 7) (by kernel_rfl) rfl (fun K hK => ?_)
        go_simp
        refine hK.out _ _ (Or.inr (sB _ (k35.alloc _) (kk5.alloc _) (bO5.alloc _))) ?_
        clear hK K
        try simp only [Act.put, List.getElem_toArray, List.getElem_cons_zero, List.getElem_cons_succ, List.setIfInBounds_toArray, List.set_cons_zero, List.set_cons_succ]
        refine wpAnyF_one (i := 8) (by kernel_rfl) rfl (fun K hK => ?_)
        refine step_row1 3 30 _ 1 8 int_info Tryd.underlying30 rfl (by omega) (by omega) _ rfl (.tmp 62) (.tmp 64) rfl W6 W0.heap.size _ n _ rfl ho5 #[.int .i64 (x : Int)] rfl _ rfl rfl rfl (by simp [Value.oneCell']) (by omega) (Nat.le_of_lt (Nat.lt_of_lt_of_le gOl mv5.size) |> fun _ => mv5.size) (n + 1) rfl ?_
        intro A7 c7 w7 o7 g7 b7 k7
        have k37 := k35.grown g7 (own_off ho5 k35 (by decide))
        have kk7 := kk5.below b7 bk.lt
        have bO7 := bO5.grown g7 (own_off ho5 bO5 (by decide))
        refine hK.out _ _ (Or.inr (sB _ k37 kk7 bO7)) ?_
        clear hK K
        try simp only [Act.put, List.getElem_toArray, List.getElem_cons_zero, List.getElem_cons_succ, List.setIfInBounds_toArray, List.set_cons_zero, List.set_cons_succ]
        refine wpAnyF_one (i := 9) (by kernel_rfl) rfl (fun K hK => ?_)
        go_simp
        refine hK.out _ _ (Or.inr (sB _ k37 kk7 bO7)) ?_
        clear hK K
        try simp only [Act.put, List.getElem_toArray, List.getElem_cons_zero, List.getElem_cons_succ, List.setIfInBounds_toArray, List.set_cons_zero, List.set_cons_succ]
        refine wpAnyF_one (i := 10) (by kernel_rfl) rfl (fun K hK => ?_)
        have yO : w7.cell? ⟨gO, k, none⟩ = some (.slice A n c) := (bO7.cell k).trans (by rw [List.getElem?_toArray, List.getElem?_set_self (by rw [vl]; exact hkl)])
        have fO := bO7.frozen k
        go_simp
        refine hK.out _ _ (Or.inl rfl) ?_
        clear hK K
        refine wpAnyF_done (by kernel_rfl) ?_ _
        have hgOb : ∀ j, (Value.slice A7 (n + 1) c7).ownBlock = some j → j ≠ gO := fun j hj e => by
          have := (World.ownsRow.lt o7 j hj).1
          omega
        have bO8 : Blk (w7.setCell ⟨gO, k, none⟩ (.slice A7 (n + 1) c7)) gO 30 (vs0.set k (.slice A7 (n + 1) c7)).toArray := by
          have h9 := bO7.put k (.slice A7 (n + 1) c7)
          rw [List.setIfInBounds_toArray, List.set_set] at h9
          exact h9
        have o8 : OwnI (w7.setCell ⟨gO, k, none⟩ (.slice A7 (n + 1) c7)) W0.heap.size (.slice A7 (n + 1) c7) (n + 1) (((pre ++ [x]).map fun x : Nat => (x : Int)).filter (pkB P k)) := by
          rw [pk_yes HPk.out]
          refine OwnI.same (w := w7) ?_ fun j hj => Below.heap_setCell w7 _ _ j (hgOb j hj)
          show World.ownsRow _ _ _ _ _ _ _
          rw [List.map_append]
          exact o7
        have mv8 : OnlyB W0 (w7.setCell ⟨gO, k, none⟩ (.slice A7 (n + 1) c7)) gO := (mv5.more b7).set _
        have hkp8 : KeepsFrom W0.heap.size W (w7.setCell ⟨gO, k, none⟩ (.slice A7 (n + 1) c7)) := (hkp5.trans ((KeepsOthers.of_grownBy g7 (fun j o e ho => by
          obtain ⟨cs', hb', _⟩ := own_type ho5 e
          rw [show W6.heap[j]? = some (.cells cs' 3 (0, 0)) from hb'] at ho
          injection ho with ho
          subst ho
          rfl)).from _)).trans ((KeepsOthers.setCell _ _ _).from _)
        have low8 : Below w.heap.size W (w7.setCell ⟨gO, k, none⟩ (.slice A7 (n + 1) c7)) := (((b15.mono lowW.size).trans (b7.mono (Nat.le_trans low.size (Nat.le_refl _)))).setCell (p := ⟨gO, k, none⟩) gOb _)
        exact HN.out _ _ hkp8 low8 ⟨⟨A7, n + 1, c7, bO8, o8, by simp; omega⟩, mv8⟩
    · have e1 : (f != 0) = true := by simpa using hf
      have e2 : (f != (x : Int)) = false := by simpa using hf2
      clear hskip
      conv => arg 4; whnf
      gi_upto_region 13 with (fail)
      have b1 := bAl (Below.refl W.heap.size W) (.cells #[.slice A1 n1 c1, .slice A2 n2 c2, .slice A3 n3 c3, .slice A4 n4 c4, .slice (some ⟨fb, fo, none⟩) n5 c5] 32)
      generalize (W.alloc (.cells #[.slice A1 n1 c1, .slice A2 n2 c2, .slice A3 n3 c3, .slice A4 n4 c4, .slice (some ⟨fb, fo, none⟩) n5 c5] 32)) = W1 at kq b1 ⊢
      have y4 : W1.cell? ⟨w.heap.size, 4, none⟩ = some (.slice (some ⟨fb, fo, none⟩) n5 c5) := ((bp'.on b1).cell 4).trans rfl
      have low1 := lowW.trans (b1.mono lowW.size)
      have hcl := HCL.out W1 low1
      gi_wp2
      refine ⟨trivial, (CallsIn.inRound lno (callsIn_wide.2 hcl)).mono ?_⟩
      rintro e W2 ⟨A6, c6, rfl, o6, b2⟩
      have kq := kq.on b2
      have b12 := b1.trans (b2.mono b1.size)
      have low2 := low1.trans (b2.mono low1.size)
      have z4 : W2.cell? ⟨W.heap.size, 4, none⟩ = some (.slice (some ⟨fb, fo, none⟩) n5 c5) := (kq.cell 4).trans rfl
      have fz4 := kq.frozen 4
      obtain ⟨g6, cs6, e6, hg6, hb6⟩ := own_blk o6 (by omega)
      subst e6
      have hg6W := Nat.le_trans b1.size hg6
      have hne6 : W.heap.size ≠ g6 := kq.apart hb6 (by decide)
      clear hcl y0 y1 y2 y3
      gi_upto_region 14 with (fail)
      have kq3 : Blk (W2.setCell ⟨W.heap.size, 4, none⟩ (.slice (some ⟨g6, 0, none⟩) n5 c6)) W.heap.size 32 #[.slice A1 n1 c1, .slice A2 n2 c2, .slice A3 n3 c3, .slice A4 n4 c4, .slice (some ⟨g6, 0, none⟩) n5 c6] := by simpa using kq.put 4 (.slice (some ⟨g6, 0, none⟩) n5 c6)
      have o63 : OwnI (W2.setCell ⟨W.heap.size, 4, none⟩ (.slice (some ⟨g6, 0, none⟩) n5 c6)) W1.heap.size (.slice (some ⟨g6, 0, none⟩) n5 c6) n5 P.fix := OwnI.same o6 fun j hj => Below.heap_setCell W2 _ _ j (by injection hj with hj; rw [← hj]; exact Ne.symm hne6)
      have b13 : Below W.heap.size W (W2.setCell ⟨W.heap.size, 4, none⟩ (.slice (some ⟨g6, 0, none⟩) n5 c6)) := b12.setCell (p := ⟨W.heap.size, 4, none⟩) (Nat.le_refl _) _
      have hkp : KeepsFrom W0.heap.size W (W2.setCell ⟨W.heap.size, 4, none⟩ (.slice (some ⟨g6, 0, none⟩) n5 c6)) := KeepsFrom.trans (Y := W2) ⟨b12.size, fun j o _ hj _ => (b12.block j (Array.getElem?_eq_some_iff.1 hj).1).trans hj⟩ ((KeepsOthers.setCell _ _ _).from _)
      generalize (W2.setCell ⟨W.heap.size, 4, none⟩ (.slice (some ⟨g6, 0, none⟩) n5 c6)) = W3 at kq3 o63 b13 hkp ⊢
      clear z4 fz4 kq o6 hb6
      have low3 := lowW.trans (b13.mono lowW.size)
      obtain ⟨cs7, hb7, _⟩ := own_type o63 rfl
      have z4 : W3.cell? ⟨W.heap.size, 4, none⟩ = some (.slice (some ⟨g6, 0, none⟩) n5 c6) := (kq3.cell 4).trans rfl
      have yk3 : W3.cell? ⟨gK, 0, none⟩ = some (.int .i64 (k : Int)) := ((bk'.on b13).cell 0).trans rfl
      obtain ⟨q9, y9⟩ : ∃ y, W3.cell? ⟨g6, k, none⟩ = some y := by
        obtain ⟨b, o, z', e, hb2, Hz, hc⟩ := Sees.int (k := k) (OwnI.sees o63) (by rw [HL5.out]; omega)
        injection e with e
        injection e with e1 e2
        subst e1 e2
        rw [Nat.zero_add] at hc
        exact ⟨_, hc⟩
      have f9 := hb7.frozen k
      gi_upto_region 15 with (fail)
      have kq4 : Blk (W3.setCell ⟨g6, k, none⟩ (.int .i64 (x : Int))) W.heap.size 32 #[.slice A1 n1 c1, .slice A2 n2 c2, .slice A3 n3 c3, .slice A4 n4 c4, .slice (some ⟨g6, 0, none⟩) n5 c6] := kq3.far (p := ⟨g6, k, none⟩) hne6 _
      have o64 : OwnI (W3.setCell ⟨g6, k, none⟩ (.int .i64 (x : Int))) W1.heap.size (.slice (some ⟨g6, 0, none⟩) n5 c6) n5 (P.fix.set k (x : Int)) := OwnI.set o63 (by omega) _
      have b14 : Below W.heap.size W (W3.setCell ⟨g6, k, none⟩ (.int .i64 (x : Int))) := b13.setCell (p := ⟨g6, k, none⟩) hg6W _
      have hkp4 : KeepsFrom W0.heap.size W (W3.setCell ⟨g6, k, none⟩ (.int .i64 (x : Int))) := hkp.trans ((KeepsOthers.setCell _ _ _).from _)
      generalize (W3.setCell ⟨g6, k, none⟩ (.int .i64 (x : Int))) = W4 at kq4 o64 b14 hkp4 ⊢
      clear z4 yk3 y9 f9 kq3 o63 hb7 b13 hkp low3
      have low4 := lowW.trans (b14.mono lowW.size)
      have q0 : W4.cell? ⟨W.heap.size, 0, none⟩ = some (.slice A1 n1 c1) := (kq4.cell 0).trans rfl
      have q1 : W4.cell? ⟨W.heap.size, 1, none⟩ = some (.slice A2 n2 c2) := (kq4.cell 1).trans rfl
      have q2 : W4.cell? ⟨W.heap.size, 2, none⟩ = some (.slice A3 n3 c3) := (kq4.cell 2).trans rfl
      have q3 : W4.cell? ⟨W.heap.size, 3, none⟩ = some (.slice A4 n4 c4) := (kq4.cell 3).trans rfl
      have q4 : W4.cell? ⟨W.heap.size, 4, none⟩ = some (.slice (some ⟨g6, 0, none⟩) n5 c6) := (kq4.cell 4).trans rfl
      have hsv := HSV.out W4 _ _ low4 (OwnI.more o64 low1.size)
      gi_wp2
      refine ⟨trivial, (CallsIn.inRound lno (callsIn_wide.2 hsv)).mono ?_⟩
      rintro e W5 ⟨rfl, b5⟩
      have b15 := b14.trans (b5.mono b14.size)
      have low5 := lowW.trans (b15.mono lowW.size)
      have hkp5 : KeepsFrom W0.heap.size W W5 := hkp4.trans ⟨b5.size, fun j o _ hj _ => (b5.block j (Array.getElem?_eq_some_iff.1 hj).1).trans hj⟩
      clear q0 q1 q2 q3 q4 hsv kq4 o64 b14 hkp4 low4 b5
      cases hvv : v
      · have hpk : pkB P k (x : Int) = false := by rw [HPK.out, hvv]
        have HP : Hid (PI W0 P gO k vs0 (pre ++ [x]) W5) := Lib.hid ⟨⟨A, n, c, BO.out.on b15, by rw [pk_no hpk]; exact OwnI.on HO.out b15, by simp; omega⟩, HMV.out.more (b15.mono HMV.out.size)⟩
        clear hpk hvv
        gi_wp2
        exact HN.out _ _ hkp5 (b15.mono lowW.size) HP.out
      · have hpk : pkB P k (x : Int) = true := by rw [HPK.out, hvv]
        have HPk := Lib.hid hpk
        clear hpk hvv
        gi_wp2
        have bO5 := BO.out.on b15
        have k35 := b3'.on b15
        have kk5 := bk'.on b15
        have ho5 := OwnI.on HO.out b15
        have mv5 := HMV.out.more (b15.mono HMV.out.size)
        have hko : k < (vs0.set k (.slice A n c)).length := by rw [List.length_set, vl]; exact hkl
        obtain ⟨SS, hSS⟩ : ∃ S : World → Prop, S = (fun W => W.cell? ⟨g3, 0, none⟩ = some (.slice (some ⟨gO, 0, none⟩) n1 n1) ∧ W.cell? ⟨gK, 0, none⟩ = some (.int .i64 (k : Int)) ∧ W.cell? ⟨gO, k, none⟩ = some (.slice A n c)) := ⟨_, rfl⟩
        have sB : ∀ W, Blk W g3 37 #[.slice (some ⟨gO, 0, none⟩) n1 n1] → Blk W gK 3 #[.int .i64 (k : Int)] → Blk W gO 30 (vs0.set k (.slice A n c)).toArray → SS W := fun W h1 h2 h3 => by
          rw [hSS]
          refine ⟨(h1.cell 0).trans rfl, (h2.cell 0).trans rfl, (h3.cell k).trans ?_⟩
          rw [List.getElem?_toArray, List.getElem?_set_self (by rw [vl]; exact hkl)]
        have hk1 : (k : Int) < (n1 : Int) := by omega
        have hLO : ¬ LetsOut (Exit.inBlock 3 Q) := fun ⟨a, w, h⟩ => hO ⟨a, w, h⟩
        refine wpIn_region_F (fun i => i == 10) SS (by kernel_rfl) hLO (by kernel_rfl) (sB _ (k35.on (Below.refl _ _).drew) (kk5.on (Below.refl _ _).drew) (bO5.on (Below.refl _ _).drew)) (fun hHeld => ?_)
        have bd : Below W5.heap.size W5 W5.drew := (Below.refl _ _).drew
        have bO5 := bO5.on bd
        have k35 := k35.on bd
        have kk5 := kk5.on bd
        have ho5 := OwnI.on ho5 bd
        have mv5 := mv5.more (bd.mono mv5.size)
        have b15 := b15.trans (bd.mono b15.size)
        have low5 := lowW.trans (b15.mono lowW.size)
        have hkp5 : KeepsFrom W0.heap.size W W5.drew := hkp5.trans ⟨Nat.le_refl _, fun j o _ hj _ => hj⟩
        generalize W5.drew = W6 at hHeld bO5 k35 kk5 ho5 mv5 b15 low5 hkp5 ⊢
        clear bd
        refine wpAnyF_take (i := 0) (v := ?_) rfl (by kernel_rfl) (by kernel_rfl) (by kernel_rfl) (by kernel_rfl) (fun _ _ _ h => hPan _ _ _ _ h) hHeld (Or.inl ⟨by rfl, ?_⟩) ?_
        rotate_left
        · (intro w hSw; (try rw [hSS] at hSw); (try dsimp only at hSw); go_simp; try with_reducible rfl)
        try simp only [Act.put, List.getElem_toArray, List.getElem_cons_zero, List.getElem_cons_succ, List.setIfInBounds_toArray, List.set_cons_zero, List.set_cons_succ]
        refine wpAnyF_take (i := 1) (v := ?_) rfl (by kernel_rfl) (by kernel_rfl) (by kernel_rfl) (by kernel_rfl) (fun _ _ _ h => hPan _ _ _ _ h) hHeld (Or.inl ⟨by rfl, ?_⟩) ?_
        rotate_left
        · (intro w hSw; (try rw [hSS] at hSw); (try dsimp only at hSw); go_simp; try with_reducible rfl)
        try simp only [Act.put, List.getElem_toArray, List.getElem_cons_zero, List.getElem_cons_succ, List.setIfInBounds_toArray, List.set_cons_zero, List.set_cons_succ]
        refine wpAnyF_take (i := 2) (v := ?_) rfl (by kernel_rfl) (by kernel_rfl) (by kernel_rfl) (by kernel_rfl) (fun _ _ _ h => hPan _ _ _ _ h) hHeld (Or.inl ⟨by rfl, ?_⟩) ?_
        rotate_left
        · (intro w hSw; (try rw [hSS] at hSw); (try dsimp only at hSw); go_simp; try with_reducible rfl)
        try simp only [Act.put, List.getElem_toArray, List.getElem_cons_zero, List.getElem_cons_succ, List.setIfInBounds_toArray, List.set_cons_zero, List.set_cons_succ]
        refine wpAnyF_take (i := 3) (v := ?_) rfl (by kernel_rfl) (by kernel_rfl) (by kernel_rfl) (by kernel_rfl) (fun _ _ _ h => hPan _ _ _ _ h) hHeld (Or.inl ⟨by rfl, ?_⟩) ?_
        rotate_left
        · (intro w hSw; (try rw [hSS] at hSw); (try dsimp only at hSw); go_simp; try with_reducible rfl)
        try simp only [Act.put, List.getElem_toArray, List.getElem_cons_zero, List.getElem_cons_succ, List.setIfInBounds_toArray, List.set_cons_zero, List.set_cons_succ]
        refine wpAnyF_take (i := 4) (v := ?_) rfl (by kernel_rfl) (by kernel_rfl) (by kernel_rfl) (by kernel_rfl) (fun _ _ _ h => hPan _ _ _ _ h) hHeld (Or.inl ⟨by rfl, ?_⟩) ?_
        rotate_left
        · (intro w hSw; (try rw [hSS] at hSw); (try dsimp only at hSw); go_simp; try with_reducible rfl)
        try simp only [Act.put, List.getElem_toArray, List.getElem_cons_zero, List.getElem_cons_succ, List.setIfInBounds_toArray, List.set_cons_zero, List.set_cons_succ]
        refine wpAnyF_take (i := 5) (v := ?_) rfl (by kernel_rfl) (by kernel_rfl) (by kernel_rfl) (by kernel_rfl) (fun _ _ _ h => hPan _ _ _ _ h) hHeld (Or.inl ⟨by rfl, ?_⟩) ?_
        rotate_left
        · (intro w hSw; (try rw [hSS] at hSw); (try dsimp only at hSw); go_simp; try with_reducible rfl)
        try simp only [Act.put, List.getElem_toArray, List.getElem_cons_zero, List.getElem_cons_succ, List.setIfInBounds_toArray, List.set_cons_zero, List.set_cons_succ]
        refine wpAnyF_take (i := 6) (v := ?_) rfl (by kernel_rfl) (by kernel_rfl) (by kernel_rfl) (by kernel_rfl) (fun _ _ _ h => hPan _ _ _ _ h) hHeld (Or.inl ⟨by rfl, ?_⟩) ?_
        rotate_left
        · (intro w hSw; (try rw [hSS] at hSw); (try dsimp only at hSw); go_simp; try with_reducible rfl)
        try simp only [Act.put, List.getElem_toArray, List.getElem_cons_zero, List.getElem_cons_succ, List.setIfInBounds_toArray, List.set_cons_zero, List.set_cons_succ]
        refine wpAnyF_one (i := 7) (by kernel_rfl) rfl (fun K hK => ?_)
        go_simp
        refine hK.out _ _ (Or.inr (sB _ (k35.alloc _) (kk5.alloc _) (bO5.alloc _))) ?_
        clear hK K
        try simp only [Act.put, List.getElem_toArray, List.getElem_cons_zero, List.getElem_cons_succ, List.setIfInBounds_toArray, List.set_cons_zero, List.set_cons_succ]
        refine wpAnyF_one (i := 8) (by kernel_rfl) rfl (fun K hK => ?_)
        refine step_row1 3 30 _ 1 8 int_info Tryd.underlying30 rfl (by omega) (by omega) _ rfl (.tmp 62) (.tmp 64) rfl W6 W0.heap.size _ n _ rfl ho5 #[.int .i64 (x : Int)] rfl _ rfl rfl rfl (by simp [Value.oneCell']) (by omega) (Nat.le_of_lt (Nat.lt_of_lt_of_le gOl mv5.size) |> fun _ => mv5.size) (n + 1) rfl ?_
        intro A7 c7 w7 o7 g7 b7 k7
        have k37 := k35.grown g7 (own_off ho5 k35 (by decide))
        have kk7 := kk5.below b7 bk.lt
        have bO7 := bO5.grown g7 (own_off ho5 bO5 (by decide))
        refine hK.out _ _ (Or.inr (sB _ k37 kk7 bO7)) ?_
        clear hK K
        try simp only [Act.put, List.getElem_toArray, List.getElem_cons_zero, List.getElem_cons_succ, List.setIfInBounds_toArray, List.set_cons_zero, List.set_cons_succ]
        refine wpAnyF_one (i := 9) (by kernel_rfl) rfl (fun K hK => ?_)
        go_simp
        refine hK.out _ _ (Or.inr (sB _ k37 kk7 bO7)) ?_
        clear hK K
        try simp only [Act.put, List.getElem_toArray, List.getElem_cons_zero, List.getElem_cons_succ, List.setIfInBounds_toArray, List.set_cons_zero, List.set_cons_succ]
        refine wpAnyF_one (i := 10) (by kernel_rfl) rfl (fun K hK => ?_)
        have yO : w7.cell? ⟨gO, k, none⟩ = some (.slice A n c) := (bO7.cell k).trans (by rw [List.getElem?_toArray, List.getElem?_set_self (by rw [vl]; exact hkl)])
        have fO := bO7.frozen k
        go_simp
        refine hK.out _ _ (Or.inl rfl) ?_
        clear hK K
        refine wpAnyF_done (by kernel_rfl) ?_ _
        have hgOb : ∀ j, (Value.slice A7 (n + 1) c7).ownBlock = some j → j ≠ gO := fun j hj e => by
          have := (World.ownsRow.lt o7 j hj).1
          omega
        have bO8 : Blk (w7.setCell ⟨gO, k, none⟩ (.slice A7 (n + 1) c7)) gO 30 (vs0.set k (.slice A7 (n + 1) c7)).toArray := by
          have h9 := bO7.put k (.slice A7 (n + 1) c7)
          rw [List.setIfInBounds_toArray, List.set_set] at h9
          exact h9
        have o8 : OwnI (w7.setCell ⟨gO, k, none⟩ (.slice A7 (n + 1) c7)) W0.heap.size (.slice A7 (n + 1) c7) (n + 1) (((pre ++ [x]).map fun x : Nat => (x : Int)).filter (pkB P k)) := by
          rw [pk_yes HPk.out]
          refine OwnI.same (w := w7) ?_ fun j hj => Below.heap_setCell w7 _ _ j (hgOb j hj)
          show World.ownsRow _ _ _ _ _ _ _
          rw [List.map_append]
          exact o7
        have mv8 : OnlyB W0 (w7.setCell ⟨gO, k, none⟩ (.slice A7 (n + 1) c7)) gO := (mv5.more b7).set _
        have hkp8 : KeepsFrom W0.heap.size W (w7.setCell ⟨gO, k, none⟩ (.slice A7 (n + 1) c7)) := (hkp5.trans ((KeepsOthers.of_grownBy g7 (fun j o e ho => by
          obtain ⟨cs', hb', _⟩ := own_type ho5 e
          rw [show W6.heap[j]? = some (.cells cs' 3 (0, 0)) from hb'] at ho
          injection ho with ho
          subst ho
          rfl)).from _)).trans ((KeepsOthers.setCell _ _ _).from _)
        have low8 : Below w.heap.size W (w7.setCell ⟨gO, k, none⟩ (.slice A7 (n + 1) c7)) := (((b15.mono lowW.size).trans (b7.mono (Nat.le_trans low.size (Nat.le_refl _)))).setCell (p := ⟨gO, k, none⟩) gOb _)
        exact HN.out _ _ hkp8 low8 ⟨⟨A7, n + 1, c7, bO8, o8, by simp; omega⟩, mv8⟩
end Go.Proofs.YtfnhaoindehjdaaDoor
/- Possible: the range over the users of a step. (genpos.py) -/
namespace Go.Proofs.YtfnhaoindehjdaaDoor
open Go.RowKit
set_option linter.unusedVariables false
set_option linter.unusedSimpArgs false
attribute [local go_sem] Oper.semAt_some

theorem PI.own_from {W0 : World} {P : Pr} {gO k M : Nat} {vs0 : List Value} :
    OwnFrom W0.heap.size (fun (pre : List (Mb M)) W => PI W0 P gO k vs0 (pre.map (·.1)) W) := fun s A B' row hs hg hr => by
  obtain ⟨⟨A1, n, c, b, o, hn⟩, mv⟩ := hs
  have nb : ∀ (j t : Nat) (cs : Array Value), Blk A j t cs → row ≠ some j := fun j t cs hb e => by
    obtain ⟨_, o, ho, hc⟩ := hr j e
    rw [show A.heap[j]? = some (.cells cs t (0, 0)) from hb] at ho
    injection ho with ho
    subst ho
    cases hc
  refine ⟨⟨A1, n, c, (hg.block gO b.lt (fun e => nb _ _ _ b e.symm)).trans b, OwnI.same o fun j hj => ?_, hn⟩, mv.more ((Below.refl _ _).grown hg mv.size fun r e => (hr r e).1)⟩
  obtain ⟨cs, hb, _⟩ := own_type o hj
  exact hg.block j hb.lt fun e => nb _ _ _ hb e.symm
set_option maxHeartbeats 8000000 in
set_option maxRecDepth 100000 in
theorem pos_rf {w W0 : World} {P : Pr} {A1 A2 A3 A4 A5 : Option Addr} {n1 c1 n2 c2 n3 c3 n4 c4 n5 c5 g3 gO gK k : Nat} {vs0 : List Value} (h : Ps w W0 P A1 A2 A3 A4 A5 n1 c1 n2 c2 n3 c3 n4 c4 n5 c5 g3 gO gK k vs0)
    (ga M : Nat) (Ds : List Nat) (hM : P.elig[k]? = some M) (Av : Option Addr) (nv cv : Nat) (hnc : nv ≤ cv) (hnv : nv ≤ 64) (hlv : len2 64 M = nv) (hsv : Sees w w.heap.size Av ((dg 64 M).map wv))
    (hga : W0.cell? ⟨ga, 0, none⟩ = some (.slice Av nv cv)) (hgl : ga < W0.heap.size) (hnil : vs0[k]? = some (.slice none 0 0))
    (Q : Exit → Act → World → Prop) (cx2 cx5 cx6 cx7 cx8 cx9 cx10 cx11 cx12 cx13 cx14 cx15 cx16 cx17 cx18 cx19 cx20 cx21 cx22 cx23 cx24 cx25 cx26 cx27 cx29 cx30 cx31 cx32 cx33 cx34 cx35 cx36 cx37 cx38 cx39 cx40 cx41 cx42 cx43 cx44 cx45 cx46 cx47 cx48 cx49 cx50 cx51 cx52 cx53 cx54 cx55 cx56 cx57 cx58 cx59 cx60 cx61 cx62 cx63 cx64 cx65 cx66 cx67 cx68 : Value)
    (hN : ∀ D W', W0.heap.size ≤ D → PI W0 P gO k vs0 (memM M) W' → W'.heap[D]? = some (.deferred (some [])) → Q .normal ⟨#[.agg #[.slice A1 n1 c1, .slice A2 n2 c2, .slice A3 n3 c3, .slice A4 n4 c4, .slice A5 n5 c5], .pointer (some ⟨w.heap.size, 0, none⟩), cx2, .pointer (some ⟨g3, 0, none⟩), .pointer (some ⟨gK, 0, none⟩), cx5, cx6, cx7, cx8, cx9, cx10, cx11, cx12, cx13, cx14, cx15, cx16, cx17, cx18, cx19, cx20, cx21, cx22, cx23, cx24, cx25, cx26, cx27, .func (.func 85) #[] #[.pointer (some ⟨ga, 0, none⟩)], cx29, cx30, cx31, cx32, cx33, cx34, cx35, cx36, cx37, cx38, cx39, cx40, cx41, cx42, cx43, cx44, cx45, cx46, cx47, cx48, cx49, cx50, cx51, cx52, cx53, cx54, cx55, cx56, cx57, cx58, cx59, cx60, cx61, cx62, cx63, cx64, cx65, cx66, cx67, cx68], markOf D :: Ds.map markOf⟩ W') :
    posRf.wpIn Fence.wide 5 Tryd.prog Q ⟨#[.agg #[.slice A1 n1 c1, .slice A2 n2 c2, .slice A3 n3 c3, .slice A4 n4 c4, .slice A5 n5 c5], .pointer (some ⟨w.heap.size, 0, none⟩), cx2, .pointer (some ⟨g3, 0, none⟩), .pointer (some ⟨gK, 0, none⟩), cx5, cx6, cx7, cx8, cx9, cx10, cx11, cx12, cx13, cx14, cx15, cx16, cx17, cx18, cx19, cx20, cx21, cx22, cx23, cx24, cx25, cx26, cx27, .func (.func 85) #[] #[.pointer (some ⟨ga, 0, none⟩)], cx29, cx30, cx31, cx32, cx33, cx34, cx35, cx36, cx37, cx38, cx39, cx40, cx41, cx42, cx43, cx44, cx45, cx46, cx47, cx48, cx49, cx50, cx51, cx52, cx53, cx54, cx55, cx56, cx57, cx58, cx59, cx60, cx61, cx62, cx63, cx64, cx65, cx66, cx67, cx68], Ds.map markOf⟩ W0 := by
  have hro : (Fence.wide).round = none := rfl
  have h1 : 1 ≤ 5 := by omega
  have hg0 : 0 < w.heap.size := World.block_lt_of_cell? w _ (h.hT 0 (by omega))
  have ok := chkP_ok h.hc
  have hI0 : PI W0 P gO k vs0 [] W0 := ⟨⟨none, 0, 0, by
    have e : vs0.set k (.slice none 0 0) = vs0 := by
      refine List.ext_getElem? fun i => ?_
      by_cases hi : i = k
      · subst hi
        rw [List.getElem?_set_self (by rw [h.vl]; exact h.kl), hnil]
      · rw [List.getElem?_set_ne (Ne.symm hi)]
    rw [e]; exact h.b0, OwnI.nil _ _, Nat.le_refl _⟩, OnlyB.refl _ _⟩
  have hmem : ∀ x : Mb M, 1 ≤ x.1 ∧ x.1 ≤ 256 := fun x => by
    have h9 : ((x.1 : Nat) : Int) ∈ memZ (eligA P (k : Int)) := by
      unfold eligA memZ
      rw [Int.toNat_natCast, hM]
      exact List.mem_map.2 ⟨x.1, x.2, rfl⟩
    have := memZ_user ok h9
    omega
  refine wpIn_rangeFunc_ownG (assign := (match posRf with | .rangeFunc _ _ a _ => a | c => c)) (body := posRound) hro h1 (gf := 85) (lb := #[.pointer (some ⟨ga, 0, none⟩)]) rfl trivial (enters_of Tryd.func85 (by kernel_rfl) rfl)
    (all_stopsM ga w.heap.size nv cv M Av 4 (by omega) hnc hnv hlv hg0 W0 hgl h.low.size hga (hsv.below h.low) (h.hT.below h.low hg0)) belowK_t (belowK_b h.low.size) (Below.refl _ _) (fun _ => rfl)
    (fun (pre : List (Mb M)) W' => PI W0 P gO k vs0 (pre.map (·.1)) W') (fun _ _ _ => False)
    PI.own_from (fun c => fun s A B' row hs hg hr => hs.elim) hI0
    (fun x : Mb M => ⟨#[.agg #[.slice A1 n1 c1, .slice A2 n2 c2, .slice A3 n3 c3, .slice A4 n4 c4, .slice A5 n5 c5], .pointer (some ⟨w.heap.size, 0, none⟩), cx2, .pointer (some ⟨g3, 0, none⟩), .pointer (some ⟨gK, 0, none⟩), .int .i64 ((x.1 : Nat) : Int), cx6, cx7, cx8, cx9, cx10, cx11, cx12, cx13, cx14, cx15, cx16, cx17, cx18, cx19, cx20, cx21, cx22, cx23, cx24, cx25, cx26, cx27, .func (.func 85) #[] #[.pointer (some ⟨ga, 0, none⟩)], .int .i64 ((x.1 : Nat) : Int), cx30, cx31, cx32, cx33, cx34, cx35, cx36, cx37, cx38, cx39, cx40, cx41, cx42, cx43, cx44, cx45, cx46, cx47, cx48, cx49, cx50, cx51, cx52, cx53, cx54, cx55, cx56, cx57, cx58, cx59, cx60, cx61, cx62, cx63, cx64, cx65, cx66, cx67, cx68], []⟩) ?assign ?body ?done ?stop
  case assign =>
    intro lno x W' K' hK'
    conv => arg 4; whnf
    gi_wp2
    exact hK'
  case body =>
    rintro lno pre x W' hI' hlt
    refine pos_body h lno (pre.map (·.1)) x.1 W' (hmem x) (by rw [List.length_map]; exact hlt) hI' _ (fun ⟨a, w, h⟩ => h) (fun _ _ _ _ h => h) ?_ _ _ _ _ _ _ _ _ _ _ _ _ _ _ _ _ _ _ _ _ _ _ _ _ _ _ _ _ _ _ _ _ _ _ _ _ _ _ _ _ _ _ _ _ _ _ _ _ _ _ _ _ _ _ _ _ _ _ _ _ _ _ _ _
    intro a W2 h1 h2 h3
    exact ⟨h1, h2, by show PI W0 P gO k vs0 ((pre ++ [x]).map (·.1)) W2; rw [map_val_snoc]; exact h3⟩
  case done =>
    rintro D ys W' hD hys hI' hK'
    have hI' : PI W0 P gO k vs0 (ys.map (·.1)) W' := hI'
    have hys : ys.map (·.1) = memM M := hys
    rw [hys] at hI'
    exact hN D W' hD hI' hK'
  case stop =>
    rintro D c' pre W' hD hpre hX hK'
    exact hX.elim
end Go.Proofs.YtfnhaoindehjdaaDoor
/- Possible: the loop over the steps. (genpos.py) -/
namespace Go.Proofs.YtfnhaoindehjdaaDoor
open Go.RowKit
set_option linter.unusedVariables false
set_option linter.unusedSimpArgs false
attribute [local go_sem] Oper.semAt_some

/-- The rows of the first k steps. -/
structure PL (w : World) (P : Pr) (A1 A2 A3 A4 A5 : Option Addr) (n1 c1 n2 c2 n3 c3 n4 c4 n5 c5 g3 gO k : Nat) (Ds : List Nat) (W : World) : Prop where
  le : k ≤ n1
  rows : ∃ vs : List Value, Blk W gO 30 vs.toArray ∧ vs.length = n1 ∧ (∀ j, j < k → ∃ A n c, vs[j]? = some (.slice A n c) ∧ OwnI W w.heap.size (.slice A n c) n (possK P j)) ∧ (∀ j, k ≤ j → j < n1 → vs[j]? = some (.slice none 0 0))
  low : Below w.heap.size w W
  bp : Blk W w.heap.size 32 #[.slice A1 n1 c1, .slice A2 n2 c2, .slice A3 n3 c3, .slice A4 n4 c4, .slice A5 n5 c5]
  b3 : Blk W g3 37 #[.slice (some ⟨gO, 0, none⟩) n1 n1]
  opn : OpenM W w.heap.size Ds
theorem PL.on {w : World} {P : Pr} {A1 A2 A3 A4 A5 : Option Addr} {n1 c1 n2 c2 n3 c3 n4 c4 n5 c5 g3 gO k : Nat} {Ds : List Nat} {W W' : World} (h : PL w P A1 A2 A3 A4 A5 n1 c1 n2 c2 n3 c3 n4 c4 n5 c5 g3 gO k Ds W) (hb : Below W.heap.size W W') : PL w P A1 A2 A3 A4 A5 n1 c1 n2 c2 n3 c3 n4 c4 n5 c5 g3 gO k Ds W' := by
  obtain ⟨vs, r1, r2, r3, r4⟩ := h.rows
  exact ⟨h.le, ⟨vs, r1.on hb, r2, fun j hj => by obtain ⟨A, n, c, e, o⟩ := r3 j hj; exact ⟨A, n, c, e, OwnI.on o hb⟩, r4⟩, h.low.trans (hb.mono h.low.size), h.bp.on hb, h.b3.on hb, ⟨h.opn.1, fun D hD => ⟨(h.opn.2 D hD).1, (hb.block D (h.opn.lt hD)).trans (h.opn.2 D hD).2⟩⟩⟩
set_option maxHeartbeats 8000000 in
set_option maxRecDepth 100000 in
theorem pos_loop {w : World} {P : Pr} {A1 A2 A3 A4 A5 : Option Addr} {n1 c1 n2 c2 n3 c3 n4 c4 n5 c5 g3 gO : Nat} (hT : Tab w) (pr : PrAt w w.heap.size ⟨⟨A1, n1, c1⟩, ⟨A2, n2, c2⟩, ⟨A3, n3, c3⟩, ⟨A4, n4, c4⟩, ⟨A5, n5, c5⟩⟩ P) (hc : chkP P = 0) (sm : SmP P) (hsv : solvB P = true) (hgO : w.heap.size ≤ gO)
    (W : World) (hW : PL w P A1 A2 A3 A4 A5 n1 c1 n2 c2 n3 c3 n4 c4 n5 c5 g3 gO 0 [] W)
    (Q : Exit → Act → World → Prop) (cx2 cx4 cx5 cx6 cx7 cx8 cx9 cx10 cx11 cx12 cx13 cx14 cx15 cx16 cx17 cx18 cx19 cx20 cx21 cx22 cx23 cx24 cx25 cx26 cx27 cx28 cx29 cx30 cx31 cx32 cx33 cx34 cx35 cx36 cx37 cx38 cx39 cx40 cx41 cx42 cx43 cx44 cx45 cx46 cx47 cx48 cx49 cx50 cx51 cx52 cx53 cx54 cx55 cx56 cx57 cx58 cx59 cx60 cx61 cx62 cx63 cx64 cx65 cx66 cx67 cx68 : Value)
    (hN : ∀ (Ds : List Nat) (W' : World) (u2 u4 u5 u6 u7 u8 u9 u10 u11 u12 u13 u14 u15 u16 u17 u18 u19 u20 u21 u22 u23 u24 u25 u26 u27 u28 u29 u30 u31 u32 u33 u34 u35 u36 u37 u38 u39 u40 u41 u42 u43 u44 u45 u46 u47 u48 u49 u50 u51 u52 u53 u54 u55 u56 u57 u58 u59 u60 u61 u62 u63 u64 u65 u66 u67 u68 : Value), PL w P A1 A2 A3 A4 A5 n1 c1 n2 c2 n3 c3 n4 c4 n5 c5 g3 gO n1 Ds W' → Q .normal ⟨#[.agg #[.slice A1 n1 c1, .slice A2 n2 c2, .slice A3 n3 c3, .slice A4 n4 c4, .slice A5 n5 c5], .pointer (some ⟨w.heap.size, 0, none⟩), u2, .pointer (some ⟨g3, 0, none⟩), u4, u5, u6, u7, u8, u9, u10, u11, u12, u13, u14, u15, u16, u17, u18, u19, u20, u21, u22, u23, u24, u25, u26, u27, u28, u29, u30, u31, u32, u33, u34, u35, u36, u37, u38, u39, u40, u41, u42, u43, u44, u45, u46, u47, u48, u49, u50, u51, u52, u53, u54, u55, u56, u57, u58, u59, u60, u61, u62, u63, u64, u65, u66, u67, u68], Ds.map markOf⟩ W') :
    (posPart 4).wpIn Fence.wide 5 Tryd.prog Q ⟨#[.agg #[.slice A1 n1 c1, .slice A2 n2 c2, .slice A3 n3 c3, .slice A4 n4 c4, .slice A5 n5 c5], .pointer (some ⟨w.heap.size, 0, none⟩), cx2, .pointer (some ⟨g3, 0, none⟩), cx4, cx5, cx6, cx7, cx8, cx9, cx10, cx11, cx12, cx13, cx14, cx15, cx16, cx17, cx18, cx19, cx20, cx21, cx22, cx23, cx24, cx25, cx26, cx27, cx28, cx29, cx30, cx31, cx32, cx33, cx34, cx35, cx36, cx37, cx38, cx39, cx40, cx41, cx42, cx43, cx44, cx45, cx46, cx47, cx48, cx49, cx50, cx51, cx52, cx53, cx54, cx55, cx56, cx57, cx58, cx59, cx60, cx61, cx62, cx63, cx64, cx65, cx66, cx67, cx68], []⟩ W := by
  have HN := Lib.hid hN
  clear hN
  have hgB := fun (k : Nat) (Ds : List Nat) (W : World) (h : PL w P A1 A2 A3 A4 A5 n1 c1 n2 c2 n3 c3 n4 c4 n5 c5 g3 gO k Ds W) => h.b3.cell 0
  have y3 : W.cell? ⟨g3, 0, none⟩ = some (.slice (some ⟨gO, 0, none⟩) n1 n1) := (hW.b3.cell 0).trans rfl
  have hl1 : P.elig.length = n1 := pr.l1
  have hbn : n1 ≤ 5 := by rw [← hl1]; exact sm.1
  have hbi : (n1 : Int) ≤ 5 := by omega
  have hg0 : 0 < w.heap.size := World.block_lt_of_cell? w _ (hT 0 (by omega))
  have HL1 := Lib.hid hl1
  clear hl1 hgB
  conv => arg 4; whnf
  gi_wp2
  refine wpIn_loop (fun a W' => ∃ (k : Nat) (Ds : List Nat) (u2 u4 u5 u6 u7 u8 u9 u10 u11 u12 u13 u14 u15 u16 u17 u21 u22 u23 u24 u25 u26 u27 u28 u29 u30 u31 u32 u33 u34 u35 u36 u37 u38 u39 u40 u41 u42 u43 u44 u45 u46 u47 u48 u49 u50 u51 u52 u53 u54 u55 u56 u57 u58 u59 u60 u61 u62 u63 u64 u65 u66 u67 u68 : Value), PL w P A1 A2 A3 A4 A5 n1 c1 n2 c2 n3 c3 n4 c4 n5 c5 g3 gO k Ds W' ∧ a = ⟨#[.agg #[.slice A1 n1 c1, .slice A2 n2 c2, .slice A3 n3 c3, .slice A4 n4 c4, .slice A5 n5 c5], .pointer (some ⟨w.heap.size, 0, none⟩), u2, .pointer (some ⟨g3, 0, none⟩), u4, u5, u6, u7, u8, u9, u10, u11, u12, u13, u14, u15, u16, u17, .slice (some ⟨gO, 0, none⟩) n1 n1, .int .i64 (n1 : Int), .int .i64 (k : Int), u21, u22, u23, u24, u25, u26, u27, u28, u29, u30, u31, u32, u33, u34, u35, u36, u37, u38, u39, u40, u41, u42, u43, u44, u45, u46, u47, u48, u49, u50, u51, u52, u53, u54, u55, u56, u57, u58, u59, u60, u61, u62, u63, u64, u65, u66, u67, u68], Ds.map markOf⟩) (fun a _ => n1 - (intOf (a.tmps.getD 20 undef)).toNat) ?start ?round
  case start => exact ⟨0, [], _, _, _, _, _, _, _, _, _, _, _, _, _, _, _, _, _, _, _, _, _, _, _, _, _, _, _, _, _, _, _, _, _, _, _, _, _, _, _, _, _, _, _, _, _, _, _, _, _, _, _, _, _, _, _, _, _, _, _, _, _, _, _, hW, rfl⟩
  case round =>
    intro a9 wr hinv
    obtain ⟨k, hinv⟩ := hinv
    obtain ⟨Ds, hinv⟩ := hinv
    obtain ⟨u2, hinv⟩ := hinv
    obtain ⟨u4, hinv⟩ := hinv
    obtain ⟨u5, hinv⟩ := hinv
    obtain ⟨u6, hinv⟩ := hinv
    obtain ⟨u7, hinv⟩ := hinv
    obtain ⟨u8, hinv⟩ := hinv
    obtain ⟨u9, hinv⟩ := hinv
    obtain ⟨u10, hinv⟩ := hinv
    obtain ⟨u11, hinv⟩ := hinv
    obtain ⟨u12, hinv⟩ := hinv
    obtain ⟨u13, hinv⟩ := hinv
    obtain ⟨u14, hinv⟩ := hinv
    obtain ⟨u15, hinv⟩ := hinv
    obtain ⟨u16, hinv⟩ := hinv
    obtain ⟨u17, hinv⟩ := hinv
    obtain ⟨u21, hinv⟩ := hinv
    obtain ⟨u22, hinv⟩ := hinv
    obtain ⟨u23, hinv⟩ := hinv
    obtain ⟨u24, hinv⟩ := hinv
    obtain ⟨u25, hinv⟩ := hinv
    obtain ⟨u26, hinv⟩ := hinv
    obtain ⟨u27, hinv⟩ := hinv
    obtain ⟨u28, hinv⟩ := hinv
    obtain ⟨u29, hinv⟩ := hinv
    obtain ⟨u30, hinv⟩ := hinv
    obtain ⟨u31, hinv⟩ := hinv
    obtain ⟨u32, hinv⟩ := hinv
    obtain ⟨u33, hinv⟩ := hinv
    obtain ⟨u34, hinv⟩ := hinv
    obtain ⟨u35, hinv⟩ := hinv
    obtain ⟨u36, hinv⟩ := hinv
    obtain ⟨u37, hinv⟩ := hinv
    obtain ⟨u38, hinv⟩ := hinv
    obtain ⟨u39, hinv⟩ := hinv
    obtain ⟨u40, hinv⟩ := hinv
    obtain ⟨u41, hinv⟩ := hinv
    obtain ⟨u42, hinv⟩ := hinv
    obtain ⟨u43, hinv⟩ := hinv
    obtain ⟨u44, hinv⟩ := hinv
    obtain ⟨u45, hinv⟩ := hinv
    obtain ⟨u46, hinv⟩ := hinv
    obtain ⟨u47, hinv⟩ := hinv
    obtain ⟨u48, hinv⟩ := hinv
    obtain ⟨u49, hinv⟩ := hinv
    obtain ⟨u50, hinv⟩ := hinv
    obtain ⟨u51, hinv⟩ := hinv
    obtain ⟨u52, hinv⟩ := hinv
    obtain ⟨u53, hinv⟩ := hinv
    obtain ⟨u54, hinv⟩ := hinv
    obtain ⟨u55, hinv⟩ := hinv
    obtain ⟨u56, hinv⟩ := hinv
    obtain ⟨u57, hinv⟩ := hinv
    obtain ⟨u58, hinv⟩ := hinv
    obtain ⟨u59, hinv⟩ := hinv
    obtain ⟨u60, hinv⟩ := hinv
    obtain ⟨u61, hinv⟩ := hinv
    obtain ⟨u62, hinv⟩ := hinv
    obtain ⟨u63, hinv⟩ := hinv
    obtain ⟨u64, hinv⟩ := hinv
    obtain ⟨u65, hinv⟩ := hinv
    obtain ⟨u66, hinv⟩ := hinv
    obtain ⟨u67, hinv⟩ := hinv
    obtain ⟨u68, hinv⟩ := hinv
    obtain ⟨hL, ha⟩ := hinv
    subst ha
    have hkn := hL.le
    by_cases hlt : k < n1
    · have hlt' : (k : Int) < (n1 : Int) := by omega
      obtain ⟨M, hM⟩ : ∃ M, P.elig[k]? = some M := ⟨_, List.getElem?_eq_getElem (by rw [HL1.out]; exact hlt)⟩
      obtain ⟨b, o, X, rfl, hb2, hcX0, hS⟩ := pr.e1 k M hM

      obtain ⟨Av, nv, cv, hXe, hnc, hnv, hlv, hsvv, _⟩ := id hS
      obtain rfl : X = .slice Av nv cv := by simpa using hXe
      clear hXe
      have HM := Lib.hid hM
      have Hlv := Lib.hid hlv
      have HPr := Lib.hid pr
      clear hM hlv pr
      gi_upto_region 9 with (fail)
      have hL1 := hL.on (bAl (Below.refl wr.heap.size wr) (.cells #[.int .i64 (k : Int)] 3))
      have kk := Blk.new wr 3 #[.int .i64 (k : Int)]
      have zk : (wr.alloc (.cells #[.int .i64 (k : Int)] 3)).heap.size = wr.heap.size + 1 := by simp
      generalize (wr.alloc (.cells #[.int .i64 (k : Int)] 3)) = W1 at hL1 kk zk ⊢
      have y0 : W1.cell? ⟨w.heap.size, 0, none⟩ = some (.slice (some ⟨b, o, none⟩) n1 c1) := (hL1.bp.cell 0).trans rfl
      have yk : W1.cell? ⟨wr.heap.size, 0, none⟩ = some (.int .i64 (k : Int)) := (kk.cell 0).trans rfl
      have hcX : W1.cell? ⟨b, o + k, none⟩ = some (.slice Av nv cv) := (hL1.low.cell (p := ⟨b, o + k, none⟩) hb2).trans hcX0
      gi_wp2
      refine ⟨trivial, (allF_any _ _ _ _ trivial rfl).mono ?_⟩
      rintro e u4 ⟨rfl, rfl⟩
      have bA := bAl (Below.refl W1.heap.size W1) (.cells #[.slice Av nv cv] 63)
      have hL2 := hL1.on bA
      have kk2 := kk.on bA
      have ka := Blk.new W1 63 #[.slice Av nv cv]
      have lt1 := kk.lt
      clear y0 yk hcX y3 bA
      generalize (W1.alloc (.cells #[.slice Av nv cv] 63)) = W2 at hL2 kk2 ka ⊢
      obtain ⟨vs, r1, r2, r3, r4⟩ := hL2.rows
      have hps : Ps w W2 P (some ⟨b, o, none⟩) A2 A3 A4 A5 n1 c1 n2 c2 n3 c3 n4 c4 n5 c5 g3 gO wr.heap.size k vs := ⟨hT, HPr.out, hc, sm, hL2.low, hL2.bp, hL2.b3, kk2, hlt, hgO, r1.lt, r2, r1⟩
      gi_wp2
      rw [zk] at ka
      refine pos_rf hps (wr.heap.size + 1) M Ds HM.out Av nv cv hnc hnv Hlv.out hsvv ((ka.cell 0).trans rfl) ka.lt (r4 k (Nat.le_refl _) hlt) _ _ _ _ _ _ _ _ _ _ _ _ _ _ _ _ _ _ _ _ _ _ _ _ _ _ _ _ _ _ _ _ _ _ _ _ _ _ _ _ _ _ _ _ _ _ _ _ _ _ _ _ _ _ _ _ _ _ _ _ _ _ _ _ _ ?_
      intro D W' hD hPI hDd
      obtain ⟨⟨A, n, c, q1, q2, q3⟩, mv⟩ := hPI
      have hL3 : PL w P (some ⟨b, o, none⟩) A2 A3 A4 A5 n1 c1 n2 c2 n3 c3 n4 c4 n5 c5 g3 gO (k + 1) (D :: Ds) W' := by
        refine ⟨by omega, ⟨_, q1, by rw [List.length_set]; exact r2, fun j hj => ?_, fun j hj hjn => ?_⟩, hL2.low.trans ((mv.below (Nat.le_of_lt r1.lt) (Nat.le_refl _)).mono hgO), mv.blk hL2.bp (hL2.bp.apart r1 (by decide)), mv.blk hL2.b3 (hL2.b3.apart r1 (by decide)), ?_⟩
        · by_cases hjk : j = k
          · subst hjk
            refine ⟨A, n, c, List.getElem?_set_self (by rw [r2]; exact hlt), OwnI.more ?_ hL2.low.size⟩
            have e : possK P j = ((memM M).map fun x : Nat => (x : Int)).filter (pkB P j) := by
              unfold possK
              rw [if_pos hsv]
              unfold eligA memZ
              rw [Int.toNat_natCast, HM.out]
              rfl
            rw [e]
            exact q2
          · obtain ⟨A9, n9, c9, e9, o9⟩ := r3 j (by omega)
            refine ⟨A9, n9, c9, by rw [List.getElem?_set_ne (Ne.symm hjk)]; exact e9, OwnI.same o9 fun i hi => mv.block i (o9.lt i hi).2 fun e => ?_⟩
            obtain ⟨cs, hb9, _⟩ := own_type o9 hi
            rw [e] at hb9
            exact (r1.apart hb9 (by decide)) rfl
        · rw [List.getElem?_set_ne (by omega)]
          exact r4 j (by omega) hjn
        · refine ⟨List.nodup_cons.2 ⟨fun h => by have := hL2.opn.lt h; omega, hL2.opn.1⟩, fun E hE => ?_⟩
          rcases List.mem_cons.1 hE with rfl | hE
          · exact ⟨Nat.le_trans hL2.low.size hD, hDd⟩
          · refine ⟨(hL2.opn.2 E hE).1, (mv.block E (hL2.opn.lt hE) fun e => ?_).trans (hL2.opn.2 E hE).2⟩
            have h9 := (hL2.opn.2 E hE).2
            rw [e, show W2.heap[gO]? = some (.cells vs.toArray 30 (0, 0)) from r1] at h9
            cases h9
      have HL3 := Lib.hid hL3
      clear hL3 q1 q2 q3 mv hps r1 r2 r3 r4 hL2 kk2 ka hL1 kk hDd hL
      gi_wp2
      exact ⟨⟨k + 1, D :: Ds, _, _, _, _, _, _, _, _, _, _, _, _, _, _, _, _, _, _, _, _, _, _, _, _, _, _, _, _, _, _, _, _, _, _, _, _, _, _, _, _, _, _, _, _, _, _, _, _, _, _, _, _, _, _, _, _, _, _, _, _, _, _, _, HL3.out, rfl⟩, by simp [intOf]; omega⟩
    · obtain rfl : k = n1 := by omega
      have hlt' : ¬ (k : Int) < (k : Int) := by omega
      gi_wp2
      exact HN.out Ds wr _ _ _ _ _ _ _ _ _ _ _ _ _ _ _ _ _ _ _ _ _ _ _ _ _ _ _ _ _ _ _ _ _ _ _ _ _ _ _ _ _ _ _ _ _ _ _ _ _ _ _ _ _ _ _ _ _ _ _ _ _ _ _ _ _ _ hL
end Go.Proofs.YtfnhaoindehjdaaDoor
/- Possible. (genpos.py) -/
namespace Go.Proofs.YtfnhaoindehjdaaDoor
open Go.RowKit
set_option linter.unusedVariables false
set_option linter.unusedSimpArgs false
attribute [local go_sem] Oper.semAt_some

/-- What Possible gives. -/
def possR (P : Pr) : List (List Int) := if chkP P = 0 then (List.range P.elig.length).map (possK P) else []
theorem retMt {F : Fence} {n : Nat} {fn : Func} {R : Ending → World → Prop} {a : Act} {w : World} {q : Tmp} {v : Value} {B : Nat} (h : fn.results = #[.tmp q]) (hp : a.tmps.getD q undef = v) (Ds : List Nat) (hd : a.defers = Ds.map markOf) (ho : OpenM w B Ds) (hR : R (.returned v) (shut w Ds)) : bodyPostM F n Tryd.prog fn R .ret a w := by
  show LeavesInM F n Tryd.prog fn a.tmps R a.defers .returning w
  rw [hd]
  refine shut_leaves Ds w ho ⟨v, ?_, hR⟩
  rw [results_tmp h, hp]
theorem shut_heap : ∀ (Ds : List Nat) (w : World) (k : Nat), k ∉ Ds → (shut w Ds).heap[k]? = w.heap[k]?
  | [], _, _, _ => rfl
  | D :: Ds, w, k, hk => by
    have h1 : k ≠ D := fun e => hk (by simp [e])
    have h2 : k ∉ Ds := fun e => hk (by simp [e])
    show (shut (w.putObj D (.deferred none)) Ds).heap[k]? = _
    rw [shut_heap Ds _ k h2]
    show (w.heap.modify D fun _ => .deferred none)[k]? = w.heap[k]?
    rw [Array.getElem?_modify, if_neg (Ne.symm h1)]
theorem wpL_mkR (w : World) {ops : Array Oper} {rest : List Oper} {o : Oper} {a : Act} {Q : Exit → Act → World → Prop}
    (hg : o.guard = none) (l c : Operand) (hop : o.op = Op.makeSlice 37 l c) (L C : Int) (n : Nat) (hl : a.eval l = .int .i64 L) (hc : a.eval c = .int .i64 C) (hL : L = (n : Int)) (hC : C = (n : Int)) (b : n ≤ 1000000000)
    (hK : ∀ w', Hid (Blk w' w.heap.size 30 (List.replicate n (.slice none 0 0)).toArray) → Below w.heap.size w w' → Hid (w'.heap.size = w.heap.size + 1) → wpList Tryd.prog ops Q rest (a.put o.dst (.slice (some ⟨w.heap.size, 0, none⟩) n n)) w') :
    wpList Tryd.prog ops Q (o :: rest) a w := by
  obtain ⟨i0, hi0, hz0, hz1, hz2⟩ := info_parts sl_info
  exact wpL_make64 w hg l c _ hop _ i0 _ Tryd.underlying37 hi0 hz0 hz1 (by omega) rfl .i64 .i64 L C n hl hc hL hC b hK
theorem pos_split : posBody = .seq (headC posBody) (.seq (posPart 1) (.seq (posPart 2) (.seq (posPart 3) (.seq (posPart 4) (tailC 5 posBody))))) := by kernel_rfl
theorem PL.rowsLL {w : World} {P : Pr} {A1 A2 A3 A4 A5 : Option Addr} {n1 c1 n2 c2 n3 c3 n4 c4 n5 c5 g3 gO : Nat} {Ds : List Nat} {W : World} (h : PL w P A1 A2 A3 A4 A5 n1 c1 n2 c2 n3 c3 n4 c4 n5 c5 g3 gO n1 Ds W) (hg : w.heap.size ≤ gO) (hn : P.elig.length = n1) (hn5 : n1 ≤ 5) :
    OwnLL (shut W Ds) w.heap.size (.slice (some ⟨gO, 0, none⟩) n1 n1) n1 ((List.range P.elig.length).map (possK P)) := by
  obtain ⟨vs, r1, r2, r3, r4⟩ := h.rows
  have nd : ∀ (j t : Nat) (cs : Array Value), Blk W j t cs → j ∉ Ds := fun j t cs hb hm => by
    have h9 := (h.opn.2 j hm).2
    rw [show W.heap[j]? = some (.cells cs t (0, 0)) from hb] at h9
    cases h9
  refine ⟨vs, ⟨by rw [r2]; simp, .inr ⟨gO, n1, vs.toArray, rfl, hg, (shut_heap Ds W gO (nd _ _ _ r1)).trans r1, Nat.le_refl _, by unfold maxLen; omega, by simp [r2], ?_⟩⟩, ?_, fun i u l h1 h2 => ?_⟩
  · rw [List.take_of_length_le (by simp [r2])]
  · rw [r2]; simp [hn]
  · have hi : i < n1 := by rw [← r2]; exact (List.getElem?_eq_some_iff.1 h1).1
    obtain ⟨A, n, c, e, o⟩ := r3 i hi
    rw [e] at h1
    injection h1 with h1
    rw [List.getElem?_map, List.getElem?_range (by rw [hn]; exact hi)] at h2
    injection h2 with h2
    refine ⟨A, n, c, h1.symm, ?_⟩
    rw [← h1, ← h2]
    refine OwnI.same o fun j hj => shut_heap Ds W j ?_
    obtain ⟨cs, hb, _⟩ := own_type o hj
    exact nd _ _ _ hb
set_option maxHeartbeats 8000000 in
set_option maxRecDepth 100000 in
/-- Possible. -/
theorem possible_any (p : PrV) (P : Pr) (w : World) (h : PrAt w w.heap.size p P) (hT : Tab w) (hs : chkP P = 0 → SmP P) :
    Calls Tryd.prog 19 #[p.v] w fun e w' => ∃ A n c, e = .returned (.slice A n c) ∧ OwnLL w' w.heap.size (.slice A n c) n (possR P) ∧ Below w.heap.size w w' := by
  have hg0 : 0 < w.heap.size := World.block_lt_of_cell? w _ (hT 0 (by omega))
  have hck := fun (W : World) (hW : Below w.heap.size w W) => chkP_any p P W ((h.below hW).more hW.size)
  have hsv := fun (W : World) (hW : Below w.heap.size w W) => solvable_any p P W ((h.below hW).more hW.size) (hT.below hW hg0) hs
  obtain ⟨⟨A1, n1, c1⟩, ⟨A2, n2, c2⟩, ⟨A3, n3, c3⟩, ⟨A4, n4, c4⟩, ⟨A5, n5, c5⟩⟩ := p
  unfold PrV.v Sl.v at hck hsv ⊢
  simp only [] at hck hsv ⊢
  have hl1 : P.elig.length = n1 := h.l1
  have hnb : n1 ≤ 1000000 := h.b1
  have k0 := Blk.new w 32 #[.slice A1 n1 c1, .slice A2 n2 c2, .slice A3 n3 c3, .slice A4 n4 c4, .slice A5 n5 c5]
  have b0 := bAl (Below.refl w.heap.size w) (.cells #[.slice A1 n1 c1, .slice A2 n2 c2, .slice A3 n3 c3, .slice A4 n4 c4, .slice A5 n5 c5] 32)
  have H := Lib.hid h
  refine (callsIn_wide (n := 5)).1 ?_
  refine callsIn_of_wp_marks (c := posBody) Tryd.func19 rfl trivial ?_ rfl
  simp only [Tryd.ntmps19, List.size_toArray, List.length_cons, List.length_nil, Nat.reduceAdd, Nat.reduceSub, Array.replicate_succ, Array.replicate_zero, List.push_toArray, List.append_toArray, List.nil_append, List.cons_append]
  rw [pos_split]
  by_cases hc : chkP P = 0
  · have ok := chkP_ok hc
    have sm := hs hc
    have e : possR P = (List.range P.elig.length).map (possK P) := by unfold possR; rw [if_pos hc]
    rw [e]
    have hcb : (chkP P != 0) = false := by simpa using hc
    rw [hc] at hck
    have hn5 : n1 ≤ 5 := by rw [← hl1]; exact sm.1
    have HL1 := Lib.hid hl1
    have Hc := Lib.hid hc
    clear e hcb hc ok hs h hl1
    cases hvv : solvB P
    · rw [hvv] at hsv
      have hpk : Hid (∀ k, possK P k = []) := Lib.hid fun k => by unfold possK; rw [hvv]; rfl
      obtain ⟨L, hL⟩ : ∃ L, Hid (L = (List.range P.elig.length).map (possK P)) := ⟨_, Lib.hid rfl⟩
      rw [← hL.out]
      clear hvv
      refine wpIn_wide.2 ?_
      refine wp_seq_k fun K0 hK0 => ?_
      conv => arg 2; whnf
      go_wp2_with fail
      generalize (w.alloc (.cells #[.slice A1 n1 c1, .slice A2 n2 c2, .slice A3 n3 c3, .slice A4 n4 c4, .slice A5 n5 c5] 32)) = W1 at k0 b0 ⊢
      conv => arg 2; whnf
      have x0 : W1.cell? ⟨w.heap.size, 0, none⟩ = some (.slice A1 n1 c1) := (k0.cell 0).trans rfl
      have x1 : W1.cell? ⟨w.heap.size, 1, none⟩ = some (.slice A2 n2 c2) := (k0.cell 1).trans rfl
      have x2 : W1.cell? ⟨w.heap.size, 2, none⟩ = some (.slice A3 n3 c3) := (k0.cell 2).trans rfl
      have x3 : W1.cell? ⟨w.heap.size, 3, none⟩ = some (.slice A4 n4 c4) := (k0.cell 3).trans rfl
      have x4 : W1.cell? ⟨w.heap.size, 4, none⟩ = some (.slice A5 n5 c5) := (k0.cell 4).trans rfl
      have hk1 := hck W1 b0
      go_wp2_with fail
      refine hk1.mono ?_
      rintro e W2 ⟨rfl, bb⟩
      have b1 := b0.trans (bb.mono b0.size)
      have k1 := k0.on bb
      clear hk1 hck x0 x1 x2 x3 x4 bb
      go_wp2_with fail
      conv => arg 2; whnf
      have x0 : W2.cell? ⟨w.heap.size, 0, none⟩ = some (.slice A1 n1 c1) := (k1.cell 0).trans rfl
      have hn1i : (n1 : Int) ≤ 1000000 := by omega
      go_wp2_with (refine wpL_mkR _ rfl _ _ rfl _ _ n1 rfl rfl rfl rfl (by omega) ?_; intro w4 hS4 bw4 hsz4)
      have k4 := k1.on bw4
      have b4 := b1.trans (bw4.mono b1.size)
      have bA := bAl (Below.refl w4.heap.size w4) (.cells #[.slice (some ⟨W2.heap.size, 0, none⟩) n1 n1] 37)
      have k5 := k4.on bA
      have r5 := Blk.on hS4.out bA
      have q5 := Blk.new w4 37 #[.slice (some ⟨W2.heap.size, 0, none⟩) n1 n1]
      have b5 := b4.trans (bA.mono b4.size)
      have hgO := b1.size
      clear x0 hS4 bw4 hsz4 k4 b4 bA k1
      generalize (w4.alloc (.cells #[.slice (some ⟨W2.heap.size, 0, none⟩) n1 n1] 37)) = W5 at k5 r5 q5 b5 ⊢
      have x0 : W5.cell? ⟨w.heap.size, 0, none⟩ = some (.slice A1 n1 c1) := (k5.cell 0).trans rfl
      have x1 : W5.cell? ⟨w.heap.size, 1, none⟩ = some (.slice A2 n2 c2) := (k5.cell 1).trans rfl
      have x2 : W5.cell? ⟨w.heap.size, 2, none⟩ = some (.slice A3 n3 c3) := (k5.cell 2).trans rfl
      have x3 : W5.cell? ⟨w.heap.size, 3, none⟩ = some (.slice A4 n4 c4) := (k5.cell 3).trans rfl
      have x4 : W5.cell? ⟨w.heap.size, 4, none⟩ = some (.slice A5 n5 c5) := (k5.cell 4).trans rfl
      have hs5 := hsv W5 b5
      conv => arg 2; whnf
      go_wp2_with fail
      refine hs5.mono ?_
      rintro e W6 ⟨rfl, b6⟩
      have k6 := k5.on b6
      have r6 := r5.on b6
      have q6 := q5.on b6
      have b66 := b5.trans (b6.mono b5.size)
      clear x0 x1 x2 x3 x4 hs5 hsv k5 r5 q5 b5 b6
      have hPL : PL w P A1 A2 A3 A4 A5 n1 c1 n2 c2 n3 c3 n4 c4 n5 c5 w4.heap.size W2.heap.size 0 [] W6 := ⟨Nat.zero_le _, ⟨_, r6, by simp, fun j hj => absurd hj (Nat.not_lt_zero _), fun j _ hj => by rw [List.getElem?_replicate, if_pos hj]⟩, b66, k6, q6, OpenM.nil _ _⟩
      have y3 : W6.cell? ⟨w4.heap.size, 0, none⟩ = some (.slice (some ⟨W2.heap.size, 0, none⟩) n1 n1) := (q6.cell 0).trans rfl
      go_wp2_with fail
      refine retMt rfl rfl [] rfl (OpenM.nil _ 0) ⟨_, _, _, rfl, ?_, b66⟩
      have h9 := PL.rowsLL (Ds := []) (g3 := w4.heap.size) (gO := W2.heap.size) (W := W6) (P := P) (w := w) (A1 := A1) (n1 := n1) (c1 := c1) (A2 := A2) (n2 := n2) (c2 := c2) (A3 := A3) (n3 := n3) (c3 := c3) (A4 := A4) (n4 := n4) (c4 := c4) (A5 := A5) (n5 := n5) (c5 := c5)
        ⟨Nat.le_refl _, ⟨_, r6, by simp, fun j hj => ⟨none, 0, 0, by rw [List.getElem?_replicate, if_pos hj], by rw [hpk.out j]; exact OwnI.nil _ _⟩, fun j h1 h2 => absurd h2 (by omega)⟩, b66, k6, q6, OpenM.nil _ _⟩ hgO HL1.out hn5
      rw [hL.out]
      exact h9
    · rw [hvv] at hsv
      have Hvv := Lib.hid hvv
      obtain ⟨L, hL⟩ : ∃ L, Hid (L = (List.range P.elig.length).map (possK P)) := ⟨_, Lib.hid rfl⟩
      rw [← hL.out]
      clear hvv
      refine wpIn_wide.2 ?_
      refine wp_seq_k fun K0 hK0 => ?_
      conv => arg 2; whnf
      go_wp2_with fail
      generalize (w.alloc (.cells #[.slice A1 n1 c1, .slice A2 n2 c2, .slice A3 n3 c3, .slice A4 n4 c4, .slice A5 n5 c5] 32)) = W1 at k0 b0 ⊢
      conv => arg 2; whnf
      have x0 : W1.cell? ⟨w.heap.size, 0, none⟩ = some (.slice A1 n1 c1) := (k0.cell 0).trans rfl
      have x1 : W1.cell? ⟨w.heap.size, 1, none⟩ = some (.slice A2 n2 c2) := (k0.cell 1).trans rfl
      have x2 : W1.cell? ⟨w.heap.size, 2, none⟩ = some (.slice A3 n3 c3) := (k0.cell 2).trans rfl
      have x3 : W1.cell? ⟨w.heap.size, 3, none⟩ = some (.slice A4 n4 c4) := (k0.cell 3).trans rfl
      have x4 : W1.cell? ⟨w.heap.size, 4, none⟩ = some (.slice A5 n5 c5) := (k0.cell 4).trans rfl
      have hk1 := hck W1 b0
      go_wp2_with fail
      refine hk1.mono ?_
      rintro e W2 ⟨rfl, bb⟩
      have b1 := b0.trans (bb.mono b0.size)
      have k1 := k0.on bb
      clear hk1 hck x0 x1 x2 x3 x4 bb
      go_wp2_with fail
      conv => arg 2; whnf
      have x0 : W2.cell? ⟨w.heap.size, 0, none⟩ = some (.slice A1 n1 c1) := (k1.cell 0).trans rfl
      have hn1i : (n1 : Int) ≤ 1000000 := by omega
      go_wp2_with (refine wpL_mkR _ rfl _ _ rfl _ _ n1 rfl rfl rfl rfl (by omega) ?_; intro w4 hS4 bw4 hsz4)
      have k4 := k1.on bw4
      have b4 := b1.trans (bw4.mono b1.size)
      have bA := bAl (Below.refl w4.heap.size w4) (.cells #[.slice (some ⟨W2.heap.size, 0, none⟩) n1 n1] 37)
      have k5 := k4.on bA
      have r5 := Blk.on hS4.out bA
      have q5 := Blk.new w4 37 #[.slice (some ⟨W2.heap.size, 0, none⟩) n1 n1]
      have b5 := b4.trans (bA.mono b4.size)
      have hgO := b1.size
      clear x0 hS4 bw4 hsz4 k4 b4 bA k1
      generalize (w4.alloc (.cells #[.slice (some ⟨W2.heap.size, 0, none⟩) n1 n1] 37)) = W5 at k5 r5 q5 b5 ⊢
      have x0 : W5.cell? ⟨w.heap.size, 0, none⟩ = some (.slice A1 n1 c1) := (k5.cell 0).trans rfl
      have x1 : W5.cell? ⟨w.heap.size, 1, none⟩ = some (.slice A2 n2 c2) := (k5.cell 1).trans rfl
      have x2 : W5.cell? ⟨w.heap.size, 2, none⟩ = some (.slice A3 n3 c3) := (k5.cell 2).trans rfl
      have x3 : W5.cell? ⟨w.heap.size, 3, none⟩ = some (.slice A4 n4 c4) := (k5.cell 3).trans rfl
      have x4 : W5.cell? ⟨w.heap.size, 4, none⟩ = some (.slice A5 n5 c5) := (k5.cell 4).trans rfl
      have hs5 := hsv W5 b5
      conv => arg 2; whnf
      go_wp2_with fail
      refine hs5.mono ?_
      rintro e W6 ⟨rfl, b6⟩
      have k6 := k5.on b6
      have r6 := r5.on b6
      have q6 := q5.on b6
      have b66 := b5.trans (b6.mono b5.size)
      clear x0 x1 x2 x3 x4 hs5 hsv k5 r5 q5 b5 b6
      have hPL : PL w P A1 A2 A3 A4 A5 n1 c1 n2 c2 n3 c3 n4 c4 n5 c5 w4.heap.size W2.heap.size 0 [] W6 := ⟨Nat.zero_le _, ⟨_, r6, by simp, fun j hj => absurd hj (Nat.not_lt_zero _), fun j _ hj => by rw [List.getElem?_replicate, if_pos hj]⟩, b66, k6, q6, OpenM.nil _ _⟩
      have y3 : W6.cell? ⟨w4.heap.size, 0, none⟩ = some (.slice (some ⟨W2.heap.size, 0, none⟩) n1 n1) := (q6.cell 0).trans rfl
      clear y3
      have HPL := Lib.hid hPL
      clear hPL k6 r6 q6
      go_wp2_with fail
      refine wpIn_wide.1 (pos_loop hT H.out Hc.out sm Hvv.out hgO W6 HPL.out _ _ _ _ _ _ _ _ _ _ _ _ _ _ _ _ _ _ _ _ _ _ _ _ _ _ _ _ _ _ _ _ _ _ _ _ _ _ _ _ _ _ _ _ _ _ _ _ _ _ _ _ _ _ _ _ _ _ _ _ _ _ _ _ _ _ _ ?_)
      intro Ds W7 u2 u4 u5 u6 u7 u8 u9 u10 u11 u12 u13 u14 u15 u16 u17 u18 u19 u20 u21 u22 u23 u24 u25 u26 u27 u28 u29 u30 u31 u32 u33 u34 u35 u36 u37 u38 u39 u40 u41 u42 u43 u44 u45 u46 u47 u48 u49 u50 u51 u52 u53 u54 u55 u56 u57 u58 u59 u60 u61 u62 u63 u64 u65 u66 u67 u68 h7
      have b7 : Below w.heap.size w W7 := h7.low
      have y3 : W7.cell? ⟨w4.heap.size, 0, none⟩ = some (.slice (some ⟨W2.heap.size, 0, none⟩) n1 n1) := (h7.b3.cell 0).trans rfl
      have o7 : OpenM W7 w.heap.size Ds := h7.opn
      have h9 := PL.rowsLL h7 hgO HL1.out hn5
      rw [← hL.out] at h9
      have H7 := Lib.hid h7
      have H9 := Lib.hid h9
      clear h7 h9
      simp only [Exit.then]
      go_wp2_with fail
      conv => arg 2; whnf
      go_wp2_with fail
      refine retMt rfl rfl Ds rfl o7 ⟨_, _, _, rfl, H9.out, ?_⟩
      exact shut_below Ds w _ b7 o7
  · have e : possR P = [] := by unfold possR; rw [if_neg hc]
    rw [e]
    have hcb : (chkP P != 0) = true := by simpa using hc
    generalize chkP P = cc at hck hcb
    clear hs e hc hsv
    refine wpIn_wide.2 ?_
    refine wp_seq_k fun K0 hK0 => ?_
    conv => arg 2; whnf
    go_wp2_with fail
    generalize (w.alloc (.cells #[.slice A1 n1 c1, .slice A2 n2 c2, .slice A3 n3 c3, .slice A4 n4 c4, .slice A5 n5 c5] 32)) = W1 at k0 b0 ⊢
    conv => arg 2; whnf
    have x0 : W1.cell? ⟨w.heap.size, 0, none⟩ = some (.slice A1 n1 c1) := (k0.cell 0).trans rfl
    have x1 : W1.cell? ⟨w.heap.size, 1, none⟩ = some (.slice A2 n2 c2) := (k0.cell 1).trans rfl
    have x2 : W1.cell? ⟨w.heap.size, 2, none⟩ = some (.slice A3 n3 c3) := (k0.cell 2).trans rfl
    have x3 : W1.cell? ⟨w.heap.size, 3, none⟩ = some (.slice A4 n4 c4) := (k0.cell 3).trans rfl
    have x4 : W1.cell? ⟨w.heap.size, 4, none⟩ = some (.slice A5 n5 c5) := (k0.cell 4).trans rfl
    have hk1 := hck W1 b0
    go_wp2_with fail
    refine hk1.mono ?_
    rintro e W2 ⟨rfl, bb⟩
    have b1 := b0.trans (bb.mono b0.size)
    have k1 := k0.on bb
    clear hk1 hck x0 x1 x2 x3 x4 bb
    go_wp2_with fail
    refine retMt rfl rfl [] rfl (OpenM.nil _ 0) ⟨none, 0, 0, rfl, ?_, b1⟩
    exact ⟨[], World.ownsRow_nil _ _ _ _, RowsI.nil _ _⟩
end Go.Proofs.YtfnhaoindehjdaaDoor
