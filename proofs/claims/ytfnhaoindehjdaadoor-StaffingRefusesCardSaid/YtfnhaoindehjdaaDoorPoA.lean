/- Possible: the body of the range over the users. (genpos.py) -/
import Derived.Test.YtfnhaoindehjdaaDoorStR
import Derived.Test.YtfnhaoindehjdaaDoorInR
import Derived.Test.YtfnhaoindehjdaaDoorPe
import Derived.LoopIn
import Derived.Deep.CutRange
import Derived.Deep.RegionWith
import Derived.Deep.QuietTactic
import Derived.BigQuiet
import Derived.Laws.ResultCell
import Derived.RangeFuncWrites
import Derived.RangeFuncLeaves
import Derived.Sort.CutIn
namespace Go.Proofs.YtfnhaoindehjdaaDoor
open Go.RowKit
set_option linter.unusedVariables false
set_option linter.unusedSimpArgs false
attribute [local go_sem] Oper.semAt_some

noncomputable def posBody : Code := Tryd.f19.body.getD .skip
noncomputable def posPart (k : Nat) : Code := headC (tailC k posBody)
noncomputable def posRf : Code := (rfOf (posPart 4)).getD .skip
noncomputable def posRound : Code := rfBody posRf
/-- Only block g has turned. -/
structure OnlyB (w w' : World) (g : Nat) : Prop where
  os : w'.os = w.os
  tape : w'.tape = w.tape
  output : w'.output = w.output
  size : w.heap.size ≤ w'.heap.size
  block : ∀ k, k < w.heap.size → k ≠ g → w'.heap[k]? = w.heap[k]?
theorem OnlyB.refl (w : World) (g : Nat) : OnlyB w w g := ⟨rfl, rfl, rfl, Nat.le_refl _, fun _ _ _ => rfl⟩
theorem OnlyB.trans {a b c : World} {g : Nat} (h : OnlyB a b g) (k : OnlyB b c g) : OnlyB a c g :=
  ⟨k.os.trans h.os, k.tape.trans h.tape, k.output.trans h.output, Nat.le_trans h.size k.size, fun i hi hg => (k.block i (Nat.lt_of_lt_of_le hi h.size) hg).trans (h.block i hi hg)⟩
theorem OnlyB.ofBelow {w w' : World} (h : Below w.heap.size w w') (g : Nat) : OnlyB w w' g := ⟨h.os, h.tape, h.output, h.size, fun k hk _ => h.block k hk⟩
theorem OnlyB.below {w w' : World} {g B : Nat} (h : OnlyB w w' g) (hB : B ≤ w.heap.size) (hg : B ≤ g) : Below B w w' := ⟨h.os, h.tape, h.output, h.size, fun k hk => h.block k (by omega) (by omega)⟩
theorem OnlyB.blk {w w' : World} {g k t : Nat} {cs : Array Value} (h : OnlyB w w' g) (hb : Blk w k t cs) (hk : k ≠ g) : Blk w' k t cs := (h.block k hb.lt hk).trans hb
theorem OnlyB.set {w w' : World} {g i : Nat} (h : OnlyB w w' g) (u : Value) : OnlyB w (w'.setCell ⟨g, i, none⟩ u) g :=
  ⟨h.os, h.tape, h.output, by have := h.size; simpa using this, fun k hk hg => (Below.heap_setCell w' ⟨g, i, none⟩ u k hg).trans (h.block k hk hg)⟩
theorem OnlyB.setF {w w' : World} {g x i : Nat} (h : OnlyB w w' g) (hx : w.heap.size ≤ x) (u : Value) : OnlyB w (w'.setCell ⟨x, i, none⟩ u) g :=
  ⟨h.os, h.tape, h.output, by have := h.size; simpa using this, fun k hk hg => (Below.heap_setCell w' ⟨x, i, none⟩ u k (show k ≠ x by omega)).trans (h.block k hk hg)⟩
theorem OnlyB.more {w w' w'' : World} {g : Nat} (h : OnlyB w w' g) (hb : Below w.heap.size w' w'') : OnlyB w w'' g :=
  ⟨hb.os.trans h.os, hb.tape.trans h.tape, hb.output.trans h.output, Nat.le_trans h.size hb.size, fun k hk hg => (hb.block k hk).trans (h.block k hk hg)⟩
/-- Whether a user is kept. -/
def pkB (P : Pr) (k : Nat) (u : Int) : Bool := (decide (atI P.fix k = 0) || decide (atI P.fix k = u)) && solvB (setFix P k u)
/-- What the users pre have left in step k's row. -/
structure PI (W0 : World) (P : Pr) (gO k : Nat) (vs0 : List Value) (pre : List Nat) (W : World) : Prop where
  row : ∃ A n c, Blk W gO 30 (vs0.set k (.slice A n c)).toArray ∧ OwnI W W0.heap.size (.slice A n c) n ((pre.map fun x : Nat => (x : Int)).filter (pkB P k)) ∧ n ≤ pre.length
  mv : OnlyB W0 W gO
/-- What the rounds know. -/
structure Ps (w W0 : World) (P : Pr) (A1 A2 A3 A4 A5 : Option Addr) (n1 c1 n2 c2 n3 c3 n4 c4 n5 c5 g3 gO gK k : Nat) (vs0 : List Value) : Prop where
  hT : Tab w
  pr : PrAt w w.heap.size ⟨⟨A1, n1, c1⟩, ⟨A2, n2, c2⟩, ⟨A3, n3, c3⟩, ⟨A4, n4, c4⟩, ⟨A5, n5, c5⟩⟩ P
  hc : chkP P = 0
  sm : SmP P
  low : Below w.heap.size w W0
  bp : Blk W0 w.heap.size 32 #[.slice A1 n1 c1, .slice A2 n2 c2, .slice A3 n3 c3, .slice A4 n4 c4, .slice A5 n5 c5]
  b3 : Blk W0 g3 37 #[.slice (some ⟨gO, 0, none⟩) n1 n1]
  bk : Blk W0 gK 3 #[.int .i64 (k : Int)]
  kl : k < n1
  gOb : w.heap.size ≤ gO
  gOl : gO < W0.heap.size
  vl : vs0.length = n1
  b0 : Blk W0 gO 30 vs0.toArray
theorem pk_no {P : Pr} {k : Nat} {pre : List Nat} {x : Nat} (h : pkB P k x = false) : ((pre ++ [x]).map fun x : Nat => (x : Int)).filter (pkB P k) = (pre.map fun x : Nat => (x : Int)).filter (pkB P k) := by
  rw [List.map_append, List.filter_append]; simp [h]
theorem pk_yes {P : Pr} {k : Nat} {pre : List Nat} {x : Nat} (h : pkB P k x = true) : ((pre ++ [x]).map fun x : Nat => (x : Int)).filter (pkB P k) = (pre.map fun x : Nat => (x : Int)).filter (pkB P k) ++ [(x : Int)] := by
  rw [List.map_append, List.filter_append]; simp [h]
set_option maxHeartbeats 8000000 in
set_option maxRecDepth 100000 in
theorem pos_body {w W0 : World} {P : Pr} {A1 A2 A3 A4 A5 : Option Addr} {n1 c1 n2 c2 n3 c3 n4 c4 n5 c5 g3 gO gK k : Nat} {vs0 : List Value} (h : Ps w W0 P A1 A2 A3 A4 A5 n1 c1 n2 c2 n3 c3 n4 c4 n5 c5 g3 gO gK k vs0)
    (lno : Nat) (pre : List Nat) (x : Nat) (W : World) (hx : 1 ≤ x ∧ x ≤ 256) (hlt : pre.length < 4096) (hI : PI W0 P gO k vs0 pre W)
    (Q : Exit → Act → World → Prop) (hO : ¬ LetsOut Q) (hPan : ∀ c a a' w, Q (.panic c) a w → Q (.panic c) a' w)
    (hN : ∀ a W', KeepsFrom W0.heap.size W W' → Below w.heap.size W W' → PI W0 P gO k vs0 (pre ++ [x]) W' → Q .normal a W')
    (cx2 cx6 cx7 cx8 cx9 cx10 cx11 cx12 cx13 cx14 cx15 cx16 cx17 cx18 cx19 cx20 cx21 cx22 cx23 cx24 cx25 cx26 cx27 cx28 cx29 cx30 cx31 cx32 cx33 cx34 cx35 cx36 cx37 cx38 cx39 cx40 cx41 cx42 cx43 cx44 cx45 cx46 cx47 cx48 cx49 cx50 cx51 cx52 cx53 cx54 cx55 cx56 cx57 cx58 cx59 cx60 cx61 cx62 cx63 cx64 cx65 cx66 cx67 cx68 : Value) :
    posRound.wpIn (Fence.wide.inRound lno) 3 Tryd.prog Q ⟨#[.agg #[.slice A1 n1 c1, .slice A2 n2 c2, .slice A3 n3 c3, .slice A4 n4 c4, .slice A5 n5 c5], .pointer (some ⟨w.heap.size, 0, none⟩), cx2, .pointer (some ⟨g3, 0, none⟩), .pointer (some ⟨gK, 0, none⟩), .int .i64 (x : Int), cx6, cx7, cx8, cx9, cx10, cx11, cx12, cx13, cx14, cx15, cx16, cx17, cx18, cx19, cx20, cx21, cx22, cx23, cx24, cx25, cx26, cx27, cx28, cx29, cx30, cx31, cx32, cx33, cx34, cx35, cx36, cx37, cx38, cx39, cx40, cx41, cx42, cx43, cx44, cx45, cx46, cx47, cx48, cx49, cx50, cx51, cx52, cx53, cx54, cx55, cx56, cx57, cx58, cx59, cx60, cx61, cx62, cx63, cx64, cx65, cx66, cx67, cx68], []⟩ W := by
  obtain ⟨hT, pr, hc, sm, low, bp, b3, bk, hkl, gOb, gOl, vl, bO0⟩ := h
  obtain ⟨⟨A, n, c, bO, ho, hn⟩, mv⟩ := hI
  have ok := chkP_ok hc
  have hg0 : 0 < w.heap.size := World.block_lt_of_cell? w _ (hT 0 (by omega))
  have lowW : Below w.heap.size w W := low.trans (mv.below (Nat.le_of_lt gOl) (Nat.le_refl _) |>.mono gOb)
  have bp' := mv.blk bp (bp.apart bO0 (by decide))
  have b3' := mv.blk b3 (b3.apart bO0 (by decide))
  have bk' := mv.blk bk (bk.apart bO0 (by decide))
  have y4 : W.cell? ⟨w.heap.size, 4, none⟩ = some (.slice A5 n5 c5) := (bp'.cell 4).trans rfl
  have y0 : W.cell? ⟨w.heap.size, 0, none⟩ = some (.slice A1 n1 c1) := (bp'.cell 0).trans rfl
  have y1 : W.cell? ⟨w.heap.size, 1, none⟩ = some (.slice A2 n2 c2) := (bp'.cell 1).trans rfl
  have y2 : W.cell? ⟨w.heap.size, 2, none⟩ = some (.slice A3 n3 c3) := (bp'.cell 2).trans rfl
  have y3 : W.cell? ⟨w.heap.size, 3, none⟩ = some (.slice A4 n4 c4) := (bp'.cell 3).trans rfl
  have yk : W.cell? ⟨gK, 0, none⟩ = some (.int .i64 (k : Int)) := (bk'.cell 0).trans rfl
  have hl5 : P.fix.length = n5 := pr.l5
  have hl1 : P.elig.length = n1 := pr.l1
  have h51 : n5 = n1 := by rw [← hl5, ← hl1]; exact ok.fixl
  have hb5 : n5 ≤ 1000000 := pr.b5
  have prW := (pr.below lowW).more lowW.size
  have hs5 : Sees W W.heap.size A5 (P.fix.map iv) := prW.e5
  obtain ⟨fb, fo, f, eA5, _, Hf, hcf⟩ := Sees.int (k := k) hs5 (by rw [hl5]; omega)
  have hfat : atI P.fix k = f := by unfold atI; rw [Hf.out]; rfl
  have hk5 : (k : Int) < (n5 : Int) := by omega
  have hxi : (1 : Int) ≤ (x : Int) ∧ (x : Int) ≤ 256 := by omega
  subst eA5
  by_cases hskip : f ≠ 0 ∧ f ≠ (x : Int)
  · have hpk : pkB P k (x : Int) = false := by unfold pkB; rw [hfat, decide_eq_false hskip.1, decide_eq_false hskip.2]; rfl
    have e1 : (f != 0) = true := by simpa using hskip.1
    have e2 : (f != (x : Int)) = true := by simpa using hskip.2
    have hP : PI W0 P gO k vs0 (pre ++ [x]) W := ⟨⟨A, n, c, bO, by rw [pk_no hpk]; exact ho, by simp; omega⟩, mv⟩
    have HP := Lib.hid hP
    have HN := Lib.hid hN
    clear hP hpk hfat hskip bO ho mv hl5 hl1 h51 hN
    conv => arg 4; whnf
    gi_wp2
    exact HN.out _ _ (KeepsFrom.refl _ _) (Below.refl _ _) HP.out
  · have hor : atI P.fix k = 0 ∨ atI P.fix k = (x : Int) := by rw [hfat]; omega
    have hpk : pkB P k (x : Int) = solvB (setFix P k (x : Int)) := by
      unfold pkB
      rcases hor with e | e
      · rw [e]; simp
      · rw [e]; simp
    have hc' : chkP (setFix P k (x : Int)) = 0 := chkP_of (ok_setFix ok (by omega))
    have sm' : SmP (setFix P k (x : Int)) := sm
    have hcl := fun (W' : World) (hW : Below w.heap.size w W') => cloneI_any (some ⟨fb, fo, none⟩) n5 c5 P.fix W' (((pr.below hW).more hW.size).e5) hl5 (by omega)
    have hsv := fun (W' : World) (A6 : Option Addr) (c6 : Nat) (hW : Below w.heap.size w W') (h6 : OwnI W' w.heap.size (.slice A6 n5 c6) n5 (P.fix.set k (x : Int))) =>
      solvable_any ⟨⟨A1, n1, c1⟩, ⟨A2, n2, c2⟩, ⟨A3, n3, c3⟩, ⟨A4, n4, c4⟩, ⟨A6, n5, c6⟩⟩ (setFix P k (x : Int)) W'
        (by
          have h9 := (pr.below hW).more hW.size
          exact ⟨h9.l1, h9.l2, h9.l3, h9.l4, by show (P.fix.set k (x : Int)).length = n5; rw [List.length_set]; exact hl5, h9.e1, h9.e2, h9.e3, h9.e4, OwnI.sees h6, h9.b1, h9.b2, h9.b3, h9.b4, hb5, OwnI.room h6⟩) (hT.below hW hg0) (fun _ => sm')
    unfold PrV.v Sl.v at hsv
    simp only [] at hsv
    obtain ⟨v, hv⟩ : ∃ v, Hid (v = solvB (setFix P k (x : Int))) := ⟨_, Lib.hid rfl⟩
    rw [← hv.out] at hpk hsv
    have HCL := Lib.hid hcl
    have HSV := Lib.hid hsv
    have HPK := Lib.hid hpk
    have HN := Lib.hid hN
    have HO := Lib.hid ho
    have HMV := Lib.hid mv
    have HL5 := Lib.hid hl5
    have H51 := Lib.hid h51
    have BO := Lib.hid bO
    clear hcl hsv hpk hN ho mv hl5 hl1 h51 bO hc' sm' hfat hor hs5
    have kq := Blk.new W 32 #[.slice A1 n1 c1, .slice A2 n2 c2, .slice A3 n3 c3, .slice A4 n4 c4, .slice (some ⟨fb, fo, none⟩) n5 c5]
    have cases2 : (f = 0) ∨ (f ≠ 0 ∧ f = (x : Int)) := by omega
    rcases cases2 with hf | ⟨hf, hf2⟩
    · have e1 : (f != 0) = false := by simpa using hf
      clear hskip
      conv => arg 4; whnf
      gi_upto_region 13 with (fail)
      have b1 := bAl (Below.refl W.heap.size W) (.cells #[.slice A1 n1 c1, .slice A2 n2 c2, .slice A3 n3 c3, .slice A4 n4 c4, .slice (some ⟨fb, fo, none⟩) n5 c5] 32)
      generalize (W.alloc (.cells #[.slice A1 n1 c1, .slice A2 n2 c2, .slice A3 n3 c3, .slice A4 n4 c4, .slice (some ⟨fb, fo, none⟩) n5 c5] 32)) = W1 at kq b1 ⊢
      have y4 : W1.cell? ⟨w.heap.size, 4, none⟩ = some (.slice (some ⟨fb, fo, none⟩) n5 c5) := ((bp'.on b1).cell 4).trans rfl
      have low1 := lowW.trans (b1.mono lowW.size)
      have hcl := HCL.out W1 low1
      gi_wp2
      refine ⟨trivial, (CallsIn.inRound lno (callsIn_wide.2 hcl)).mono ?_⟩
      rintro e W2 ⟨A6, c6, rfl, o6, b2⟩
      have kq := kq.on b2
      have b12 := b1.trans (b2.mono b1.size)
      have low2 := low1.trans (b2.mono low1.size)
      have z4 : W2.cell? ⟨W.heap.size, 4, none⟩ = some (.slice (some ⟨fb, fo, none⟩) n5 c5) := (kq.cell 4).trans rfl
      have fz4 := kq.frozen 4
      obtain ⟨g6, cs6, e6, hg6, hb6⟩ := own_blk o6 (by omega)
      subst e6
      have hg6W := Nat.le_trans b1.size hg6
      have hne6 : W.heap.size ≠ g6 := kq.apart hb6 (by decide)
      clear hcl y0 y1 y2 y3
      gi_upto_region 14 with (fail)
      have kq3 : Blk (W2.setCell ⟨W.heap.size, 4, none⟩ (.slice (some ⟨g6, 0, none⟩) n5 c6)) W.heap.size 32 #[.slice A1 n1 c1, .slice A2 n2 c2, .slice A3 n3 c3, .slice A4 n4 c4, .slice (some ⟨g6, 0, none⟩) n5 c6] := by simpa using kq.put 4 (.slice (some ⟨g6, 0, none⟩) n5 c6)
      have o63 : OwnI (W2.setCell ⟨W.heap.size, 4, none⟩ (.slice (some ⟨g6, 0, none⟩) n5 c6)) W1.heap.size (.slice (some ⟨g6, 0, none⟩) n5 c6) n5 P.fix := OwnI.same o6 fun j hj => Below.heap_setCell W2 _ _ j (by injection hj with hj; rw [← hj]; exact Ne.symm hne6)
      have b13 : Below W.heap.size W (W2.setCell ⟨W.heap.size, 4, none⟩ (.slice (some ⟨g6, 0, none⟩) n5 c6)) := b12.setCell (p := ⟨W.heap.size, 4, none⟩) (Nat.le_refl _) _
      have hkp : KeepsFrom W0.heap.size W (W2.setCell ⟨W.heap.size, 4, none⟩ (.slice (some ⟨g6, 0, none⟩) n5 c6)) := KeepsFrom.trans (Y := W2) ⟨b12.size, fun j o _ hj _ => (b12.block j (Array.getElem?_eq_some_iff.1 hj).1).trans hj⟩ ((KeepsOthers.setCell _ _ _).from _)
      generalize (W2.setCell ⟨W.heap.size, 4, none⟩ (.slice (some ⟨g6, 0, none⟩) n5 c6)) = W3 at kq3 o63 b13 hkp ⊢
      clear z4 fz4 kq o6 hb6
      have low3 := lowW.trans (b13.mono lowW.size)
      obtain ⟨cs7, hb7, _⟩ := own_type o63 rfl
      have z4 : W3.cell? ⟨W.heap.size, 4, none⟩ = some (.slice (some ⟨g6, 0, none⟩) n5 c6) := (kq3.cell 4).trans rfl
      have yk3 : W3.cell? ⟨gK, 0, none⟩ = some (.int .i64 (k : Int)) := ((bk'.on b13).cell 0).trans rfl
      obtain ⟨q9, y9⟩ : ∃ y, W3.cell? ⟨g6, k, none⟩ = some y := by
        obtain ⟨b, o, z', e, hb2, Hz, hc⟩ := Sees.int (k := k) (OwnI.sees o63) (by rw [HL5.out]; omega)
        injection e with e
        injection e with e1 e2
        subst e1 e2
        rw [Nat.zero_add] at hc
        exact ⟨_, hc⟩
      have f9 := hb7.frozen k
      gi_upto_region 15 with (fail)
      have kq4 : Blk (W3.setCell ⟨g6, k, none⟩ (.int .i64 (x : Int))) W.heap.size 32 #[.slice A1 n1 c1, .slice A2 n2 c2, .slice A3 n3 c3, .slice A4 n4 c4, .slice (some ⟨g6, 0, none⟩) n5 c6] := kq3.far (p := ⟨g6, k, none⟩) hne6 _
      have o64 : OwnI (W3.setCell ⟨g6, k, none⟩ (.int .i64 (x : Int))) W1.heap.size (.slice (some ⟨g6, 0, none⟩) n5 c6) n5 (P.fix.set k (x : Int)) := OwnI.set o63 (by omega) _
      have b14 : Below W.heap.size W (W3.setCell ⟨g6, k, none⟩ (.int .i64 (x : Int))) := b13.setCell (p := ⟨g6, k, none⟩) hg6W _
      have hkp4 : KeepsFrom W0.heap.size W (W3.setCell ⟨g6, k, none⟩ (.int .i64 (x : Int))) := hkp.trans ((KeepsOthers.setCell _ _ _).from _)
      generalize (W3.setCell ⟨g6, k, none⟩ (.int .i64 (x : Int))) = W4 at kq4 o64 b14 hkp4 ⊢
      clear z4 yk3 y9 f9 kq3 o63 hb7 b13 hkp low3
      have low4 := lowW.trans (b14.mono lowW.size)
      have q0 : W4.cell? ⟨W.heap.size, 0, none⟩ = some (.slice A1 n1 c1) := (kq4.cell 0).trans rfl
      have q1 : W4.cell? ⟨W.heap.size, 1, none⟩ = some (.slice A2 n2 c2) := (kq4.cell 1).trans rfl
      have q2 : W4.cell? ⟨W.heap.size, 2, none⟩ = some (.slice A3 n3 c3) := (kq4.cell 2).trans rfl
      have q3 : W4.cell? ⟨W.heap.size, 3, none⟩ = some (.slice A4 n4 c4) := (kq4.cell 3).trans rfl
      have q4 : W4.cell? ⟨W.heap.size, 4, none⟩ = some (.slice (some ⟨g6, 0, none⟩) n5 c6) := (kq4.cell 4).trans rfl
      have hsv := HSV.out W4 _ _ low4 (OwnI.more o64 low1.size)
      gi_wp2
      refine ⟨trivial, (CallsIn.inRound lno (callsIn_wide.2 hsv)).mono ?_⟩
      rintro e W5 ⟨rfl, b5⟩
      have b15 := b14.trans (b5.mono b14.size)
      have low5 := lowW.trans (b15.mono lowW.size)
      have hkp5 : KeepsFrom W0.heap.size W W5 := hkp4.trans ⟨b5.size, fun j o _ hj _ => (b5.block j (Array.getElem?_eq_some_iff.1 hj).1).trans hj⟩
      clear q0 q1 q2 q3 q4 hsv kq4 o64 b14 hkp4 low4 b5
      cases hvv : v
      · have hpk : pkB P k (x : Int) = false := by rw [HPK.out, hvv]
        have HP : Hid (PI W0 P gO k vs0 (pre ++ [x]) W5) := Lib.hid ⟨⟨A, n, c, BO.out.on b15, by rw [pk_no hpk]; exact OwnI.on HO.out b15, by simp; omega⟩, HMV.out.more (b15.mono HMV.out.size)⟩
        clear hpk hvv
        gi_wp2
        exact HN.out _ _ hkp5 (b15.mono lowW.size) HP.out
      · have hpk : pkB P k (x : Int) = true := by rw [HPK.out, hvv]
        have HPk := Lib.hid hpk
        clear hpk hvv
        gi_wp2
        have bO5 := BO.out.on b15
        have k35 := b3'.on b15
        have kk5 := bk'.on b15
        have ho5 := OwnI.on HO.out b15
        have mv5 := HMV.out.more (b15.mono HMV.out.size)
        have hko : k < (vs0.set k (.slice A n c)).length := by rw [List.length_set, vl]; exact hkl
        obtain ⟨SS, hSS⟩ : ∃ S : World → Prop, S = (fun W => W.cell? ⟨g3, 0, none⟩ = some (.slice (some ⟨gO, 0, none⟩) n1 n1) ∧ W.cell? ⟨gK, 0, none⟩ = some (.int .i64 (k : Int)) ∧ W.cell? ⟨gO, k, none⟩ = some (.slice A n c)) := ⟨_, rfl⟩
        have sB : ∀ W, Blk W g3 37 #[.slice (some ⟨gO, 0, none⟩) n1 n1] → Blk W gK 3 #[.int .i64 (k : Int)] → Blk W gO 30 (vs0.set k (.slice A n c)).toArray → SS W := fun W h1 h2 h3 => by
          rw [hSS]
          refine ⟨(h1.cell 0).trans rfl, (h2.cell 0).trans rfl, (h3.cell k).trans ?_⟩
          rw [List.getElem?_toArray, List.getElem?_set_self (by rw [vl]; exact hkl)]
        have hk1 : (k : Int) < (n1 : Int) := by omega
        have hLO : ¬ LetsOut (Exit.inBlock 3 Q) := fun ⟨a, w, h⟩ => hO ⟨a, w, h⟩
        refine wpIn_region_F (fun i => i == 10) SS (by kernel_rfl) hLO (by kernel_rfl) (sB _ (k35.on (Below.refl _ _).drew) (kk5.on (Below.refl _ _).drew) (bO5.on (Below.refl _ _).drew)) (fun hHeld => ?_)
        have bd : Below W5.heap.size W5 W5.drew := (Below.refl _ _).drew
        have bO5 := bO5.on bd
        have k35 := k35.on bd
        have kk5 := kk5.on bd
        have ho5 := OwnI.on ho5 bd
        have mv5 := mv5.more (bd.mono mv5.size)
        have b15 := b15.trans (bd.mono b15.size)
        have low5 := lowW.trans (b15.mono lowW.size)
        have hkp5 : KeepsFrom W0.heap.size W W5.drew := hkp5.trans ⟨Nat.le_refl _, fun j o _ hj _ => hj⟩
        generalize W5.drew = W6 at hHeld bO5 k35 kk5 ho5 mv5 b15 low5 hkp5 ⊢
        clear bd
        refine wpAnyF_take (i := 0) (v := ?_) rfl (by kernel_rfl) (by kernel_rfl) (by kernel_rfl) (by kernel_rfl) (fun _ _ _ h => hPan _ _ _ _ h) hHeld (Or.inl ⟨by rfl, ?_⟩) ?_
        rotate_left
        · (intro w hSw; (try rw [hSS] at hSw); (try dsimp only at hSw); go_simp; try with_reducible rfl)
        try simp only [Act.put, List.getElem_toArray, List.getElem_cons_zero, List.getElem_cons_succ, List.setIfInBounds_toArray, List.set_cons_zero, List.set_cons_succ]
        refine wpAnyF_take (i := 1) (v := ?_) rfl (by kernel_rfl) (by kernel_rfl) (by kernel_rfl) (by kernel_rfl) (fun _ _ _ h => hPan _ _ _ _ h) hHeld (Or.inl ⟨by rfl, ?_⟩) ?_
        rotate_left
        · (intro w hSw; (try rw [hSS] at hSw); (try dsimp only at hSw); go_simp; try with_reducible rfl)
        try simp only [Act.put, List.getElem_toArray, List.getElem_cons_zero, List.getElem_cons_succ, List.setIfInBounds_toArray, List.set_cons_zero, List.set_cons_succ]
        refine wpAnyF_take (i := 2) (v := ?_) rfl (by kernel_rfl) (by kernel_rfl) (by kernel_rfl) (by kernel_rfl) (fun _ _ _ h => hPan _ _ _ _ h) hHeld (Or.inl ⟨by rfl, ?_⟩) ?_
        rotate_left
        · (intro w hSw; (try rw [hSS] at hSw); (try dsimp only at hSw); go_simp; try with_reducible rfl)
        try simp only [Act.put, List.getElem_toArray, List.getElem_cons_zero, List.getElem_cons_succ, List.setIfInBounds_toArray, List.set_cons_zero, List.set_cons_succ]
        refine wpAnyF_take (i := 3) (v := ?_) rfl (by kernel_rfl) (by kernel_rfl) (by kernel_rfl) (by kernel_rfl) (fun _ _ _ h => hPan _ _ _ _ h) hHeld (Or.inl ⟨by rfl, ?_⟩) ?_
        rotate_left
        · (intro w hSw; (try rw [hSS] at hSw); (try dsimp only at hSw); go_simp; try with_reducible rfl)
        try simp only [Act.put, List.getElem_toArray, List.getElem_cons_zero, List.getElem_cons_succ, List.setIfInBounds_toArray, List.set_cons_zero, List.set_cons_succ]
        refine wpAnyF_take (i := 4) (v := ?_) rfl (by kernel_rfl) (by kernel_rfl) (by kernel_rfl) (by kernel_rfl) (fun _ _ _ h => hPan _ _ _ _ h) hHeld (Or.inl ⟨by rfl, ?_⟩) ?_
        rotate_left
        · (intro w hSw; (try rw [hSS] at hSw); (try dsimp only at hSw); go_simp; try with_reducible rfl)
        try simp only [Act.put, List.getElem_toArray, List.getElem_cons_zero, List.getElem_cons_succ, List.setIfInBounds_toArray, List.set_cons_zero, List.set_cons_succ]
        refine wpAnyF_take (i := 5) (v := ?_) rfl (by kernel_rfl) (by kernel_rfl) (by kernel_rfl) (by kernel_rfl) (fun _ _ _ h => hPan _ _ _ _ h) hHeld (Or.inl ⟨by rfl, ?_⟩) ?_
        rotate_left
        · (intro w hSw; (try rw [hSS] at hSw); (try dsimp only at hSw); go_simp; try with_reducible rfl)
        try simp only [Act.put, List.getElem_toArray, List.getElem_cons_zero, List.getElem_cons_succ, List.setIfInBounds_toArray, List.set_cons_zero, List.set_cons_succ]
        refine wpAnyF_take (i := 6) (v := ?_) rfl (by kernel_rfl) (by kernel_rfl) (by kernel_rfl) (by kernel_rfl) (fun _ _ _ h => hPan _ _ _ _ h) hHeld (Or.inl ⟨by rfl, ?_⟩) ?_
        rotate_left
        · (intro w hSw; (try rw [hSS] at hSw); (try dsimp only at hSw); go_simp; try with_reducible rfl)
        try simp only [Act.put, List.getElem_toArray, List.getElem_cons_zero, List.getElem_cons_succ, List.setIfInBounds_toArray, List.set_cons_zero, List.set_cons_succ]
        refine wpAnyF_one (i := 7) (by kernel_rfl) rfl (fun K hK => ?_)
        go_simp
        refine hK.out _ _ (Or.inr (sB _ (k35.alloc _) (kk5.alloc _) (bO5.alloc _))) ?_
        clear hK K
        try simp only [Act.put, List.getElem_toArray, List.getElem_cons_zero, List.getElem_cons_succ, List.setIfInBounds_toArray, List.set_cons_zero, List.set_cons_succ]
        refine wpAnyF_one (i := 8) (by kernel_rfl) rfl (fun K hK => ?_)
        refine step_row1 3 30 _ 1 8 int_info Tryd.underlying30 rfl (by omega) (by omega) _ rfl (.tmp 62) (.tmp 64) rfl W6 W0.heap.size _ n _ rfl ho5 #[.int .i64 (x : Int)] rfl _ rfl rfl rfl (by simp [Value.oneCell']) (by omega) (Nat.le_of_lt (Nat.lt_of_lt_of_le gOl mv5.size) |> fun _ => mv5.size) (n + 1) rfl ?_
        intro A7 c7 w7 o7 g7 b7 k7
        have k37 := k35.grown g7 (own_off ho5 k35 (by decide))
        have kk7 := kk5.below b7 bk.lt
        have bO7 := bO5.grown g7 (own_off ho5 bO5 (by decide))
        refine hK.out _ _ (Or.inr (sB _ k37 kk7 bO7)) ?_
        clear hK K
        try simp only [Act.put, List.getElem_toArray, List.getElem_cons_zero, List.getElem_cons_succ, List.setIfInBounds_toArray, List.set_cons_zero, List.set_cons_succ]
        refine wpAnyF_one (i := 9) (by kernel_rfl) rfl (fun K hK => ?_)
        go_simp
        refine hK.out _ _ (Or.inr (sB _ k37 kk7 bO7)) ?_
        clear hK K
        try simp only [Act.put, List.getElem_toArray, List.getElem_cons_zero, List.getElem_cons_succ, List.setIfInBounds_toArray, List.set_cons_zero, List.set_cons_succ]
        refine wpAnyF_one (i := 10) (by kernel_rfl) rfl (fun K hK => ?_)
        have yO : w7.cell? ⟨gO, k, none⟩ = some (.slice A n c) := (bO7.cell k).trans (by rw [List.getElem?_toArray, List.getElem?_set_self (by rw [vl]; exact hkl)])
        have fO := bO7.frozen k
        go_simp
        refine hK.out _ _ (Or.inl rfl) ?_
        clear hK K
        refine wpAnyF_done (by kernel_rfl) ?_ _
        have hgOb : ∀ j, (Value.slice A7 (n + 1) c7).ownBlock = some j → j ≠ gO := fun j hj e => by
          have := (World.ownsRow.lt o7 j hj).1
          omega
        have bO8 : Blk (w7.setCell ⟨gO, k, none⟩ (.slice A7 (n + 1) c7)) gO 30 (vs0.set k (.slice A7 (n + 1) c7)).toArray := by
          have h9 := bO7.put k (.slice A7 (n + 1) c7)
          rw [List.setIfInBounds_toArray, List.set_set] at h9
          exact h9
        have o8 : OwnI (w7.setCell ⟨gO, k, none⟩ (.slice A7 (n + 1) c7)) W0.heap.size (.slice A7 (n + 1) c7) (n + 1) (((pre ++ [x]).map fun x : Nat => (x : Int)).filter (pkB P k)) := by
          rw [pk_yes HPk.out]
          refine OwnI.same (w := w7) ?_ fun j hj => Below.heap_setCell w7 _ _ j (hgOb j hj)
          show World.ownsRow _ _ _ _ _ _ _
          rw [List.map_append]
          exact o7
        have mv8 : OnlyB W0 (w7.setCell ⟨gO, k, none⟩ (.slice A7 (n + 1) c7)) gO := (mv5.more b7).set _
        have hkp8 : KeepsFrom W0.heap.size W (w7.setCell ⟨gO, k, none⟩ (.slice A7 (n + 1) c7)) := (hkp5.trans ((KeepsOthers.of_grownBy g7 (fun j o e ho => by
          obtain ⟨cs', hb', _⟩ := own_type ho5 e
          rw [show W6.heap[j]? = some (.cells cs' 3 (0, 0)) from hb'] at ho
          injection ho with ho
          subst ho
          rfl)).from _)).trans ((KeepsOthers.setCell _ _ _).from _)
        have low8 : Below w.heap.size W (w7.setCell ⟨gO, k, none⟩ (.slice A7 (n + 1) c7)) := (((b15.mono lowW.size).trans (b7.mono (Nat.le_trans low.size (Nat.le_refl _)))).setCell (p := ⟨gO, k, none⟩) gOb _)
        exact HN.out _ _ hkp8 low8 ⟨⟨A7, n + 1, c7, bO8, o8, by simp; omega⟩, mv8⟩
    · have e1 : (f != 0) = true := by simpa using hf
      have e2 : (f != (x : Int)) = false := by simpa using hf2
      clear hskip
      conv => arg 4; whnf
      gi_upto_region 13 with (fail)
      have b1 := bAl (Below.refl W.heap.size W) (.cells #[.slice A1 n1 c1, .slice A2 n2 c2, .slice A3 n3 c3, .slice A4 n4 c4, .slice (some ⟨fb, fo, none⟩) n5 c5] 32)
      generalize (W.alloc (.cells #[.slice A1 n1 c1, .slice A2 n2 c2, .slice A3 n3 c3, .slice A4 n4 c4, .slice (some ⟨fb, fo, none⟩) n5 c5] 32)) = W1 at kq b1 ⊢
      have y4 : W1.cell? ⟨w.heap.size, 4, none⟩ = some (.slice (some ⟨fb, fo, none⟩) n5 c5) := ((bp'.on b1).cell 4).trans rfl
      have low1 := lowW.trans (b1.mono lowW.size)
      have hcl := HCL.out W1 low1
      gi_wp2
      refine ⟨trivial, (CallsIn.inRound lno (callsIn_wide.2 hcl)).mono ?_⟩
      rintro e W2 ⟨A6, c6, rfl, o6, b2⟩
      have kq := kq.on b2
      have b12 := b1.trans (b2.mono b1.size)
      have low2 := low1.trans (b2.mono low1.size)
      have z4 : W2.cell? ⟨W.heap.size, 4, none⟩ = some (.slice (some ⟨fb, fo, none⟩) n5 c5) := (kq.cell 4).trans rfl
      have fz4 := kq.frozen 4
      obtain ⟨g6, cs6, e6, hg6, hb6⟩ := own_blk o6 (by omega)
      subst e6
      have hg6W := Nat.le_trans b1.size hg6
      have hne6 : W.heap.size ≠ g6 := kq.apart hb6 (by decide)
      clear hcl y0 y1 y2 y3
      gi_upto_region 14 with (fail)
      have kq3 : Blk (W2.setCell ⟨W.heap.size, 4, none⟩ (.slice (some ⟨g6, 0, none⟩) n5 c6)) W.heap.size 32 #[.slice A1 n1 c1, .slice A2 n2 c2, .slice A3 n3 c3, .slice A4 n4 c4, .slice (some ⟨g6, 0, none⟩) n5 c6] := by simpa using kq.put 4 (.slice (some ⟨g6, 0, none⟩) n5 c6)
      have o63 : OwnI (W2.setCell ⟨W.heap.size, 4, none⟩ (.slice (some ⟨g6, 0, none⟩) n5 c6)) W1.heap.size (.slice (some ⟨g6, 0, none⟩) n5 c6) n5 P.fix := OwnI.same o6 fun j hj => Below.heap_setCell W2 _ _ j (by injection hj with hj; rw [← hj]; exact Ne.symm hne6)
      have b13 : Below W.heap.size W (W2.setCell ⟨W.heap.size, 4, none⟩ (.slice (some ⟨g6, 0, none⟩) n5 c6)) := b12.setCell (p := ⟨W.heap.size, 4, none⟩) (Nat.le_refl _) _
      have hkp : KeepsFrom W0.heap.size W (W2.setCell ⟨W.heap.size, 4, none⟩ (.slice (some ⟨g6, 0, none⟩) n5 c6)) := KeepsFrom.trans (Y := W2) ⟨b12.size, fun j o _ hj _ => (b12.block j (Array.getElem?_eq_some_iff.1 hj).1).trans hj⟩ ((KeepsOthers.setCell _ _ _).from _)
      generalize (W2.setCell ⟨W.heap.size, 4, none⟩ (.slice (some ⟨g6, 0, none⟩) n5 c6)) = W3 at kq3 o63 b13 hkp ⊢
      clear z4 fz4 kq o6 hb6
      have low3 := lowW.trans (b13.mono lowW.size)
      obtain ⟨cs7, hb7, _⟩ := own_type o63 rfl
      have z4 : W3.cell? ⟨W.heap.size, 4, none⟩ = some (.slice (some ⟨g6, 0, none⟩) n5 c6) := (kq3.cell 4).trans rfl
      have yk3 : W3.cell? ⟨gK, 0, none⟩ = some (.int .i64 (k : Int)) := ((bk'.on b13).cell 0).trans rfl
      obtain ⟨q9, y9⟩ : ∃ y, W3.cell? ⟨g6, k, none⟩ = some y := by
        obtain ⟨b, o, z', e, hb2, Hz, hc⟩ := Sees.int (k := k) (OwnI.sees o63) (by rw [HL5.out]; omega)
        injection e with e
        injection e with e1 e2
        subst e1 e2
        rw [Nat.zero_add] at hc
        exact ⟨_, hc⟩
      have f9 := hb7.frozen k
      gi_upto_region 15 with (fail)
      have kq4 : Blk (W3.setCell ⟨g6, k, none⟩ (.int .i64 (x : Int))) W.heap.size 32 #[.slice A1 n1 c1, .slice A2 n2 c2, .slice A3 n3 c3, .slice A4 n4 c4, .slice (some ⟨g6, 0, none⟩) n5 c6] := kq3.far (p := ⟨g6, k, none⟩) hne6 _
      have o64 : OwnI (W3.setCell ⟨g6, k, none⟩ (.int .i64 (x : Int))) W1.heap.size (.slice (some ⟨g6, 0, none⟩) n5 c6) n5 (P.fix.set k (x : Int)) := OwnI.set o63 (by omega) _
      have b14 : Below W.heap.size W (W3.setCell ⟨g6, k, none⟩ (.int .i64 (x : Int))) := b13.setCell (p := ⟨g6, k, none⟩) hg6W _
      have hkp4 : KeepsFrom W0.heap.size W (W3.setCell ⟨g6, k, none⟩ (.int .i64 (x : Int))) := hkp.trans ((KeepsOthers.setCell _ _ _).from _)
      generalize (W3.setCell ⟨g6, k, none⟩ (.int .i64 (x : Int))) = W4 at kq4 o64 b14 hkp4 ⊢
      clear z4 yk3 y9 f9 kq3 o63 hb7 b13 hkp low3
      have low4 := lowW.trans (b14.mono lowW.size)
      have q0 : W4.cell? ⟨W.heap.size, 0, none⟩ = some (.slice A1 n1 c1) := (kq4.cell 0).trans rfl
      have q1 : W4.cell? ⟨W.heap.size, 1, none⟩ = some (.slice A2 n2 c2) := (kq4.cell 1).trans rfl
      have q2 : W4.cell? ⟨W.heap.size, 2, none⟩ = some (.slice A3 n3 c3) := (kq4.cell 2).trans rfl
      have q3 : W4.cell? ⟨W.heap.size, 3, none⟩ = some (.slice A4 n4 c4) := (kq4.cell 3).trans rfl
      have q4 : W4.cell? ⟨W.heap.size, 4, none⟩ = some (.slice (some ⟨g6, 0, none⟩) n5 c6) := (kq4.cell 4).trans rfl
      have hsv := HSV.out W4 _ _ low4 (OwnI.more o64 low1.size)
      gi_wp2
      refine ⟨trivial, (CallsIn.inRound lno (callsIn_wide.2 hsv)).mono ?_⟩
      rintro e W5 ⟨rfl, b5⟩
      have b15 := b14.trans (b5.mono b14.size)
      have low5 := lowW.trans (b15.mono lowW.size)
      have hkp5 : KeepsFrom W0.heap.size W W5 := hkp4.trans ⟨b5.size, fun j o _ hj _ => (b5.block j (Array.getElem?_eq_some_iff.1 hj).1).trans hj⟩
      clear q0 q1 q2 q3 q4 hsv kq4 o64 b14 hkp4 low4 b5
      cases hvv : v
      · have hpk : pkB P k (x : Int) = false := by rw [HPK.out, hvv]
        have HP : Hid (PI W0 P gO k vs0 (pre ++ [x]) W5) := Lib.hid ⟨⟨A, n, c, BO.out.on b15, by rw [pk_no hpk]; exact OwnI.on HO.out b15, by simp; omega⟩, HMV.out.more (b15.mono HMV.out.size)⟩
        clear hpk hvv
        gi_wp2
        exact HN.out _ _ hkp5 (b15.mono lowW.size) HP.out
      · have hpk : pkB P k (x : Int) = true := by rw [HPK.out, hvv]
        have HPk := Lib.hid hpk
        clear hpk hvv
        gi_wp2
        have bO5 := BO.out.on b15
        have k35 := b3'.on b15
        have kk5 := bk'.on b15
        have ho5 := OwnI.on HO.out b15
        have mv5 := HMV.out.more (b15.mono HMV.out.size)
        have hko : k < (vs0.set k (.slice A n c)).length := by rw [List.length_set, vl]; exact hkl
        obtain ⟨SS, hSS⟩ : ∃ S : World → Prop, S = (fun W => W.cell? ⟨g3, 0, none⟩ = some (.slice (some ⟨gO, 0, none⟩) n1 n1) ∧ W.cell? ⟨gK, 0, none⟩ = some (.int .i64 (k : Int)) ∧ W.cell? ⟨gO, k, none⟩ = some (.slice A n c)) := ⟨_, rfl⟩
        have sB : ∀ W, Blk W g3 37 #[.slice (some ⟨gO, 0, none⟩) n1 n1] → Blk W gK 3 #[.int .i64 (k : Int)] → Blk W gO 30 (vs0.set k (.slice A n c)).toArray → SS W := fun W h1 h2 h3 => by
          rw [hSS]
          refine ⟨(h1.cell 0).trans rfl, (h2.cell 0).trans rfl, (h3.cell k).trans ?_⟩
          rw [List.getElem?_toArray, List.getElem?_set_self (by rw [vl]; exact hkl)]
        have hk1 : (k : Int) < (n1 : Int) := by omega
        have hLO : ¬ LetsOut (Exit.inBlock 3 Q) := fun ⟨a, w, h⟩ => hO ⟨a, w, h⟩
        refine wpIn_region_F (fun i => i == 10) SS (by kernel_rfl) hLO (by kernel_rfl) (sB _ (k35.on (Below.refl _ _).drew) (kk5.on (Below.refl _ _).drew) (bO5.on (Below.refl _ _).drew)) (fun hHeld => ?_)
        have bd : Below W5.heap.size W5 W5.drew := (Below.refl _ _).drew
        have bO5 := bO5.on bd
        have k35 := k35.on bd
        have kk5 := kk5.on bd
        have ho5 := OwnI.on ho5 bd
        have mv5 := mv5.more (bd.mono mv5.size)
        have b15 := b15.trans (bd.mono b15.size)
        have low5 := lowW.trans (b15.mono lowW.size)
        have hkp5 : KeepsFrom W0.heap.size W W5.drew := hkp5.trans ⟨Nat.le_refl _, fun j o _ hj _ => hj⟩
        generalize W5.drew = W6 at hHeld bO5 k35 kk5 ho5 mv5 b15 low5 hkp5 ⊢
        clear bd
        refine wpAnyF_take (i := 0) (v := ?_) rfl (by kernel_rfl) (by kernel_rfl) (by kernel_rfl) (by kernel_rfl) (fun _ _ _ h => hPan _ _ _ _ h) hHeld (Or.inl ⟨by rfl, ?_⟩) ?_
        rotate_left
        · (intro w hSw; (try rw [hSS] at hSw); (try dsimp only at hSw); go_simp; try with_reducible rfl)
        try simp only [Act.put, List.getElem_toArray, List.getElem_cons_zero, List.getElem_cons_succ, List.setIfInBounds_toArray, List.set_cons_zero, List.set_cons_succ]
        refine wpAnyF_take (i := 1) (v := ?_) rfl (by kernel_rfl) (by kernel_rfl) (by kernel_rfl) (by kernel_rfl) (fun _ _ _ h => hPan _ _ _ _ h) hHeld (Or.inl ⟨by rfl, ?_⟩) ?_
        rotate_left
        · (intro w hSw; (try rw [hSS] at hSw); (try dsimp only at hSw); go_simp; try with_reducible rfl)
        try simp only [Act.put, List.getElem_toArray, List.getElem_cons_zero, List.getElem_cons_succ, List.setIfInBounds_toArray, List.set_cons_zero, List.set_cons_succ]
        refine wpAnyF_take (i := 2) (v := ?_) rfl (by kernel_rfl) (by kernel_rfl) (by kernel_rfl) (by kernel_rfl) (fun _ _ _ h => hPan _ _ _ _ h) hHeld (Or.inl ⟨by rfl, ?_⟩) ?_
        rotate_left
        · (intro w hSw; (try rw [hSS] at hSw); (try dsimp only at hSw); go_simp; try with_reducible rfl)
        try simp only [Act.put, List.getElem_toArray, List.getElem_cons_zero, List.getElem_cons_succ, List.setIfInBounds_toArray, List.set_cons_zero, List.set_cons_succ]
        refine wpAnyF_take (i := 3) (v := ?_) rfl (by kernel_rfl) (by kernel_rfl) (by kernel_rfl) (by kernel_rfl) (fun _ _ _ h => hPan _ _ _ _ h) hHeld (Or.inl ⟨by rfl, ?_⟩) ?_
        rotate_left
        · (intro w hSw; (try rw [hSS] at hSw); (try dsimp only at hSw); go_simp; try with_reducible rfl)
        try simp only [Act.put, List.getElem_toArray, List.getElem_cons_zero, List.getElem_cons_succ, List.setIfInBounds_toArray, List.set_cons_zero, List.set_cons_succ]
        refine wpAnyF_take (i := 4) (v := ?_) rfl (by kernel_rfl) (by kernel_rfl) (by kernel_rfl) (by kernel_rfl) (fun _ _ _ h => hPan _ _ _ _ h) hHeld (Or.inl ⟨by rfl, ?_⟩) ?_
        rotate_left
        · (intro w hSw; (try rw [hSS] at hSw); (try dsimp only at hSw); go_simp; try with_reducible rfl)
        try simp only [Act.put, List.getElem_toArray, List.getElem_cons_zero, List.getElem_cons_succ, List.setIfInBounds_toArray, List.set_cons_zero, List.set_cons_succ]
        refine wpAnyF_take (i := 5) (v := ?_) rfl (by kernel_rfl) (by kernel_rfl) (by kernel_rfl) (by kernel_rfl) (fun _ _ _ h => hPan _ _ _ _ h) hHeld (Or.inl ⟨by rfl, ?_⟩) ?_
        rotate_left
        · (intro w hSw; (try rw [hSS] at hSw); (try dsimp only at hSw); go_simp; try with_reducible rfl)
        try simp only [Act.put, List.getElem_toArray, List.getElem_cons_zero, List.getElem_cons_succ, List.setIfInBounds_toArray, List.set_cons_zero, List.set_cons_succ]
        refine wpAnyF_take (i := 6) (v := ?_) rfl (by kernel_rfl) (by kernel_rfl) (by kernel_rfl) (by kernel_rfl) (fun _ _ _ h => hPan _ _ _ _ h) hHeld (Or.inl ⟨by rfl, ?_⟩) ?_
        rotate_left
        · (intro w hSw; (try rw [hSS] at hSw); (try dsimp only at hSw); go_simp; try with_reducible rfl)
        try simp only [Act.put, List.getElem_toArray, List.getElem_cons_zero, List.getElem_cons_succ, List.setIfInBounds_toArray, List.set_cons_zero, List.set_cons_succ]
        refine wpAnyF_one (i := 7) (by kernel_rfl) rfl (fun K hK => ?_)
        go_simp
        refine hK.out _ _ (Or.inr (sB _ (k35.alloc _) (kk5.alloc _) (bO5.alloc _))) ?_
        clear hK K
        try simp only [Act.put, List.getElem_toArray, List.getElem_cons_zero, List.getElem_cons_succ, List.setIfInBounds_toArray, List.set_cons_zero, List.set_cons_succ]
        refine wpAnyF_one (i := 8) (by kernel_rfl) rfl (fun K hK => ?_)
        refine step_row1 3 30 _ 1 8 int_info Tryd.underlying30 rfl (by omega) (by omega) _ rfl (.tmp 62) (.tmp 64) rfl W6 W0.heap.size _ n _ rfl ho5 #[.int .i64 (x : Int)] rfl _ rfl rfl rfl (by simp [Value.oneCell']) (by omega) (Nat.le_of_lt (Nat.lt_of_lt_of_le gOl mv5.size) |> fun _ => mv5.size) (n + 1) rfl ?_
        intro A7 c7 w7 o7 g7 b7 k7
        have k37 := k35.grown g7 (own_off ho5 k35 (by decide))
        have kk7 := kk5.below b7 bk.lt
        have bO7 := bO5.grown g7 (own_off ho5 bO5 (by decide))
        refine hK.out _ _ (Or.inr (sB _ k37 kk7 bO7)) ?_
        clear hK K
        try simp only [Act.put, List.getElem_toArray, List.getElem_cons_zero, List.getElem_cons_succ, List.setIfInBounds_toArray, List.set_cons_zero, List.set_cons_succ]
        refine wpAnyF_one (i := 9) (by kernel_rfl) rfl (fun K hK => ?_)
        go_simp
        refine hK.out _ _ (Or.inr (sB _ k37 kk7 bO7)) ?_
        clear hK K
        try simp only [Act.put, List.getElem_toArray, List.getElem_cons_zero, List.getElem_cons_succ, List.setIfInBounds_toArray, List.set_cons_zero, List.set_cons_succ]
        refine wpAnyF_one (i := 10) (by kernel_rfl) rfl (fun K hK => ?_)
        have yO : w7.cell? ⟨gO, k, none⟩ = some (.slice A n c) := (bO7.cell k).trans (by rw [List.getElem?_toArray, List.getElem?_set_self (by rw [vl]; exact hkl)])
        have fO := bO7.frozen k
        go_simp
        refine hK.out _ _ (Or.inl rfl) ?_
        clear hK K
        refine wpAnyF_done (by kernel_rfl) ?_ _
        have hgOb : ∀ j, (Value.slice A7 (n + 1) c7).ownBlock = some j → j ≠ gO := fun j hj e => by
          have := (World.ownsRow.lt o7 j hj).1
          omega
        have bO8 : Blk (w7.setCell ⟨gO, k, none⟩ (.slice A7 (n + 1) c7)) gO 30 (vs0.set k (.slice A7 (n + 1) c7)).toArray := by
          have h9 := bO7.put k (.slice A7 (n + 1) c7)
          rw [List.setIfInBounds_toArray, List.set_set] at h9
          exact h9
        have o8 : OwnI (w7.setCell ⟨gO, k, none⟩ (.slice A7 (n + 1) c7)) W0.heap.size (.slice A7 (n + 1) c7) (n + 1) (((pre ++ [x]).map fun x : Nat => (x : Int)).filter (pkB P k)) := by
          rw [pk_yes HPk.out]
          refine OwnI.same (w := w7) ?_ fun j hj => Below.heap_setCell w7 _ _ j (hgOb j hj)
          show World.ownsRow _ _ _ _ _ _ _
          rw [List.map_append]
          exact o7
        have mv8 : OnlyB W0 (w7.setCell ⟨gO, k, none⟩ (.slice A7 (n + 1) c7)) gO := (mv5.more b7).set _
        have hkp8 : KeepsFrom W0.heap.size W (w7.setCell ⟨gO, k, none⟩ (.slice A7 (n + 1) c7)) := (hkp5.trans ((KeepsOthers.of_grownBy g7 (fun j o e ho => by
          obtain ⟨cs', hb', _⟩ := own_type ho5 e
          rw [show W6.heap[j]? = some (.cells cs' 3 (0, 0)) from hb'] at ho
          injection ho with ho
          subst ho
          rfl)).from _)).trans ((KeepsOthers.setCell _ _ _).from _)
        have low8 : Below w.heap.size W (w7.setCell ⟨gO, k, none⟩ (.slice A7 (n + 1) c7)) := (((b15.mono lowW.size).trans (b7.mono (Nat.le_trans low.size (Nat.le_refl _)))).setCell (p := ⟨gO, k, none⟩) gOb _)
        exact HN.out _ _ hkp8 low8 ⟨⟨A7, n + 1, c7, bO8, o8, by simp; omega⟩, mv8⟩
end Go.Proofs.YtfnhaoindehjdaaDoor
