/- The walk of StaffingFixes. (genfixes.py) -/
import Derived.Test.YtfnhaoindehjdaaDoorMade
import Derived.Test.YtfnhaoindehjdaaDoorArg2
import Derived.Test.YtfnhaoindehjdaaDoorSd
import Derived.Test.YtfnhaoindehjdaaDoorAwS
import Derived.Test.YtfnhaoindehjdaaDoorSc
import Derived.Test.YtfnhaoindehjdaaDoorSe
import Derived.Test.YtfnhaoindehjdaaDoorSf
import Derived.Test.YtfnhaoindehjdaaDoorPf
import Derived.Test.YtfnhaoindehjdaaDoorPk
import Derived.Test.YtfnhaoindehjdaaDoorPl
import Derived.Deep.CutBlock
import Derived.Deep.RegionLaw
namespace Go.Proofs.YtfnhaoindehjdaaDoor.staffingFixes
open Go.RowKit
set_option linter.unusedVariables false
set_option linter.unusedSimpArgs false

/-- What the law holds. -/
structure FxS (w W : World) (g B : Nat) (q : PrV) (P : Pr) (Ap : Option Addr) (np cp : Nat) (Ac : Option Addr) (nc cc : Nat) : Prop where
  blk : Blk W g 32 #[q.s1.v, q.s2.v, q.s3.v, q.s4.v, q.s5.v]
  pr : PrAt W W.heap.size q P
  bel : Below w.heap.size w W
  op : OwnLL W B (.slice Ap np cp) np ((List.range P.elig.length).map (possK P))
  oc : OwnI W B (.slice Ac nc cc) nc (critL P)
theorem FxS.on {w W W' : World} {g B : Nat} {q : PrV} {P : Pr} {Ap Ac : Option Addr} {np cp nc cc : Nat} (h : FxS w W g B q P Ap np cp Ac nc cc) (hb : Below W.heap.size W W') : FxS w W' g B q P Ap np cp Ac nc cc :=
  ⟨h.blk.on hb, h.pr.on hb, h.bel.trans (hb.mono h.bel.size), h.op.on hb, h.oc.on hb⟩
theorem solve_e0 {P : Pr} (hc : chkP P = 0) : (solveR P 0).2.2 = 0 := by
  rcases solveR_zero hc with ⟨l, ls, _, h⟩ | ⟨_, nds, sts, h, _⟩ <;> rw [h]
theorem count_few {P : Pr} (hc : chkP P = 0) (sm : SmP P) : countR P 10000 = (((solsL P).length : Int), 0) := by
  have ok := chkP_ok hc
  have h1 := solsF_len ok sm.2 P.fix.length P.fix (openN_le _)
  have h5 : P.fix.length ≤ 5 := by rw [ok.fixl]; exact sm.1
  have h2 : (solsL P).length ≤ 7776 := Nat.le_trans h1 (Nat.le_trans (Nat.pow_le_pow_right (by omega) h5) (by decide))
  unfold countR
  rw [if_neg (by simpa using hc), if_neg (by omega), if_neg (by omega)]
theorem solv_pos {P : Pr} (hc : chkP P = 0) : decide (0 < (solsL P).length) = solvB P := by
  unfold solvB
  rw [decide_eq_true hc, Bool.true_and]
  cases solsL P <;> rfl
theorem pr_setFix {W : World} {A1 A2 A3 A4 A5 A6 : Option Addr} {n1 c1 n2 c2 n3 c3 n4 c4 n5 c5 c6 B k : Nat} {P : Pr} {u : Int} (h : PrAt W W.heap.size ⟨⟨A1, n1, c1⟩, ⟨A2, n2, c2⟩, ⟨A3, n3, c3⟩, ⟨A4, n4, c4⟩, ⟨A5, n5, c5⟩⟩ P)
    (o : OwnI W B (.slice A6 n5 c6) n5 (P.fix.set k u)) : PrAt W W.heap.size ⟨⟨A1, n1, c1⟩, ⟨A2, n2, c2⟩, ⟨A3, n3, c3⟩, ⟨A4, n4, c4⟩, ⟨A6, n5, c6⟩⟩ (setFix P k u) :=
  ⟨h.l1, h.l2, h.l3, h.l4, by show (P.fix.set k u).length = n5; rw [List.length_set]; exact h.l5, h.e1, h.e2, h.e3, h.e4, o.sees, h.b1, h.b2, h.b3, h.b4, h.b5, o.room⟩
/-- The sets of the first j steps, without a user. -/
structure QW (W : World) (P : Pr) (x gq j : Nat) (cs : List Value) : Prop where
  row : ∃ A c vs, Blk W gq 32 (Value.slice A j c :: cs).toArray ∧ W.ownsRow gq 63 1 (.slice A j c) j vs ∧ vs.length = j ∧ ∀ i M, i < j → P.elig[i]? = some M → ∃ X, vs[i]? = some X ∧ SetAt W W.heap.size (.agg #[X]) (clrU M x)
theorem pr_without {W : World} {A1 A2 A3 A4 A5 A6 : Option Addr} {n1 c1 n2 c2 n3 c3 n4 c4 n5 c5 c6 x gq : Nat} {P : Pr} {vs : List Value} (h : PrAt W W.heap.size ⟨⟨A1, n1, c1⟩, ⟨A2, n2, c2⟩, ⟨A3, n3, c3⟩, ⟨A4, n4, c4⟩, ⟨A5, n5, c5⟩⟩ P)
    (o1 : W.ownsRow gq 63 1 (.slice A6 n1 c6) n1 vs) (o2 : vs.length = n1) (o3 : ∀ i M, i < n1 → P.elig[i]? = some M → ∃ X, vs[i]? = some X ∧ SetAt W W.heap.size (.agg #[X]) (clrU M x)) :
    PrAt W W.heap.size ⟨⟨A6, n1, c6⟩, ⟨A2, n2, c2⟩, ⟨A3, n3, c3⟩, ⟨A4, n4, c4⟩, ⟨A5, n5, c5⟩⟩ (without P x) := by
  have q1 := Sees.own o1 (by omega)
  have hl1 : P.elig.length = n1 := h.l1
  refine ⟨by show (P.elig.map _).length = n1; rw [List.length_map]; exact hl1, h.l2, h.l3, h.l4, h.l5, fun i M hi => ?_, h.e2, h.e3, h.e4, h.e5, h.b1, h.b2, h.b3, h.b4, h.b5, h.c5⟩
  have hi : (P.elig.map (clrU · x))[i]? = some M := hi
  rw [List.getElem?_map] at hi
  obtain ⟨M0, hM0, rfl⟩ := Option.map_eq_some_iff.1 hi
  obtain ⟨X, a, b⟩ := o3 i M0 (by rw [← hl1]; exact (List.getElem?_eq_some_iff.1 hM0).1) hM0
  obtain ⟨b9, o9, e9, hb, hc⟩ := q1 (by intro e; rw [e] at a; simp at a)
  exact ⟨b9, o9, X, e9, hb, hc i X a, b⟩
theorem crit_len {P : Pr} (hf : Few128 P) : (critL P).length ≤ 7 := by
  unfold critL
  split
  · refine Nat.le_trans (List.length_filter_le _ _) ?_
    unfold memZ
    rw [List.length_map, memM_memT (unionA_lt (n := 7) hf)]
    exact memT_len _ _
  · simp
theorem setAt_agg {W : World} {B : Nat} {v : Value} {M : Nat} (s : SetAt W B v M) : ∃ A n c, v = .agg #[.slice A n c] ∧ SetAt W B (.agg #[.slice A n c]) M := by
  obtain ⟨A, n, c, e, h1, h2, h3, h4, h5⟩ := s
  exact ⟨A, n, c, e, ⟨A, n, c, rfl, h1, h2, h3, h4, h5⟩⟩
set_option maxHeartbeats 32000000 in
set_option maxRecDepth 100000 in
theorem walk (r : RwV) (R : Rw) (t1 t2 : Int) (w : World) (h : RwAt w w.heap.size r R) (ht : TwoB t1 t2) (hT : Tab w) :
    Calls Tryd.prog 7 #[r.v R, .agg #[.int .u8 t1, .int .u8 t2]] w fun e w' => e = .returned (.bool true) ∧ Below w.heap.size w w' := by
  have hg0 : 0 < w.heap.size := World.block_lt_of_cell? w _ (hT 0 (by omega))
  have mk := fun W (hw : Below w.heap.size w W) => made_any r R W (h.on hw)
  have mf := mkP_few R
  have hc := chkP_mkP R
  have sm := mkP_sm R
  have h4 := mkP_four R
  have hsl := mkP_sols R
  obtain ⟨P, hP⟩ : ∃ P, Hid (P = mkP R) := ⟨_, Lib.hid rfl⟩
  rw [← hP.out] at mf mk hc sm h4 hsl
  obtain ⟨t10, t11, t20, t21⟩ := ht
  have hpo := fun q W (hW : Below w.heap.size w W) (h1 : PrAt W W.heap.size q P) => possible_any q P W h1 (hT.below hW hg0) (fun _ => sm)
  have hcr := fun q W (hW : Below w.heap.size w W) (h1 : PrAt W W.heap.size q P) => critical_any q P W h1 (hT.below hW hg0) (fun _ => sm)
  have hsv := fun q P' (hs : SmP P') W (hW : Below w.heap.size w W) (h1 : PrAt W W.heap.size q P') => solve_any q P' 0 W h1 (hT.below hW hg0) (fun _ => hs)
  have hcn := fun q W (hW : Below w.heap.size w W) (h1 : PrAt W W.heap.size q P) => count_any q P 10000 W h1 (hT.below hW hg0) (fun _ => sm)
  rw [count_few hc sm] at hcn
  rw [show possR P = (List.range P.elig.length).map (possK P) from if_pos hc] at hpo
  obtain ⟨⟨A1, n1, c1⟩, ⟨A2, n2, c2⟩, ⟨A3, n3, c3⟩, ⟨A4, n4, c4⟩, ⟨A5, n5, c5⟩⟩ := r
  obtain ⟨st, hst⟩ : ∃ st, Hid (st = R.steps) := ⟨_, Lib.hid rfl⟩
  unfold RwV.v Sl.v at mk ⊢
  simp only [] at mk ⊢
  rw [← hst.out] at mk ⊢
  have SM := Lib.hid sm
  have HC := Lib.hid hc
  have H4 := Lib.hid h4
  have HSL := Lib.hid hsl
  have MF := Lib.hid mf
  clear h mf sm hc h4 hsl
  go_enter Tryd.func7, Tryd.ntmps7
  go_wp2_with fail
  have r1 : Blk ((w.alloc (.cells #[.int .u8 (st : Int), .slice A1 n1 c1, .slice A2 n2 c2, .slice A3 n3 c3, .slice A4 n4 c4, .slice A5 n5 c5] 25)).alloc (.cells #[.int .u8 t1, .int .u8 t2] 60)) w.heap.size 25 #[.int .u8 (st : Int), .slice A1 n1 c1, .slice A2 n2 c2, .slice A3 n3 c3, .slice A4 n4 c4, .slice A5 n5 c5] := (Blk.new w 25 #[.int .u8 (st : Int), .slice A1 n1 c1, .slice A2 n2 c2, .slice A3 n3 c3, .slice A4 n4 c4, .slice A5 n5 c5]).alloc _
  have ra : Blk ((w.alloc (.cells #[.int .u8 (st : Int), .slice A1 n1 c1, .slice A2 n2 c2, .slice A3 n3 c3, .slice A4 n4 c4, .slice A5 n5 c5] 25)).alloc (.cells #[.int .u8 t1, .int .u8 t2] 60)) (w.heap.size + 1) 60 #[.int .u8 t1, .int .u8 t2] := Blk.mk' (by simp)
  have b1 : Below w.heap.size w ((w.alloc (.cells #[.int .u8 (st : Int), .slice A1 n1 c1, .slice A2 n2 c2, .slice A3 n3 c3, .slice A4 n4 c4, .slice A5 n5 c5] 25)).alloc (.cells #[.int .u8 t1, .int .u8 t2] 60)) := bAl (bAl (Below.refl w.heap.size w) _) _
  generalize ((w.alloc (.cells #[.int .u8 (st : Int), .slice A1 n1 c1, .slice A2 n2 c2, .slice A3 n3 c3, .slice A4 n4 c4, .slice A5 n5 c5] 25)).alloc (.cells #[.int .u8 t1, .int .u8 t2] 60)) = W0 at r1 ra b1 ⊢
  refine (awake_any W0 (hT.below b1 hg0)).mono ?_
  rintro e W1 ⟨rfl, ba⟩
  have r2 := r1.on ba
  have b2 := b1.trans (ba.mono b1.size)
  have ra := ra.on ba
  clear r1 b1 ba
  have x0 : W1.cell? ⟨w.heap.size, 0, none⟩ = some (.int .u8 (st : Int)) := (r2.cell 0).trans rfl
  have x1 : W1.cell? ⟨w.heap.size, 1, none⟩ = some (.slice A1 n1 c1) := (r2.cell 1).trans rfl
  have x2 : W1.cell? ⟨w.heap.size, 2, none⟩ = some (.slice A2 n2 c2) := (r2.cell 2).trans rfl
  have x3 : W1.cell? ⟨w.heap.size, 3, none⟩ = some (.slice A3 n3 c3) := (r2.cell 3).trans rfl
  have x4 : W1.cell? ⟨w.heap.size, 4, none⟩ = some (.slice A4 n4 c4) := (r2.cell 4).trans rfl
  have x5 : W1.cell? ⟨w.heap.size, 5, none⟩ = some (.slice A5 n5 c5) := (r2.cell 5).trans rfl
  go_wp2_with fail
  refine (mk W1 b2).mono ?_
  rintro e W2 ⟨⟨⟨E1, i1, j1⟩, ⟨E2, i2, j2⟩, ⟨E3, i3, j3⟩, ⟨E4, i4, j4⟩, ⟨E5, i5, j5⟩⟩, ⟨⟨B1, m1, d1⟩, ⟨B2, m2, d2⟩, ⟨B3, m3, d3⟩, ⟨B4, m4, d4⟩, ⟨B5, m5, d5⟩⟩, AL, nL, cL, rfl, ⟨xs, ms, hq⟩, hpl, oL, hn6, bw2⟩
  have b3 := b2.trans (bw2.mono b2.size)
  have ra := ra.on bw2
  simp only [PrV.v, Sl.v]
  clear x0 x1 x2 x3 x4 x5 r2 b2 mk
  have HPL := Lib.hid hpl
  clear hpl
  go_upto_region 4 with (fail)
  have k4 : Blk ((W2.alloc (.cells #[.slice E1 i1 j1, .slice E2 i2 j2, .slice E3 i3 j3, .slice E4 i4 j4, .slice E5 i5 j5] 32)).alloc (.cells #[.slice B1 m1 d1, .slice B2 m2 d2, .slice B3 m3 d3, .slice B4 m4 d4, .slice B5 m5 d5] 36)) W2.heap.size 32 #[.slice E1 i1 j1, .slice E2 i2 j2, .slice E3 i3 j3, .slice E4 i4 j4, .slice E5 i5 j5] := Blk.alloc (Blk.mk' rfl) _
  have bk : Below W2.heap.size W2 ((W2.alloc (.cells #[.slice E1 i1 j1, .slice E2 i2 j2, .slice E3 i3 j3, .slice E4 i4 j4, .slice E5 i5 j5] 32)).alloc (.cells #[.slice B1 m1 d1, .slice B2 m2 d2, .slice B3 m3 d3, .slice B4 m4 d4, .slice B5 m5 d5] 36)) := bAl (bAl (Below.refl _ _) _) _
  generalize ((W2.alloc (.cells #[.slice E1 i1 j1, .slice E2 i2 j2, .slice E3 i3 j3, .slice E4 i4 j4, .slice E5 i5 j5] 32)).alloc (.cells #[.slice B1 m1 d1, .slice B2 m2 d2, .slice B3 m3 d3, .slice B4 m4 d4, .slice B5 m5 d5] 36)) = W4 at k4 bk ⊢
  have b4 := b3.trans (bk.mono b3.size)
  have oq4 := hq.on bk
  have ra := ra.on bk
  have hQ4 := oq4.at
  have oL4 := oL.on bk
  have HLN := Lib.hid oL.len
  clear hq oL b3 bk bw2
  have hpo := hpo ⟨⟨E1, i1, j1⟩, ⟨E2, i2, j2⟩, ⟨E3, i3, j3⟩, ⟨E4, i4, j4⟩, ⟨E5, i5, j5⟩⟩
  have hcr := hcr ⟨⟨E1, i1, j1⟩, ⟨E2, i2, j2⟩, ⟨E3, i3, j3⟩, ⟨E4, i4, j4⟩, ⟨E5, i5, j5⟩⟩
  have hcn := hcn ⟨⟨E1, i1, j1⟩, ⟨E2, i2, j2⟩, ⟨E3, i3, j3⟩, ⟨E4, i4, j4⟩, ⟨E5, i5, j5⟩⟩
  unfold PrV.v Sl.v at hpo hcr hcn
  simp only [] at hpo hcr hcn
  have hl1 : P.elig.length = i1 := hQ4.l1
  have hl5 : P.fix.length = i5 := hQ4.l5
  have hl15 : i5 = i1 := by rw [← hl1, ← hl5]; exact MF.out.f1
  have hi5 : i1 ≤ 5 := by rw [← hl1]; exact SM.out.1
  have hi1 : 1 ≤ i1 := by rw [← hl1]; exact MF.out.e0
  have bd : Below W4.heap.size W4 W4.drew := (Below.refl _ _).drew
  obtain ⟨SS, hSS⟩ : ∃ S : World → Prop, S = (fun W => W.cell? ⟨W2.heap.size, 0, none⟩ = some (.slice E1 i1 j1) ∧ W.cell? ⟨W2.heap.size, 1, none⟩ = some (.slice E2 i2 j2) ∧ W.cell? ⟨W2.heap.size, 2, none⟩ = some (.slice E3 i3 j3) ∧ W.cell? ⟨W2.heap.size, 3, none⟩ = some (.slice E4 i4 j4) ∧ W.cell? ⟨W2.heap.size, 4, none⟩ = some (.slice E5 i5 j5)) := ⟨_, rfl⟩
  have sB : ∀ W, Blk W W2.heap.size 32 #[.slice E1 i1 j1, .slice E2 i2 j2, .slice E3 i3 j3, .slice E4 i4 j4, .slice E5 i5 j5] → SS W := fun W k => by rw [hSS]; exact ⟨(k.cell 0).trans rfl, (k.cell 1).trans rfl, (k.cell 2).trans rfl, (k.cell 3).trans rfl, (k.cell 4).trans rfl⟩
  have HL15 := Lib.hid hl15
  have HL1 := Lib.hid hl1
  have HL5 := Lib.hid hl5
  clear hl15 hl1 hl5 oL4
  refine wp_region_F (fun _ => false) SS (by kernel_rfl) (sB _ (k4.on bd)) (fun hHeld => ?_)
  have k5 := k4.on bd
  have b5 := b4.trans (bd.mono b4.size)
  have hQ5 := hQ4.on bd
  have ra5 := ra.on bd
  generalize W4.drew = W5 at hHeld k5 b5 hQ5 ra5 ⊢
  clear bd k4 b4 hQ4 ra oq4
  refine wpAnyF_take (i := 0) (v := ?_) rfl (by kernel_rfl) (by kernel_rfl) (by kernel_rfl) (by kernel_rfl) (fun _ _ _ h => h) hHeld (Or.inl ⟨by rfl, ?_⟩) ?_
  rotate_left
  · (intro w hSw; (try rw [hSS] at hSw); (try dsimp only at hSw); go_simp; try with_reducible rfl)
  try simp only [Act.put, List.getElem_toArray, List.getElem_cons_zero, List.getElem_cons_succ, List.setIfInBounds_toArray, List.set_cons_zero, List.set_cons_succ]
  refine wpAnyF_take (i := 2) (v := ?_) rfl (by kernel_rfl) (by kernel_rfl) (by kernel_rfl) (by kernel_rfl) (fun _ _ _ h => h) hHeld (Or.inl ⟨by rfl, ?_⟩) ?_
  rotate_left
  · (intro w hSw; (try rw [hSS] at hSw); (try dsimp only at hSw); go_simp; try with_reducible rfl)
  try simp only [Act.put, List.getElem_toArray, List.getElem_cons_zero, List.getElem_cons_succ, List.setIfInBounds_toArray, List.set_cons_zero, List.set_cons_succ]
  refine wpAnyF_one (i := 1) (by kernel_rfl) rfl (fun K hK => ?_)
  go_simp
  go_at_call 19
  refine (hpo W5 b5 hQ5).mono ?_
  rintro e W6 ⟨Ap, np, cp, rfl, op, b6⟩
  simp only []
  refine hK.out _ _ (Or.inr (sB _ (k5.on b6))) ?_
  clear hK K
  try simp only [Act.put, List.getElem_toArray, List.getElem_cons_zero, List.getElem_cons_succ, List.setIfInBounds_toArray, List.set_cons_zero, List.set_cons_succ]
  refine wpAnyF_one (i := 3) (by kernel_rfl) rfl (fun K hK => ?_)
  have k6 := k5.on b6
  have b06 := b5.trans (b6.mono b5.size)
  have hQ6 := hQ5.on b6
  go_simp
  go_at_call 23
  refine (hcr W6 b06 hQ6).mono ?_
  rintro e W7 ⟨Ac, nc, cc, rfl, oc, b7⟩
  simp only []
  refine hK.out _ _ (Or.inr (sB _ (k6.on b7))) ?_
  clear hK K
  try simp only [Act.put, List.getElem_toArray, List.getElem_cons_zero, List.getElem_cons_succ, List.setIfInBounds_toArray, List.set_cons_zero, List.set_cons_succ]
  refine wpAnyF_one (i := 4) (by kernel_rfl) rfl (fun K hK => ?_)
  go_simp
  refine hK.out _ _ (Or.inr (sB _ (k6.on b7))) ?_
  clear hK K
  try simp only [Act.put, List.getElem_toArray, List.getElem_cons_zero, List.getElem_cons_succ, List.setIfInBounds_toArray, List.set_cons_zero, List.set_cons_succ]
  refine wpAnyF_one (i := 5) (by kernel_rfl) rfl (fun K hK => ?_)
  go_simp
  refine hK.out _ _ (Or.inr (sB _ (k6.on b7))) ?_
  clear hK K
  try simp only [Act.put, List.getElem_toArray, List.getElem_cons_zero, List.getElem_cons_succ, List.setIfInBounds_toArray, List.set_cons_zero, List.set_cons_succ]
  refine wpAnyF_done (by kernel_rfl) ?_ _
  have hx7 : FxS w W7 W2.heap.size W5.heap.size ⟨⟨E1, i1, j1⟩, ⟨E2, i2, j2⟩, ⟨E3, i3, j3⟩, ⟨E4, i4, j4⟩, ⟨E5, i5, j5⟩⟩ P Ap np cp Ac nc cc := ⟨k6.on b7, hQ6.on b7, b06.trans (b7.mono b06.size), op.on b7, OwnI.more oc b6.size⟩
  have ra7 := (ra5.on b6).on b7
  clear hHeld hpo hcr k5 b5 hQ5 ra5 op b6 k6 b06 hQ6 oc b7 sB hSS SS
  obtain ⟨k, hk⟩ : ∃ k : Nat, Hid (k = t1.toNat % i1) := ⟨_, Lib.hid rfl⟩
  have hki : k < i1 := by rw [hk.out]; exact Nat.mod_lt _ (by omega)
  have htm : t1.tmod (i1 : Int) = (k : Int) := by rw [Int.tmod_eq_emod_of_nonneg t10, hk.out, Int.natCast_emod, Int.toNat_of_nonneg t10]
  obtain ⟨u0, hu0⟩ : ∃ u : Nat, Hid (u = t2.toNat % 4) := ⟨_, Lib.hid rfl⟩
  have hu04 : u0 < 4 := by have := hu0.out; omega
  have htu : t2.tmod 4 = (u0 : Int) := by rw [Int.tmod_eq_emod_of_nonneg t20]; have := hu0.out; omega
  have hw1 : IntKind.i64.wrap t1 = t1 := IntWalk.i64_in _ (by omega)
  have hw2 : IntKind.i64.wrap t2 = t2 := IntWalk.i64_in _ (by omega)
  have hn0 : ¬ ((i1 : Int) = 0) := by omega
  have hnb : ((i1 : Int) == 0) = false := beq_false_of_ne hn0
  have y0 : W7.cell? ⟨W2.heap.size, 0, none⟩ = some (.slice E1 i1 j1) := (hx7.blk.cell 0).trans rfl
  have ya0 : W7.cell? ⟨w.heap.size + 1, 0, none⟩ = some (.int .u8 t1) := (ra7.cell 0).trans rfl
  have ya1 : W7.cell? ⟨w.heap.size + 1, 1, none⟩ = some (.int .u8 t2) := (ra7.cell 1).trans rfl
  go_wp2_with fail
  go_quiet (fail)
  have bq : Below W7.heap.size W7 (W7.drewN nq) := below_drewN (Below.refl _ _) nq
  generalize W7.drewN nq = W8 at bq ⊢
  have hx8 := hx7.on bq
  have hnp : i1 = np := by rw [← hx8.op.len, List.length_map, List.length_range]; exact HL1.out.symm
  clear hx7 ra7 y0 ya0 ya1 bq hw1 hw2 hn0 hnb
  obtain ⟨u, hu⟩ : ∃ u : Nat, Hid (u = 1 + u0) := ⟨_, Lib.hid rfl⟩
  have hu1 : 1 ≤ u := by rw [hu.out]; omega
  have hu4 : u ≤ 4 := by rw [hu.out]; omega
  have hu1' : (1 : Int) + (u0 : Int) = (u : Int) := by rw [hu.out]; omega
  try rw [hu1']
  have HNP := Lib.hid hnp
  clear hnp hu hu0 htu hu1' hu04
  have x0 : W8.cell? ⟨W2.heap.size, 0, none⟩ = some (.slice E1 i1 j1) := (hx8.blk.cell 0).trans rfl
  have x1 : W8.cell? ⟨W2.heap.size, 1, none⟩ = some (.slice E2 i2 j2) := (hx8.blk.cell 1).trans rfl
  have x2 : W8.cell? ⟨W2.heap.size, 2, none⟩ = some (.slice E3 i3 j3) := (hx8.blk.cell 2).trans rfl
  have x3 : W8.cell? ⟨W2.heap.size, 3, none⟩ = some (.slice E4 i4 j4) := (hx8.blk.cell 3).trans rfl
  have x4 : W8.cell? ⟨W2.heap.size, 4, none⟩ = some (.slice E5 i5 j5) := (hx8.blk.cell 4).trans rfl
  obtain ⟨v, hv⟩ : ∃ v, Hid (v = solvB P) := ⟨_, Lib.hid rfl⟩
  have hs8 := hsv ⟨⟨E1, i1, j1⟩, ⟨E2, i2, j2⟩, ⟨E3, i3, j3⟩, ⟨E4, i4, j4⟩, ⟨E5, i5, j5⟩⟩ P SM.out W8 hx8.bel hx8.pr
  unfold SolvePost at hs8
  rw [solve_e0 HC.out, solveR_some HC.out, ← hv.out] at hs8
  unfold PrV.v Sl.v at hs8
  simp only [] at hs8
  obtain rfl : i1 = np := HNP.out
  go_wp2_with fail
  refine hs8.mono ?_
  rintro e W9 ⟨Al, nl, cl, An, nn, cn, rfl, _, _, b9⟩
  go_upto_region 9 with (fail)
  have bA := bAl b9 (.cells #[.slice An nn cn] 46)
  generalize (W9.alloc (.cells #[.slice An nn cn] 46)) = W10 at bA ⊢
  have hx10 := hx8.on bA
  clear hs8 b9 bA hx8 x0 x1 x2 x3 x4
  have x0 : W10.cell? ⟨W2.heap.size, 0, none⟩ = some (.slice E1 i1 j1) := (hx10.blk.cell 0).trans rfl
  have x1 : W10.cell? ⟨W2.heap.size, 1, none⟩ = some (.slice E2 i2 j2) := (hx10.blk.cell 1).trans rfl
  have x2 : W10.cell? ⟨W2.heap.size, 2, none⟩ = some (.slice E3 i3 j3) := (hx10.blk.cell 2).trans rfl
  have x3 : W10.cell? ⟨W2.heap.size, 3, none⟩ = some (.slice E4 i4 j4) := (hx10.blk.cell 3).trans rfl
  have x4 : W10.cell? ⟨W2.heap.size, 4, none⟩ = some (.slice E5 i5 j5) := (hx10.blk.cell 4).trans rfl
  have hc10 := hcn W10 hx10.bel hx10.pr
  have hpos : decide (0 < (solsL P).length) = v := by rw [hv.out]; exact solv_pos HC.out
  obtain ⟨ns, hns⟩ : ∃ ns, Hid (ns = (solsL P).length) := ⟨_, Lib.hid rfl⟩
  rw [← hns.out] at hc10 hpos
  have hposi : decide (0 < (ns : Int)) = v := by rw [← hpos]; exact decide_eq_decide.2 (by omega)
  go_wp2_with fail
  refine hc10.mono ?_
  rintro e W11 ⟨rfl, b11⟩
  have hx11 := hx10.on b11
  clear hc10 hx10 b11 x0 x1 x2 x3 x4
  have x0 : W11.cell? ⟨W2.heap.size, 0, none⟩ = some (.slice E1 i1 j1) := (hx11.blk.cell 0).trans rfl
  have x1 : W11.cell? ⟨W2.heap.size, 1, none⟩ = some (.slice E2 i2 j2) := (hx11.blk.cell 1).trans rfl
  have x2 : W11.cell? ⟨W2.heap.size, 2, none⟩ = some (.slice E3 i3 j3) := (hx11.blk.cell 2).trans rfl
  have x3 : W11.cell? ⟨W2.heap.size, 3, none⟩ = some (.slice E4 i4 j4) := (hx11.blk.cell 3).trans rfl
  have x4 : W11.cell? ⟨W2.heap.size, 4, none⟩ = some (.slice E5 i5 j5) := (hx11.blk.cell 4).trans rfl
  have hvv : (v == v) = true := by simp
  go_upto_region 13 with (fail)
  have kq := Blk.new W11 32 #[.slice E1 i1 j1, .slice E2 i2 j2, .slice E3 i3 j3, .slice E4 i4 j4, .slice E5 i5 j5]
  have bA := bAl (Below.refl W11.heap.size W11) (.cells #[.slice E1 i1 j1, .slice E2 i2 j2, .slice E3 i3 j3, .slice E4 i4 j4, .slice E5 i5 j5] 32)
  generalize (W11.alloc (.cells #[.slice E1 i1 j1, .slice E2 i2 j2, .slice E3 i3 j3, .slice E4 i4 j4, .slice E5 i5 j5] 32)) = W12 at kq bA ⊢
  have x4 : W12.cell? ⟨W2.heap.size, 4, none⟩ = some (.slice E5 i5 j5) := ((hx11.on bA).blk.cell 4).trans rfl
  have hcl := cloneI_any E5 i5 j5 P.fix W12 (hx11.on bA).pr.e5 (hx11.on bA).pr.l5 (by have := HL15.out; omega)
  go_wp2_with fail
  refine hcl.mono ?_
  rintro e W13 ⟨A6, c6, rfl, o6, b13⟩
  have kq13 := kq.on b13
  have y4 : W13.cell? ⟨W11.heap.size, 4, none⟩ = some (.slice E5 i5 j5) := (kq13.cell 4).trans rfl
  have fy4 := kq13.frozen 4
  go_upto_region 14 with (fail)
  have hx13 := hx11.on bA |>.on b13
  have hz12 := bA.size
  have b13' : Below W11.heap.size W11 (W13.setCell ⟨W11.heap.size, 4, none⟩ (.slice A6 i5 c6)) := (bA.trans (b13.mono hz12)).setCell (p := ⟨W11.heap.size, 4, none⟩) (Nat.le_refl _) _
  have kq14 : Blk (W13.setCell ⟨W11.heap.size, 4, none⟩ (.slice A6 i5 c6)) W11.heap.size 32 #[.slice E1 i1 j1, .slice E2 i2 j2, .slice E3 i3 j3, .slice E4 i4 j4, .slice A6 i5 c6] := by simpa using kq13.put 4 (.slice A6 i5 c6)
  have o14 : OwnI (W13.setCell ⟨W11.heap.size, 4, none⟩ (.slice A6 i5 c6)) W12.heap.size (.slice A6 i5 c6) i5 P.fix := ownsRow_setCell_other o6 (a := ⟨W11.heap.size, 4, none⟩) (own_off o6 kq13 (by decide)) _
  clear kq bA x4 hcl kq13 y4 fy4 hx13 o6 b13
  generalize (W13.setCell ⟨W11.heap.size, 4, none⟩ (.slice A6 i5 c6)) = W14 at b13' kq14 o14 ⊢
  have HX11 := Lib.hid hx11
  clear hx11
  have y4 : W14.cell? ⟨W11.heap.size, 4, none⟩ = some (.slice A6 i5 c6) := (kq14.cell 4).trans rfl
  have hk5 : k < i5 := by have := HL15.out; omega
  have hk5' : (k : Int) < (i5 : Int) := by omega
  obtain ⟨b6, o6, z, rfl, hb6, Hz, hcz⟩ := Sees.int (k := k) (OwnI.sees o14) (by rw [HL5.out]; exact hk5)
  go_upto_if 90 with (fail)
  go_cut [] from 85 to 125 (fun wx => FxS w wx W2.heap.size W5.heap.size ⟨⟨E1, i1, j1⟩, ⟨E2, i2, j2⟩, ⟨E3, i3, j3⟩, ⟨E4, i4, j4⟩, ⟨E5, i5, j5⟩⟩ P Ap i1 cp Ac nc cc)
  case first =>
    by_cases hz : z = 0
    · subst hz
      have hat : atI P.fix k = 0 := by unfold atI; rw [Hz.out]; rfl
      have hu256 : (1 : Int) ≤ (u : Int) ∧ (u : Int) ≤ 256 := by omega
      have hkP : k < P.elig.length := by rw [HL1.out]; exact hki
      have hfp := fix_poss HC.out hkP hu256 hat
      have hfa := Lib.hid (fun l h => fix_at (l := l) HC.out hkP hu256 hat h)
      have hcf := chk_setFix (P := P) (k := k) (u := (u : Int)) HC.out ⟨by omega, hu256.2⟩
      obtain ⟨g6, cs6, e6, hg6, hbk6⟩ := own_blk o14 (by omega)
      injection e6 with e6
      injection e6 with e6 e7
      subst e6 e7
      simp only [Nat.zero_add] at hcz ⊢
      have fz6 := hbk6.frozen k
      have hne : b6 ≠ W11.heap.size := fun e => by subst e; exact absurd rfl (kq14.apart hbk6 (by decide))
      have o15 : OwnI (W14.setCell ⟨b6, k, none⟩ (.int .i64 (u : Int))) W12.heap.size (.slice (some ⟨b6, 0, none⟩) i5 c6) i5 (P.fix.set k (u : Int)) := OwnI.set o14 hk5 _
      have kq15 : Blk (W14.setCell ⟨b6, k, none⟩ (.int .i64 (u : Int))) W11.heap.size 32 #[.slice E1 i1 j1, .slice E2 i2 j2, .slice E3 i3 j3, .slice E4 i4 j4, .slice (some ⟨b6, 0, none⟩) i5 c6] := kq14.far (p := ⟨b6, k, none⟩) (Ne.symm hne) _
      have b15 : Below W11.heap.size W11 (W14.setCell ⟨b6, k, none⟩ (.int .i64 (u : Int))) := b13'.setCell (p := ⟨b6, k, none⟩) (Nat.le_trans hz12 hg6) _
      go_upto_region 16 with (fail)
      clear kq14 o14 b13' y4 hcz hbk6 fz6
      generalize (W14.setCell ⟨b6, k, none⟩ (.int .i64 (u : Int))) = W15 at o15 kq15 b15 ⊢
      have hx15 := HX11.out.on b15
      have hp15 := pr_setFix hx15.pr o15
      have hs15 := hsv _ _ (sm_setFix SM.out k u) W15 hx15.bel hp15
      unfold SolvePost at hs15
      rw [solve_e0 hcf] at hs15
      unfold PrV.v Sl.v at hs15
      simp only [] at hs15
      have y0 : W15.cell? ⟨W11.heap.size, 0, none⟩ = some (.slice E1 i1 j1) := (kq15.cell 0).trans rfl
      have y1 : W15.cell? ⟨W11.heap.size, 1, none⟩ = some (.slice E2 i2 j2) := (kq15.cell 1).trans rfl
      have y2 : W15.cell? ⟨W11.heap.size, 2, none⟩ = some (.slice E3 i3 j3) := (kq15.cell 2).trans rfl
      have y3 : W15.cell? ⟨W11.heap.size, 3, none⟩ = some (.slice E4 i4 j4) := (kq15.cell 3).trans rfl
      have y4 : W15.cell? ⟨W11.heap.size, 4, none⟩ = some (.slice (some ⟨b6, 0, none⟩) i5 c6) := (kq15.cell 4).trans rfl
      rw [← solveR_some hcf] at hfp
      obtain ⟨sr, hsr⟩ : ∃ sr, Hid (sr = (solveR (setFix P k (u : Int)) 0).1) := ⟨_, Lib.hid rfl⟩
      rw [← hsr.out] at hs15 hfp
      go_wp2_with fail
      refine hs15.mono ?_
      rintro e W16 ⟨Am, nm, cm, Ar, nr, cr, rfl, om, _, b16⟩
      go_upto_region 17 with (fail)
      have bA := bAl b16 (.cells #[.slice Ar nr cr] 46)
      have om17 := om.alloc (.cells #[.slice Ar nr cr] 46)
      generalize (W16.alloc (.cells #[.slice Ar nr cr] 46)) = W17 at bA om17 ⊢
      have hx17 := hx15.on bA
      clear hs15 om b16 bA hx15 hp15 y0 y1 y2 y3 y4 kq15 o15
      have hrow : ((List.range P.elig.length).map (possK P))[k]? = some (possK P k) := by rw [List.getElem?_map, List.getElem?_range hkP]; rfl
      obtain ⟨bp, op, A9, n9, c9, rfl, hbp, hcp, oK⟩ := hx17.op.get hrow
      have hn9 := oK.len
      have hn9b : n9 ≤ 1000000 := by
        rw [← hn9]
        refine Nat.le_trans ?_ (show 6 ≤ 1000000 by omega)
        unfold possK
        split
        · exact Nat.le_trans (List.length_filter_le _ _) (SM.out.2 k)
        · simp
      have hct := contI_any A9 n9 c9 (possK P k) (u : Int) W17 oK.sees hn9 hn9b
      rw [hfp] at hct
      have HX17 := Lib.hid hx17
      clear hx17 hrow oK hn9 hn9b
      cases sr with
      | none =>
        simp only [Option.isSome_none] at hct ⊢
        go_wp2_with fail
        refine hct.mono ?_
        rintro e W18 ⟨rfl, rfl⟩
        go_wp2_with fail
        go_meet
        exact HX17.out
      | some l =>
        obtain ⟨hll, hlk⟩ := hfa.out l hsr.out.symm
        simp only [Option.isSome_some, Option.getD_some] at hct om17 ⊢
        have hnm := om17.len
        have hkm : k < nm := by rw [← hnm, hll]; exact hkP
        have hkm' : (k : Int) < (nm : Int) := by omega
        obtain ⟨bl, ol, hAl, hbl, hcl⟩ := om17.sees.at_ (k := k) (by rw [List.length_map, hll]; exact hkP)
        have hle : (l.map iv)[k]'(by rw [List.length_map, hll]; exact hkP) = .int .i64 (u : Int) := by
          have h9 : (l.map iv)[k]? = some (.int .i64 (u : Int)) := by rw [List.getElem?_map, hlk]; rfl
          exact (List.getElem?_eq_some_iff.1 h9).2
        rw [hle] at hcl
        subst hAl
        clear hle hll hlk hnm om17 hfa
        go_wp2_with fail
        refine hct.mono ?_
        rintro e W18 ⟨rfl, rfl⟩
        go_wp2_with fail
        go_meet
        exact HX17.out
    · have hzb : (z == 0) = false := beq_false_of_ne hz
      go_wp2_with fail
      go_meet
      exact HX11.out.on b13'
  case rest =>
    have HX := Lib.hid hcut
    have x0 : wc.cell? ⟨W2.heap.size, 0, none⟩ = some (.slice E1 i1 j1) := (hcut.blk.cell 0).trans rfl
    have x1 : wc.cell? ⟨W2.heap.size, 1, none⟩ = some (.slice E2 i2 j2) := (hcut.blk.cell 1).trans rfl
    have x2 : wc.cell? ⟨W2.heap.size, 2, none⟩ = some (.slice E3 i3 j3) := (hcut.blk.cell 2).trans rfl
    have x3 : wc.cell? ⟨W2.heap.size, 3, none⟩ = some (.slice E4 i4 j4) := (hcut.blk.cell 3).trans rfl
    have x4 : wc.cell? ⟨W2.heap.size, 4, none⟩ = some (.slice E5 i5 j5) := (hcut.blk.cell 4).trans rfl
    clear hcut
    go_upto_region 20 with (fail)
    have kq := Blk.new wc 32 #[.slice E1 i1 j1, .slice E2 i2 j2, .slice E3 i3 j3, .slice E4 i4 j4, .slice E5 i5 j5]
    have bA := bAl (Below.refl wc.heap.size wc) (.cells #[.slice E1 i1 j1, .slice E2 i2 j2, .slice E3 i3 j3, .slice E4 i4 j4, .slice E5 i5 j5] 32)
    generalize (wc.alloc (.cells #[.slice E1 i1 j1, .slice E2 i2 j2, .slice E3 i3 j3, .slice E4 i4 j4, .slice E5 i5 j5] 32)) = V1 at kq bA ⊢
    have z0 : V1.cell? ⟨wc.heap.size, 0, none⟩ = some (.slice E1 i1 j1) := (kq.cell 0).trans rfl
    have fz0 := kq.frozen 0
    clear x0 x1 x2 x3 x4
    go_upto_region 21 with (fail)
    have kq2 : Blk (V1.setCell ⟨wc.heap.size, 0, none⟩ (.slice none 0 0)) wc.heap.size 32 #[.slice none 0 0, .slice E2 i2 j2, .slice E3 i3 j3, .slice E4 i4 j4, .slice E5 i5 j5] := by simpa using kq.put 0 (.slice none 0 0)
    have b2 : Below wc.heap.size wc (V1.setCell ⟨wc.heap.size, 0, none⟩ (.slice none 0 0)) := bA.setCell (p := ⟨wc.heap.size, 0, none⟩) (Nat.le_refl _) _
    generalize (V1.setCell ⟨wc.heap.size, 0, none⟩ (.slice none 0 0)) = V2 at kq2 b2 ⊢
    clear z0 fz0 kq bA
    have y0 : V2.cell? ⟨W2.heap.size, 0, none⟩ = some (.slice E1 i1 j1) := ((HX.out.on b2).blk.cell 0).trans rfl
    have hq0 : QW V2 P u wc.heap.size 0 [.slice E2 i2 j2, .slice E3 i3 j3, .slice E4 i4 j4, .slice E5 i5 j5] := ⟨none, 0, [], kq2, World.ownsRow_nil _ _ _ _, rfl, fun i M h => absurd h (Nat.not_lt_zero _)⟩
    have hbi : (i1 : Int) ≤ 5 := by omega
    have hx4 : u < 4096 := by omega
    go_wp2_with fail
    go_loopw [131] (fun v131 wr => ∃ j : Nat, v131 = .int .i64 (j : Int) ∧ j ≤ i1 ∧ QW wr P u wc.heap.size j [.slice E2 i2 j2, .slice E3 i3 j3, .slice E4 i4 j4, .slice E5 i5 j5] ∧ Below wc.heap.size wc wr) (fun v131 _ => i1 - (intOf v131).toNat)
    case atStart => exact ⟨0, rfl, Nat.zero_le _, hq0, b2⟩
    case round =>
      clear kq2 b2 y0 hq0
      obtain ⟨j, rfl, hj, hQ, hb⟩ := hrel
      by_cases hlt : j < i1
      · have hlt' : (j : Int) < (i1 : Int) := by omega
        obtain ⟨M, hM⟩ : ∃ M, P.elig[j]? = some M := ⟨_, List.getElem?_eq_getElem (by rw [HL1.out]; exact hlt)⟩
        obtain ⟨b, o, X, e1, hb2, hcX0, hS⟩ := HX.out.pr.e1 j M hM
        simp only at e1
        subst e1
        obtain ⟨Av, nv, cv, hXe, hnc, hnv, hlv, hsvv, hrv⟩ := id hS
        obtain rfl : X = .slice Av nv cv := by simpa using hXe
        clear hXe
        have hcX : wr.cell? ⟨b, o + j, none⟩ = some (.slice Av nv cv) := (hb.cell (p := ⟨b, o + j, none⟩) hb2).trans hcX0
        have hSw : SetAt wr wr.heap.size (.agg #[.slice Av nv cv]) M := (hS.below hb).more hb.size
        have HM := Lib.hid hM
        have HS := Lib.hid hSw
        have HQ := Lib.hid hQ
        clear hM hlv hS hsvv hrv hSw hcX0 hQ
        go_upto_region 24 with (fail)
        have bA := bAl (Below.refl wr.heap.size wr) (.cells #[.slice Av nv cv] 63)
        obtain ⟨A, c, vs, kq2, o2, hvl, hst2⟩ := HQ.out.row
        have hgr : wc.heap.size < wr.heap.size := kq2.lt
        have hnb : (Value.slice A j c).ownBlock ≠ some wr.heap.size := fun e => Nat.lt_irrefl _ (World.ownsRow.lt o2 _ e).2
        have hS2 := HS.out.on bA
        have kq2 := kq2.on bA
        have o2 := own_on o2 bA
        have ks2 := Blk.new wr 63 #[.slice Av nv cv]
        have b2 := hb.trans (bA.mono (Nat.le_of_lt hgr))
        have hst2 : ∀ i M, i < j → P.elig[i]? = some M → ∃ X, vs[i]? = some X ∧ SetAt (wr.alloc (.cells #[.slice Av nv cv] 63)) (wr.alloc (.cells #[.slice Av nv cv] 63)).heap.size (.agg #[X]) (clrU M u) := fun i M hi hM => by
          obtain ⟨X, e, s⟩ := hst2 i M hi hM
          exact ⟨X, e, s.on bA⟩
        have bd : Below (wr.alloc (.cells #[.slice Av nv cv] 63)).heap.size (wr.alloc (.cells #[.slice Av nv cv] 63)) (wr.alloc (.cells #[.slice Av nv cv] 63)).drew := (Below.refl _ _).drew
        clear bA HQ HS hcX hb
        obtain ⟨SS, hSS⟩ : ∃ S : World → Prop, S = (fun W => W.cell? ⟨wc.heap.size, 0, none⟩ = some (.slice A j c) ∧ W.cell? ⟨wr.heap.size, 0, none⟩ = some (.slice Av nv cv)) := ⟨_, rfl⟩
        have sB : ∀ W, Blk W wc.heap.size 32 #[.slice A j c, .slice E2 i2 j2, .slice E3 i3 j3, .slice E4 i4 j4, .slice E5 i5 j5] → Blk W wr.heap.size 63 #[.slice Av nv cv] → SS W := fun W h1 h2 => by
          rw [hSS]
          exact ⟨(h1.cell 0).trans rfl, (h2.cell 0).trans rfl⟩
        refine wp_region_F (fun i => i == 8) SS (by kernel_rfl) (sB _ (kq2.on bd) (ks2.on bd)) (fun hHeld => ?_)
        have kq3 := kq2.on bd
        have ks3 := ks2.on bd
        have o3 := own_on o2 bd
        have hS3 := hS2.on bd
        have b3 := b2.trans (bd.mono (by simp; omega))
        have hst3 : ∀ i M, i < j → P.elig[i]? = some M → ∃ X, vs[i]? = some X ∧ SetAt (wr.alloc (.cells #[.slice Av nv cv] 63)).drew (wr.alloc (.cells #[.slice Av nv cv] 63)).drew.heap.size (.agg #[X]) (clrU M u) := fun i M hi hM => by
          obtain ⟨X, e, s⟩ := hst2 i M hi hM
          exact ⟨X, e, s.on bd⟩
        clear bd hst2 b2 hS2 o2 ks2 kq2
        generalize (wr.alloc (.cells #[.slice Av nv cv] 63)).drew = V3 at hHeld kq3 ks3 o3 hS3 b3 hst3 ⊢
        have hwo := without_any (.agg #[.slice Av nv cv]) M u V3 hS3 hx4
        refine wpAnyF_take (i := 0) (v := ?_) rfl (by kernel_rfl) (by kernel_rfl) (by kernel_rfl) (by kernel_rfl) (fun _ _ _ h => h) hHeld (Or.inl ⟨by rfl, ?_⟩) ?_
        rotate_left
        · (intro w hSw; (try rw [hSS] at hSw); (try dsimp only at hSw); go_simp; try with_reducible rfl)
        try simp only [Act.put, List.getElem_toArray, List.getElem_cons_zero, List.getElem_cons_succ, List.setIfInBounds_toArray, List.set_cons_zero, List.set_cons_succ]
        refine wpAnyF_take (i := 1) (v := ?_) rfl (by kernel_rfl) (by kernel_rfl) (by kernel_rfl) (by kernel_rfl) (fun _ _ _ h => h) hHeld (Or.inl ⟨by rfl, ?_⟩) ?_
        rotate_left
        · (intro w hSw; (try rw [hSS] at hSw); (try dsimp only at hSw); go_simp; try with_reducible rfl)
        try simp only [Act.put, List.getElem_toArray, List.getElem_cons_zero, List.getElem_cons_succ, List.setIfInBounds_toArray, List.set_cons_zero, List.set_cons_succ]
        refine wpAnyF_take (i := 2) (v := ?_) rfl (by kernel_rfl) (by kernel_rfl) (by kernel_rfl) (by kernel_rfl) (fun _ _ _ h => h) hHeld (Or.inl ⟨by rfl, ?_⟩) ?_
        rotate_left
        · (intro w hSw; (try rw [hSS] at hSw); (try dsimp only at hSw); go_simp; try with_reducible rfl)
        try simp only [Act.put, List.getElem_toArray, List.getElem_cons_zero, List.getElem_cons_succ, List.setIfInBounds_toArray, List.set_cons_zero, List.set_cons_succ]
        refine wpAnyF_take (i := 3) (v := ?_) rfl (by kernel_rfl) (by kernel_rfl) (by kernel_rfl) (by kernel_rfl) (fun _ _ _ h => h) hHeld (Or.inl ⟨by rfl, ?_⟩) ?_
        rotate_left
        · (intro w hSw; (try rw [hSS] at hSw); (try dsimp only at hSw); go_simp; try with_reducible rfl)
        try simp only [Act.put, List.getElem_toArray, List.getElem_cons_zero, List.getElem_cons_succ, List.setIfInBounds_toArray, List.set_cons_zero, List.set_cons_succ]
        refine wpAnyF_one (i := 4) (by kernel_rfl) rfl (fun K hK => ?_)
        go_simp
        go_at_call 25
        refine hwo.mono ?_
        rintro e V4 ⟨v4, rfl, s4, b4⟩
        obtain ⟨A4', n4', c4', rfl, s4'⟩ := setAt_agg s4
        have o4 := own_on o3 b4
        have q4 := kq3.on b4
        have hgq4 : wc.heap.size ≤ V4.heap.size := Nat.le_of_lt q4.lt
        have bs4 := ks3.on b4
        refine hK.out _ _ (Or.inr (sB _ q4 bs4)) ?_
        clear hK K
        try simp only [Act.put, List.getElem_toArray, List.getElem_cons_zero, List.getElem_cons_succ, List.setIfInBounds_toArray, List.set_cons_zero, List.set_cons_succ]
        refine wpAnyF_one (i := 5) (by kernel_rfl) rfl (fun K hK => ?_)
        go_simp
        refine hK.out _ _ (Or.inr (sB _ (q4.alloc _) (bs4.alloc _))) ?_
        clear hK K
        try simp only [Act.put, List.getElem_toArray, List.getElem_cons_zero, List.getElem_cons_succ, List.setIfInBounds_toArray, List.set_cons_zero, List.set_cons_succ]
        refine wpAnyF_one (i := 6) (by kernel_rfl) rfl (fun K hK => ?_)
        refine step_row1 63 27 _ 1 24 set_info Tryd.underlying27 rfl (by omega) (by omega) _ rfl (.tmp 136) (.tmp 140) rfl V4 wc.heap.size _ j _ rfl o4 #[.slice A4' n4' c4'] rfl _ rfl rfl rfl (by simp [Value.oneCell']) (by omega) hgq4 (j + 1) rfl ?_
        intro A7 c7 w7 o7 g7 b7 k7
        have q7 := q4.grown g7 (own_off o4 q4 (by decide))
        refine hK.out _ _ (Or.inr (sB _ q7 (bs4.grown g7 (hnb)))) ?_
        clear hK K
        try simp only [Act.put, List.getElem_toArray, List.getElem_cons_zero, List.getElem_cons_succ, List.setIfInBounds_toArray, List.set_cons_zero, List.set_cons_succ]
        refine wpAnyF_one (i := 7) (by kernel_rfl) rfl (fun K hK => ?_)
        go_simp
        refine hK.out _ _ (Or.inr (sB _ q7 (bs4.grown g7 hnb))) ?_
        clear hK K
        try simp only [Act.put, List.getElem_toArray, List.getElem_cons_zero, List.getElem_cons_succ, List.setIfInBounds_toArray, List.set_cons_zero, List.set_cons_succ]
        refine wpAnyF_one (i := 8) (by kernel_rfl) rfl (fun K hK => ?_)
        have y8 : w7.cell? ⟨wc.heap.size, 0, none⟩ = some (.slice A j c) := (q7.cell 0).trans rfl
        have f8 := q7.frozen 0
        go_simp
        refine hK.out _ _ (Or.inl rfl) ?_
        clear hK K
        refine wpAnyF_done (by kernel_rfl) ?_ _
        have Q8 : QW (w7.setCell ⟨wc.heap.size, 0, none⟩ (.slice A7 (j + 1) c7)) P u wc.heap.size (j + 1) [.slice E2 i2 j2, .slice E3 i3 j3, .slice E4 i4 j4, .slice E5 i5 j5] := by
          have hrow : ∀ g', (Value.slice A j c).ownBlock = some g' → ∃ c e f, V4.heap[g']? = some (.cells c e f) ∧ e ≠ 112 := fun g' hv => by
            obtain ⟨c, f, k⟩ := Lib.ownsRow_kind o4 g' hv
            exact ⟨c, _, f, k, by decide⟩
          have keepS : ∀ v M, SetAt V4 V4.heap.size v M → SetAt (w7.setCell ⟨wc.heap.size, 0, none⟩ (.slice A7 (j + 1) c7)) (w7.setCell ⟨wc.heap.size, 0, none⟩ (.slice A7 (j + 1) c7)).heap.size v M := fun v M hv => by
            rw [setCell_size]
            exact ((hv.grownR g7 (Nat.le_refl _) hrow).far q7 (by decide)).more g7.size
          refine ⟨A7, c7, vs ++ [.slice A4' n4' c4'], by simpa using q7.put 0 (.slice A7 (j + 1) c7), ownsRow_setCell_other o7 (a := ⟨wc.heap.size, 0, none⟩) (own_off o7 q7 (by decide)) _, by simp [hvl], fun i M' hi hM' => ?_⟩
          by_cases hij : i < j
          · obtain ⟨X, e, s⟩ := hst3 i M' hij hM'
            exact ⟨X, by rw [List.getElem?_append_left (by omega)]; exact e, keepS _ _ (s.on b4)⟩
          · obtain rfl : i = j := by omega
            obtain rfl : M' = M := by rw [HM.out] at hM'; exact (Option.some.inj hM').symm
            exact ⟨_, by rw [← hvl]; simp, keepS _ _ s4'⟩
        have b8 : Below wc.heap.size wc (w7.setCell ⟨wc.heap.size, 0, none⟩ (.slice A7 (j + 1) c7)) := ((b3.trans (b4.mono (by have := kq3.lt; omega))).trans b7).setCell (p := ⟨wc.heap.size, 0, none⟩) (Nat.le_refl _) _
        clear y8 f8 q7 o7 g7 b7 k7 o4 q4 bs4 s4' hwo hHeld kq3 ks3 o3 hS3 b3 hst3
        generalize (w7.setCell ⟨wc.heap.size, 0, none⟩ (.slice A7 (j + 1) c7)) = W8 at Q8 b8 ⊢
        go_wp2_with fail
        go_roundw
        case rel => exact ⟨j + 1, by go_num, hlt, Q8, b8⟩
        case measure => simp [intOf]; omega
      · obtain rfl : j = i1 := by omega
        have hlt' : ¬ (j : Int) < (j : Int) := by omega
        obtain ⟨A, c, vs, kq3, o3, hvl, hst3⟩ := hQ.row
        have hx3 := HX.out.on hb
        have hp3 := pr_without hx3.pr o3 hvl hst3
        have hs3 := hsv _ _ (sm_without SM.out u) wr hx3.bel hp3
        have hcw := chk_without HC.out u
        have hfc := fix_crit HC.out hu1
        unfold SolvePost at hs3
        rw [solve_e0 hcw] at hs3
        unfold PrV.v Sl.v at hs3
        simp only [] at hs3
        rw [← solveR_some hcw, ← hv.out] at hfc
        obtain ⟨vw, hvw⟩ : ∃ vw, Hid (vw = (solveR (without P u) 0).1.isSome) := ⟨_, Lib.hid rfl⟩
        rw [← hvw.out] at hs3 hfc
        have hnc := hx3.oc.len
        have hcl := crit_len (show Few128 P by rw [hP.out]; exact few128_of (mkP_32 R))
        have HX3 := Lib.hid hx3
        have y0 : wr.cell? ⟨wc.heap.size, 0, none⟩ = some (.slice A j c) := (kq3.cell 0).trans rfl
        have y1 : wr.cell? ⟨wc.heap.size, 1, none⟩ = some (.slice E2 i2 j2) := (kq3.cell 1).trans rfl
        have y2 : wr.cell? ⟨wc.heap.size, 2, none⟩ = some (.slice E3 i3 j3) := (kq3.cell 2).trans rfl
        have y3 : wr.cell? ⟨wc.heap.size, 3, none⟩ = some (.slice E4 i4 j4) := (kq3.cell 3).trans rfl
        have y4 : wr.cell? ⟨wc.heap.size, 4, none⟩ = some (.slice E5 i5 j5) := (kq3.cell 4).trans rfl
        clear kq3 o3 hvl hst3 hx3 hp3 hb hQ
        go_wp2_with fail
        refine hs3.mono ?_
        rintro e W16 ⟨Am, nm, cm, Ar, nr, cr, rfl, _, _, b16⟩
        go_upto_region 27 with (fail)
        have bA := bAl b16 (.cells #[.slice Ar nr cr] 46)
        generalize (W16.alloc (.cells #[.slice Ar nr cr] 46)) = W17 at bA ⊢
        have hx17 := HX3.out.on bA
        have hct := contI_any Ac nc cc (critL P) (u : Int) W17 hx17.oc.sees hnc (by omega)
        rw [hfc] at hct
        have b17 := hx17.bel
        clear hx17 hs3 b16 bA y0 y1 y2 y3 y4 hnc hcl hfc
        cases v
        · simp only [Bool.false_and] at hct
          go_wp2_with fail
          refine hct.mono ?_
          rintro e W18 ⟨rfl, rfl⟩
          go_wp2_with fail
          go_ret
          exact ⟨rfl, b17⟩
        · simp only [Bool.true_and] at hct
          go_wp2_with fail
          refine hct.mono ?_
          rintro e W18 ⟨rfl, rfl⟩
          go_wp2_with fail
          go_ret
          exact ⟨by cases vw <;> rfl, b17⟩
end Go.Proofs.YtfnhaoindehjdaaDoor.staffingFixes
