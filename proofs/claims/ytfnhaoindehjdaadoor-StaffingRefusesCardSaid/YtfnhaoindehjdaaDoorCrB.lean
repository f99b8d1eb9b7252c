/- Critical: a round. (gencrit.py) -/
import Derived.Test.YtfnhaoindehjdaaDoorCrA
import Derived.LoopIn
import Derived.OwnWalkIn
import Derived.Deep.CutRange
import Derived.Deep.RegionWith
import Derived.Deep.QuietTactic
import Derived.BigQuiet
import Derived.Laws.ResultCell
import Derived.RangeFuncWrites
import Derived.RangeFuncLeaves
import Derived.Sort.CutIn
namespace Go.Proofs.YtfnhaoindehjdaaDoor
open Go.RowKit
set_option linter.unusedVariables false
set_option linter.unusedSimpArgs false
attribute [local go_sem] Oper.semAt_some

/-- Whether a user is kept. -/
def ckB (P : Pr) (u : Int) : Bool := !solvB (without P u.toNat)
/-- What the users pre have left. -/
structure CI (W0 : World) (P : Pr) (gO : Nat) (pre : List Nat) (W : World) : Prop where
  row : ∃ A n c, Blk W gO 30 #[.slice A n c] ∧ OwnI W W0.heap.size (.slice A n c) n ((pre.map fun x : Nat => (x : Int)).filter (ckB P)) ∧ n ≤ pre.length
  mv : OnlyB W0 W gO
/-- What the rounds know. -/
structure Cs (w W0 : World) (P : Pr) (A1 A2 A3 A4 A5 : Option Addr) (n1 c1 n2 c2 n3 c3 n4 c4 n5 c5 gO : Nat) : Prop where
  hT : Tab w
  pr : PrAt w w.heap.size ⟨⟨A1, n1, c1⟩, ⟨A2, n2, c2⟩, ⟨A3, n3, c3⟩, ⟨A4, n4, c4⟩, ⟨A5, n5, c5⟩⟩ P
  hc : chkP P = 0
  sm : SmP P
  low : Below w.heap.size w W0
  bp : Blk W0 w.heap.size 32 #[.slice A1 n1 c1, .slice A2 n2 c2, .slice A3 n3 c3, .slice A4 n4 c4, .slice A5 n5 c5]
  gOb : w.heap.size ≤ gO
  bO : Blk W0 gO 30 #[.slice none 0 0]
theorem ck_no {P : Pr} {pre : List Nat} {x : Nat} (h : ckB P x = false) : ((pre ++ [x]).map fun x : Nat => (x : Int)).filter (ckB P) = (pre.map fun x : Nat => (x : Int)).filter (ckB P) := by
  rw [List.map_append, List.filter_append]; simp [h]
theorem ck_yes {P : Pr} {pre : List Nat} {x : Nat} (h : ckB P x = true) : ((pre ++ [x]).map fun x : Nat => (x : Int)).filter (ckB P) = (pre.map fun x : Nat => (x : Int)).filter (ckB P) ++ [(x : Int)] := by
  rw [List.map_append, List.filter_append]; simp [h]
theorem eligA_without (P : Pr) (u : Nat) (k : Int) : ∀ x, (eligA (without P u) k).testBit x = true → (eligA P k).testBit x = true := by
  intro x
  unfold eligA without
  simp only [List.getElem?_map]
  cases P.elig[k.toNat]? with
  | none => simp
  | some M => simp only [Option.map_some, Option.getD_some]; rw [clrU_bit]; simp; intro h _; exact h
theorem sm_without {P : Pr} (h : SmP P) (u : Nat) : SmP (without P u) := by
  refine ⟨by simpa [without] using h.1, fun z => Nat.le_trans ?_ (h.2 z)⟩
  unfold memZ
  rw [List.length_map, List.length_map]
  obtain ⟨n, h1, h2⟩ : ∃ n, eligA (without P u) z < 2 ^ n ∧ eligA P z < 2 ^ n := ⟨eligA (without P u) z + eligA P z, Nat.lt_of_lt_of_le Nat.lt_two_pow_self (Nat.pow_le_pow_right (by decide) (by omega)), Nat.lt_of_lt_of_le Nat.lt_two_pow_self (Nat.pow_le_pow_right (by decide) (by omega))⟩
  rw [memM_memT h1, memM_memT h2]
  unfold memT
  rw [← List.countP_eq_length_filter, ← List.countP_eq_length_filter]
  exact List.countP_mono_left fun i _ hi => eligA_without P u z i hi
set_option maxHeartbeats 8000000 in
set_option maxRecDepth 100000 in
theorem crit_body {w W0 : World} {P : Pr} {A1 A2 A3 A4 A5 : Option Addr} {n1 c1 n2 c2 n3 c3 n4 c4 n5 c5 gO : Nat} (h : Cs w W0 P A1 A2 A3 A4 A5 n1 c1 n2 c2 n3 c3 n4 c4 n5 c5 gO)
    (lno : Nat) (pre : List Nat) (x : Nat) (W : World) (hx : 1 ≤ x ∧ x ≤ 256) (hlt : pre.length < 4096) (hI : CI W0 P gO pre W)
    (Q : Exit → Act → World → Prop) (hO : ¬ LetsOut Q) (hPan : ∀ c a a' w, Q (.panic c) a w → Q (.panic c) a' w)
    (hN : ∀ a W', KeepsFrom W0.heap.size W W' → Below w.heap.size W W' → CI W0 P gO (pre ++ [x]) W' → Q .normal a W')
    (cx2 cx3 cx4 cx5 cx8 cx9 cx10 cx11 cx12 cx13 cx14 cx15 cx16 cx17 cx18 cx19 cx20 cx21 cx22 cx23 cx24 cx25 cx26 cx27 cx28 cx29 cx30 cx31 cx32 cx33 cx34 cx35 cx36 cx37 cx38 cx39 cx40 cx41 cx42 cx43 cx44 cx45 cx46 cx47 cx48 cx49 cx50 cx51 cx52 cx53 : Value) :
    critRound.wpIn (Fence.wide.inRound lno) 3 Tryd.prog Q ⟨#[.agg #[.slice A1 n1 c1, .slice A2 n2 c2, .slice A3 n3 c3, .slice A4 n4 c4, .slice A5 n5 c5], .pointer (some ⟨w.heap.size, 0, none⟩), cx2, cx3, cx4, cx5, .pointer (some ⟨gO, 0, none⟩), .int .i64 (x : Int), cx8, cx9, cx10, cx11, cx12, cx13, cx14, cx15, cx16, cx17, cx18, cx19, cx20, cx21, cx22, cx23, cx24, cx25, cx26, cx27, cx28, cx29, cx30, cx31, cx32, cx33, cx34, cx35, cx36, cx37, cx38, cx39, cx40, cx41, cx42, cx43, cx44, cx45, cx46, cx47, cx48, cx49, cx50, cx51, cx52, cx53], []⟩ W := by
  obtain ⟨hT, pr, hc, sm, low, bp, gOb, bO0⟩ := h
  obtain ⟨⟨A, n, c, bO, ho, hn⟩, mv⟩ := hI
  have ok := chkP_ok hc
  have hg0 : 0 < w.heap.size := World.block_lt_of_cell? w _ (hT 0 (by omega))
  have gOl : gO < W0.heap.size := bO0.lt
  have lowW : Below w.heap.size w W := low.trans (mv.below (Nat.le_of_lt gOl) (Nat.le_refl _) |>.mono gOb)
  have bp' := mv.blk bp (bp.apart bO0 (by decide))
  have y4 : W.cell? ⟨w.heap.size, 4, none⟩ = some (.slice A5 n5 c5) := (bp'.cell 4).trans rfl
  have y0 : W.cell? ⟨w.heap.size, 0, none⟩ = some (.slice A1 n1 c1) := (bp'.cell 0).trans rfl
  have y1 : W.cell? ⟨w.heap.size, 1, none⟩ = some (.slice A2 n2 c2) := (bp'.cell 1).trans rfl
  have y2 : W.cell? ⟨w.heap.size, 2, none⟩ = some (.slice A3 n3 c3) := (bp'.cell 2).trans rfl
  have y3 : W.cell? ⟨w.heap.size, 3, none⟩ = some (.slice A4 n4 c4) := (bp'.cell 3).trans rfl
  have hl1 : P.elig.length = n1 := pr.l1
  have hn5 : n1 ≤ 5 := by rw [← hl1]; exact sm.1
  have hxi : (1 : Int) ≤ (x : Int) ∧ (x : Int) ≤ 256 := by omega
  have gqb : w.heap.size < W.heap.size := bp'.lt
  have hpk : ckB P (x : Int) = !solvB (without P x) := by unfold ckB; rw [Int.toNat_natCast]
  have hsv := fun (W' : World) (A6 : Option Addr) (c6 : Nat) (hW : Below w.heap.size w W') (hQ : ∃ vs, W'.ownsRow W.heap.size 63 1 (.slice A6 n1 c6) n1 vs ∧ vs.length = n1 ∧ ∀ i M, i < n1 → P.elig[i]? = some M → ∃ X, vs[i]? = some X ∧ SetAt W' W'.heap.size (.agg #[X]) (clrU M x)) =>
    solvable_any ⟨⟨A6, n1, c6⟩, ⟨A2, n2, c2⟩, ⟨A3, n3, c3⟩, ⟨A4, n4, c4⟩, ⟨A5, n5, c5⟩⟩ (without P x) W'
      (by
        have h9 := (pr.below hW).more hW.size
        obtain ⟨vs, o1, o2, o3⟩ := hQ
        have q1 := Sees.own o1 (by omega)
        refine ⟨by show (P.elig.map _).length = n1; rw [List.length_map]; exact hl1, h9.l2, h9.l3, h9.l4, h9.l5, fun i M hi => ?_, h9.e2, h9.e3, h9.e4, h9.e5, h9.b1, h9.b2, h9.b3, h9.b4, h9.b5, h9.c5⟩
        have hi : (P.elig.map (clrU · x))[i]? = some M := hi
        rw [List.getElem?_map] at hi
        obtain ⟨M0, hM0, rfl⟩ := Option.map_eq_some_iff.1 hi
        obtain ⟨X, a, b⟩ := o3 i M0 (by rw [← hl1]; exact (List.getElem?_eq_some_iff.1 hM0).1) hM0
        obtain ⟨b9, o9, e9, hb, hc⟩ := q1 (by intro e; rw [e] at a; simp at a)
        exact ⟨b9, o9, X, e9, hb, hc i X a, b⟩)
      (hT.below hW hg0) (fun _ => sm_without sm x)
  unfold PrV.v Sl.v at hsv
  simp only [] at hsv
  obtain ⟨v, hv⟩ : ∃ v, Hid (v = solvB (without P x)) := ⟨_, Lib.hid rfl⟩
  rw [← hv.out] at hpk hsv
  have HSV := Lib.hid hsv
  have HPK := Lib.hid hpk
  have HN := Lib.hid hN
  have HO := Lib.hid ho
  have HMV := Lib.hid mv
  have BO := Lib.hid bO
  have HL1 := Lib.hid hl1
  clear hsv hpk hN ho mv hl1 bO
  have kq := Blk.new W 32 #[.slice A1 n1 c1, .slice A2 n2 c2, .slice A3 n3 c3, .slice A4 n4 c4, .slice A5 n5 c5]
  rw [cr_split]
  gi_wp2
  conv => arg 4; whnf
  gi_wp2
  have b1 := bAl (Below.refl W.heap.size W) (.cells #[.slice A1 n1 c1, .slice A2 n2 c2, .slice A3 n3 c3, .slice A4 n4 c4, .slice A5 n5 c5] 32)
  generalize (W.alloc (.cells #[.slice A1 n1 c1, .slice A2 n2 c2, .slice A3 n3 c3, .slice A4 n4 c4, .slice A5 n5 c5] 32)) = W1 at kq b1 ⊢
  have z0 : W1.cell? ⟨W.heap.size, 0, none⟩ = some (.slice A1 n1 c1) := (kq.cell 0).trans rfl
  have fz0 := kq.frozen 0
  clear y0 y1 y2 y3 y4
  conv => arg 4; whnf
  gi_wp2
  have kq2 : Blk (W1.setCell ⟨W.heap.size, 0, none⟩ (.slice none 0 0)) W.heap.size 32 #[.slice none 0 0, .slice A2 n2 c2, .slice A3 n3 c3, .slice A4 n4 c4, .slice A5 n5 c5] := by simpa using kq.put 0 (.slice none 0 0)
  have b2 : Below W.heap.size W (W1.setCell ⟨W.heap.size, 0, none⟩ (.slice none 0 0)) := b1.setCell (p := ⟨W.heap.size, 0, none⟩) (Nat.le_refl _) _
  have hkp2 : KeepsFrom W0.heap.size W (W1.setCell ⟨W.heap.size, 0, none⟩ (.slice none 0 0)) := KeepsFrom.trans (Y := W1) ⟨b1.size, fun j o _ hj _ => (b1.block j (Array.getElem?_eq_some_iff.1 hj).1).trans hj⟩ ((KeepsOthers.setCell _ _ _).from _)
  generalize (W1.setCell ⟨W.heap.size, 0, none⟩ (.slice none 0 0)) = W2 at kq2 b2 hkp2 ⊢
  clear z0 fz0 kq b1
  have low2 := lowW.trans (b2.mono lowW.size)
  have bp2 := bp'.on b2
  have hx4 : x < 4096 := by omega
  refine crit_in (B0 := W0.heap.size) (x := x) (gO := gO) lno hx4 pr hn5 W2 low2 bp2 gqb kq2 _ ?_ ?_ _ _ _ _ _ _ _ _ _ _ _ _ _ _ _ _ _ _ _ _ _ _ _ _ _ _ _ _ _ _ _ _ _ _ _ _ _ _ _ _ _ _ _ _ _ _ _ _ _ ?_
  · exact fun ⟨a, w, h⟩ => hO ⟨a, w, h⟩
  · exact fun c a a' w h => hPan c a a' w h
  intro W3 u2 u3 u4 u5 u9 u10 u11 u12 u13 u14 u15 u16 u17 u18 u19 u20 u21 u22 u23 u24 u25 u26 u27 u28 u29 u30 u31 u32 u33 u34 u35 u36 u37 u38 u39 u40 u41 u42 u43 u44 u45 u46 u47 u48 u49 u50 u51 u52 u53 hQ b3 hkp3
  have b13 := b2.trans b3
  have low3 := lowW.trans (b13.mono lowW.size)
  have hkp3 := hkp2.trans hkp3
  obtain ⟨A9, c9, vs9, kq3, o9, l9, s9⟩ := hQ.row
  have hsv3 := HSV.out W3 A9 c9 low3 ⟨vs9, o9, l9, s9⟩
  have q0 : W3.cell? ⟨W.heap.size, 0, none⟩ = some (.slice A9 n1 c9) := (kq3.cell 0).trans rfl
  have q1 : W3.cell? ⟨W.heap.size, 1, none⟩ = some (.slice A2 n2 c2) := (kq3.cell 1).trans rfl
  have q2 : W3.cell? ⟨W.heap.size, 2, none⟩ = some (.slice A3 n3 c3) := (kq3.cell 2).trans rfl
  have q3 : W3.cell? ⟨W.heap.size, 3, none⟩ = some (.slice A4 n4 c4) := (kq3.cell 3).trans rfl
  have q4 : W3.cell? ⟨W.heap.size, 4, none⟩ = some (.slice A5 n5 c5) := (kq3.cell 4).trans rfl
  clear hQ o9 l9 s9 kq3 b2 b3 hkp2 low2 bp2 kq2 bp'
  simp only [Exit.then]
  gi_wp2
  conv => arg 4; whnf
  gi_wp2
  refine ⟨trivial, (CallsIn.inRound lno (callsIn_wide.2 hsv3)).mono ?_⟩
  rintro e W4 ⟨rfl, b4⟩
  have b14 := b13.trans (b4.mono b13.size)
  have low4 := low3.trans (b4.mono low3.size)
  have hkp4 : KeepsFrom W0.heap.size W W4 := hkp3.trans ⟨b4.size, fun j o _ hj _ => (b4.block j (Array.getElem?_eq_some_iff.1 hj).1).trans hj⟩
  clear q0 q1 q2 q3 q4 hsv3 b13 hkp3 low3 b4
  cases hvv : v
  · have hpk : ckB P (x : Int) = true := by rw [HPK.out, hvv]; rfl
    have HPk := Lib.hid hpk
    clear hpk hvv
    have bO4 := BO.out.on b14
    have ho4 := OwnI.on HO.out b14
    have mv4 := HMV.out.more (b14.mono HMV.out.size)
    have yO : W4.cell? ⟨gO, 0, none⟩ = some (.slice A n c) := (bO4.cell 0).trans rfl
    obtain ⟨i0, hi, hz0, hz1, hz2⟩ := info_parts int_info
    have HO4 := Lib.hid ho4
    have HBO4 := Lib.hid bO4
    have HMV4 := Lib.hid mv4
    have hW04 : W0.heap.size ≤ W4.heap.size := mv4.size
    clear ho4 bO4 mv4
    gi_wp2_with (gi_at_builtin; refine wpListIn_append_own _ rfl _ _ 30 rfl W0.heap.size 3 i0 (.int .i64 0) 1 8 Tryd.underlying30 hi hz0 (by assumption) (by assumption) rfl (by decide) _ _ _ rfl (World.ownsRow.alloc HO4.out _) ⟨W4.heap.size, 0, none⟩ 1 1 [.int .i64 (x : Int)] rfl rfl (cell_one_new _ _ _) (by simp [Value.oneCell']) (by unfold maxLen; omega) (by omega) (by simp; omega) ?_; intro v' w7 o7 g7 _; obtain ⟨A7, c7, rfl⟩ := ownsRow_succ o7; have hb7 := HBO4.out.alloc (.cells #[.int .i64 (x : Int)] 3); have hb8 := hb7.grown g7 (own_off (World.ownsRow.alloc HO4.out _) hb7 (by decide)); have yO7 : w7.cell? ⟨gO, 0, none⟩ = some (.slice A n c) := (hb8.cell 0).trans rfl; have fO7 := hb8.frozen 0)
    have b7 : Below W0.heap.size W4 w7 := below_app ((Below.refl W0.heap.size W4).alloc hW04 _) (by simp; omega) (World.ownsRow.alloc HO4.out _) g7
    have bO8 : Blk (w7.setCell ⟨gO, 0, none⟩ (.slice (some ⟨A7, 0, none⟩) (n + 1) c7)) gO 30 #[.slice (some ⟨A7, 0, none⟩) (n + 1) c7] := by simpa using hb8.put 0 (.slice (some ⟨A7, 0, none⟩) (n + 1) c7)
    have o8 : OwnI (w7.setCell ⟨gO, 0, none⟩ (.slice (some ⟨A7, 0, none⟩) (n + 1) c7)) W0.heap.size (.slice (some ⟨A7, 0, none⟩) (n + 1) c7) (n + 1) (((pre ++ [x]).map fun x : Nat => (x : Int)).filter (ckB P)) := by
      rw [ck_yes HPk.out]
      refine OwnI.same (w := w7) ?_ fun j hj => Below.heap_setCell w7 _ _ j (fun e => by have := (World.ownsRow.lt o7 j hj).1; simp at e; omega)
      show World.ownsRow _ _ _ _ _ _ _
      rw [List.map_append]
      exact o7
    have hkp8 : KeepsFrom W0.heap.size W (w7.setCell ⟨gO, 0, none⟩ (.slice (some ⟨A7, 0, none⟩) (n + 1) c7)) := ((hkp4.trans (Z := W4.alloc (.cells #[.int .i64 (x : Int)] 3)) ⟨by simp, fun j o _ hj _ => (Below.heap_alloc W4 _ j (Array.getElem?_eq_some_iff.1 hj).1).trans hj⟩).trans ((KeepsOthers.of_grownBy g7 (fun j o e ho => by
          obtain ⟨c', f, k⟩ := Lib.ownsRow_kind (World.ownsRow.alloc HO4.out _) j e
          rw [k] at ho
          injection ho with ho
          subst ho
          rfl)).from _)).trans ((KeepsOthers.setCell _ _ _).from _)
    exact HN.out _ _ hkp8 (((b14.mono lowW.size).trans (b7.mono low.size)).setCell (p := ⟨gO, 0, none⟩) gOb _) ⟨⟨_, n + 1, c7, bO8, o8, by simp; omega⟩, (HMV4.out.more b7).set _⟩
  · have hpk : ckB P (x : Int) = false := by rw [HPK.out, hvv]; rfl
    have HP : Hid (CI W0 P gO (pre ++ [x]) W4) := Lib.hid ⟨⟨A, n, c, BO.out.on b14, by rw [ck_no hpk]; exact OwnI.on HO.out b14, by simp; omega⟩, HMV.out.more (b14.mono HMV.out.size)⟩
    clear hpk hvv
    gi_wp2
    exact HN.out _ _ hkp4 (b14.mono lowW.size) HP.out
end Go.Proofs.YtfnhaoindehjdaaDoor
