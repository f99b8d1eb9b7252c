/- The walk of StaffingRefuses. (genrefuses.py) -/
import Derived.Test.YtfnhaoindehjdaaDoorMade
import Derived.Test.YtfnhaoindehjdaaDoorMkR
import Derived.Test.YtfnhaoindehjdaaDoorAwS
import Derived.Test.YtfnhaoindehjdaaDoorStS
import Derived.Test.YtfnhaoindehjdaaDoorStN
import Derived.Test.YtfnhaoindehjdaaDoorPoC
import Derived.Test.YtfnhaoindehjdaaDoorCrE
import Derived.Test.YtfnhaoindehjdaaDoorPd
import Derived.Test.YtfnhaoindehjdaaDoorPrM
import Derived.Test.YtfnhaoindehjdaaDoorPl
import Derived.Test.YtfnhaoindehjdaaDoorPk
import Derived.Deep.CutBlock
import Derived.Deep.RegionLaw
namespace Go.Proofs.YtfnhaoindehjdaaDoor
open Go.RowKit
set_option linter.unusedVariables false
set_option linter.unusedSimpArgs false

theorem HoldP.add2 {w w' : World} {B g n' c' : Nat} {q : PrV} {P : Pr} {xs : List Value} {ms : List (Int × Value)} {A' : Option Addr} {x y : Int} (h : HoldP w B g q P xs ms) (hq : ApQ q) (ho : w'.ownsRow B 66 2 (.slice A' n' c') n' (P.dif.flatMap pv ++ [.int .i64 x, .int .i64 y])) (hg : w.grownBy w' q.s2.v.ownBlock) (hn : n' ≤ 1000) :
    HoldP (w'.setCell ⟨g, 1, none⟩ (.slice A' n' c')) B g ⟨q.s1, ⟨A', n', c'⟩, q.s3, q.s4, q.s5⟩ ⟨P.elig, P.dif ++ [(x, y)], P.sam, P.mst, P.fix⟩ xs ms := by
  have hb := h.blk.grown hg (own_off h.o2 h.blk (by decide))
  have hrow : ∀ g', q.s2.v.ownBlock = some g' → ∃ c e f, w.heap[g']? = some (.cells c e f) ∧ e ≠ 112 := fun g' hv => by
    obtain ⟨c, f, k⟩ := Lib.ownsRow_kind h.o2 g' hv
    exact ⟨c, _, f, k, by decide⟩
  have keepS : ∀ v M, SetAt w w.heap.size v M → SetAt (w'.setCell ⟨g, 1, none⟩ (.slice A' n' c')) (w'.setCell ⟨g, 1, none⟩ (.slice A' n' c')).heap.size v M := fun v M hv => by
    rw [setCell_size]
    exact ((hv.grownR hg (Nat.le_refl _) hrow).far hb (by decide)).more hg.size
  have hap : q.s3.v.ownBlock = none ∨ q.s3.v.ownBlock ≠ q.s2.v.ownBlock := by
    rcases hq.ap with h1 | h1
    · cases h3 : q.s3.v.ownBlock with
      | none => exact .inl rfl
      | some k => right; rw [h1]; simp
    · exact .inr (Ne.symm h1)
  refine ⟨keepRow h.o1 hg (own_apart h.o1 h.o2 (by decide)) hb (by decide), ?_, keepRow h.o3 hg hap hb (by decide), keepRow h.o4 hg (own_apart h.o4 h.o2 (by decide)) hb (by decide), keepRow h.o5 hg (own_apart h.o5 h.o2 (by decide)) hb (by decide), h.x1, fun i M' hi => ?_, h.x4, fun i x hi => ?_, hb.put 1 _, h.b1, hn, h.b3, h.b4, h.b5⟩
  · have := ownsRow_setCell_other ho (a := ⟨g, 1, none⟩) (own_off ho hb (by decide)) (.slice A' n' c')
    simp only [flat_snoc]
    exact this
  · obtain ⟨X', a, b⟩ := h.s1 i M' hi
    exact ⟨X', a, keepS _ _ b⟩
  · obtain ⟨m, a, b, c⟩ := h.s4 i x hi
    exact ⟨m, a, b, keepS _ _ c⟩
theorem HoldP.add3 {w w' : World} {B g n' c' : Nat} {q : PrV} {P : Pr} {xs : List Value} {ms : List (Int × Value)} {A' : Option Addr} {x y : Int} (h : HoldP w B g q P xs ms) (hq : ApQ q) (ho : w'.ownsRow B 66 2 (.slice A' n' c') n' (P.sam.flatMap pv ++ [.int .i64 x, .int .i64 y])) (hg : w.grownBy w' q.s3.v.ownBlock) (hn : n' ≤ 1000) :
    HoldP (w'.setCell ⟨g, 2, none⟩ (.slice A' n' c')) B g ⟨q.s1, q.s2, ⟨A', n', c'⟩, q.s4, q.s5⟩ ⟨P.elig, P.dif, P.sam ++ [(x, y)], P.mst, P.fix⟩ xs ms := by
  have hb := h.blk.grown hg (own_off h.o3 h.blk (by decide))
  have hrow : ∀ g', q.s3.v.ownBlock = some g' → ∃ c e f, w.heap[g']? = some (.cells c e f) ∧ e ≠ 112 := fun g' hv => by
    obtain ⟨c, f, k⟩ := Lib.ownsRow_kind h.o3 g' hv
    exact ⟨c, _, f, k, by decide⟩
  have keepS : ∀ v M, SetAt w w.heap.size v M → SetAt (w'.setCell ⟨g, 2, none⟩ (.slice A' n' c')) (w'.setCell ⟨g, 2, none⟩ (.slice A' n' c')).heap.size v M := fun v M hv => by
    rw [setCell_size]
    exact ((hv.grownR hg (Nat.le_refl _) hrow).far hb (by decide)).more hg.size
  refine ⟨keepRow h.o1 hg (own_apart h.o1 h.o3 (by decide)) hb (by decide), keepRow h.o2 hg hq.ap hb (by decide), ?_, keepRow h.o4 hg (own_apart h.o4 h.o3 (by decide)) hb (by decide), keepRow h.o5 hg (own_apart h.o5 h.o3 (by decide)) hb (by decide), h.x1, fun i M' hi => ?_, h.x4, fun i x hi => ?_, hb.put 2 _, h.b1, h.b2, hn, h.b4, h.b5⟩
  · have := ownsRow_setCell_other ho (a := ⟨g, 2, none⟩) (own_off ho hb (by decide)) (.slice A' n' c')
    simp only [flat_snoc]
    exact this
  · obtain ⟨X', a, b⟩ := h.s1 i M' hi
    exact ⟨X', a, keepS _ _ b⟩
  · obtain ⟨m, a, b, c⟩ := h.s4 i x hi
    exact ⟨m, a, b, keepS _ _ c⟩
end Go.Proofs.YtfnhaoindehjdaaDoor
namespace Go.Proofs.YtfnhaoindehjdaaDoor.staffingRefuses
open Go.RowKit
set_option linter.unusedVariables false
set_option linter.unusedSimpArgs false

/-- What lies behind the switch. -/
structure RfS (w : World) (g : Nat) (wx : World) (q : PrV) (P : Pr) : Prop where
  blk : Blk wx g 32 #[q.s1.v, q.s2.v, q.s3.v, q.s4.v, q.s5.v]
  pr : PrAt wx wx.heap.size q P
  sm : SmP P
  bel : Below w.heap.size w wx
theorem count_e {P : Pr} (sm : SmP P) : (countR P 100000).2 = chkP P := by
  unfold countR
  by_cases hc : chkP P = 0
  · have ok := chkP_ok hc
    have hl : (solsL P).length ≤ 7776 := by
      have h1 := solsF_len ok sm.2 P.fix.length P.fix (openN_le _)
      have h5 : P.fix.length ≤ 5 := by rw [ok.fixl]; exact sm.1
      exact Nat.le_trans h1 (Nat.le_trans (Nat.pow_le_pow_right (by omega) h5) (by decide))
    rw [if_neg (by simpa using hc), if_neg (by omega), if_neg (by omega), hc]
  · rw [if_pos hc]
theorem solve_e (P : Pr) : (solveR P 0).2.2 = chkP P ∧ (chkP P ≠ 0 → (solveR P 0).1 = none) := by
  by_cases hc : chkP P = 0
  · rcases solveR_zero hc with ⟨l, ls, _, h2⟩ | ⟨_, nds, sts, h2, _, _⟩
    · rw [h2, hc]; exact ⟨rfl, fun h => absurd rfl h⟩
    · rw [h2, hc]; exact ⟨rfl, fun h => absurd rfl h⟩
  · unfold solveR
    rw [if_pos hc]
    exact ⟨rfl, fun _ => rfl⟩
theorem poss_e {P : Pr} (h : chkP P ≠ 0) : possR P = [] ∧ critL P = [] := by
  refine ⟨if_neg h, ?_⟩
  unfold critL solvB
  rw [decide_eq_false h]
  rfl
set_option maxHeartbeats 32000000 in
set_option maxRecDepth 100000 in
theorem walk (r : RwV) (R : Rw) (a1 a2 : Int) (w : World) (h : RwAt w w.heap.size r R) (w1 : (Lit.int .u8 a1).wf = true) (w2 : (Lit.int .u8 a2).wf = true) (hT : Tab w) :
    Calls Tryd.prog 8 #[r.v R, .int .u8 a1, .int .u8 a2] w fun e w' => e = .returned (.bool true) ∧ Below w.heap.size w w' := by
  have hg0 : 0 < w.heap.size := World.block_lt_of_cell? w _ (hT 0 (by omega))
  have mk := fun W (hw : Below w.heap.size w W) => made_ap r R W (h.on hw)
  have mf := mkP_few R
  have hc := chkP_mkP R
  have sm := mkP_sm R
  have h4 := mkP_four R
  have hsl := mkP_sols R
  obtain ⟨P, hP⟩ : ∃ P, Hid (P = mkP R) := ⟨_, Lib.hid rfl⟩
  rw [← hP.out] at mf mk hc sm h4 hsl
  obtain ⟨a10, a11⟩ := wf_u8 w1
  obtain ⟨a20, a21⟩ := wf_u8 w2
  obtain ⟨⟨A1, n1, c1⟩, ⟨A2, n2, c2⟩, ⟨A3, n3, c3⟩, ⟨A4, n4, c4⟩, ⟨A5, n5, c5⟩⟩ := r
  obtain ⟨st, hst⟩ : ∃ st, Hid (st = R.steps) := ⟨_, Lib.hid rfl⟩
  unfold RwV.v Sl.v at mk ⊢
  simp only [] at mk ⊢
  rw [← hst.out] at mk ⊢
  have SM := Lib.hid sm
  have HC := Lib.hid hc
  have H4 := Lib.hid h4
  have HSL := Lib.hid hsl
  have MF := Lib.hid mf
  clear h mf sm hc h4 hsl
  go_enter Tryd.func8, Tryd.ntmps8
  go_wp2_with fail
  have r1 := Blk.new w 25 #[.int .u8 (st : Int), .slice A1 n1 c1, .slice A2 n2 c2, .slice A3 n3 c3, .slice A4 n4 c4, .slice A5 n5 c5]
  have b1 := bAl (Below.refl w.heap.size w) (.cells #[.int .u8 (st : Int), .slice A1 n1 c1, .slice A2 n2 c2, .slice A3 n3 c3, .slice A4 n4 c4, .slice A5 n5 c5] 25)
  generalize (w.alloc (.cells #[.int .u8 (st : Int), .slice A1 n1 c1, .slice A2 n2 c2, .slice A3 n3 c3, .slice A4 n4 c4, .slice A5 n5 c5] 25)) = W0 at r1 b1 ⊢
  refine (awake_any W0 (hT.below b1 hg0)).mono ?_
  rintro e W1 ⟨rfl, ba⟩
  have r2 := r1.on ba
  have b2 := b1.trans (ba.mono b1.size)
  clear r1 b1 ba
  have x0 : W1.cell? ⟨w.heap.size, 0, none⟩ = some (.int .u8 (st : Int)) := (r2.cell 0).trans rfl
  have x1 : W1.cell? ⟨w.heap.size, 1, none⟩ = some (.slice A1 n1 c1) := (r2.cell 1).trans rfl
  have x2 : W1.cell? ⟨w.heap.size, 2, none⟩ = some (.slice A2 n2 c2) := (r2.cell 2).trans rfl
  have x3 : W1.cell? ⟨w.heap.size, 3, none⟩ = some (.slice A3 n3 c3) := (r2.cell 3).trans rfl
  have x4 : W1.cell? ⟨w.heap.size, 4, none⟩ = some (.slice A4 n4 c4) := (r2.cell 4).trans rfl
  have x5 : W1.cell? ⟨w.heap.size, 5, none⟩ = some (.slice A5 n5 c5) := (r2.cell 5).trans rfl
  go_wp2_with fail
  refine (mk W1 b2).mono ?_
  rintro e W2 ⟨⟨⟨E1, i1, j1⟩, ⟨E2, i2, j2⟩, ⟨E3, i3, j3⟩, ⟨E4, i4, j4⟩, ⟨E5, i5, j5⟩⟩, ⟨⟨B1, m1, d1⟩, ⟨B2, m2, d2⟩, ⟨B3, m3, d3⟩, ⟨B4, m4, d4⟩, ⟨B5, m5, d5⟩⟩, AL, nL, cL, rfl, ⟨xs, ms, hq⟩, hap, hpl, oL, hn6, bw2⟩
  have b3 := b2.trans (bw2.mono b2.size)
  have hz1 := b2.size
  have hzz := bw2.size
  simp only [PrV.v, Sl.v]
  clear x0 x1 x2 x3 x4 x5 r2 b2 mk
  have HPL := Lib.hid hpl
  clear hpl
  go_upto_region 4 with (fail)
  have k4 : Blk ((W2.alloc (.cells #[.slice E1 i1 j1, .slice E2 i2 j2, .slice E3 i3 j3, .slice E4 i4 j4, .slice E5 i5 j5] 32)).alloc (.cells #[.slice B1 m1 d1, .slice B2 m2 d2, .slice B3 m3 d3, .slice B4 m4 d4, .slice B5 m5 d5] 36)) W2.heap.size 32 #[.slice E1 i1 j1, .slice E2 i2 j2, .slice E3 i3 j3, .slice E4 i4 j4, .slice E5 i5 j5] := Blk.alloc (Blk.mk' rfl) _
  have bk : Below W2.heap.size W2 ((W2.alloc (.cells #[.slice E1 i1 j1, .slice E2 i2 j2, .slice E3 i3 j3, .slice E4 i4 j4, .slice E5 i5 j5] 32)).alloc (.cells #[.slice B1 m1 d1, .slice B2 m2 d2, .slice B3 m3 d3, .slice B4 m4 d4, .slice B5 m5 d5] 36)) := bAl (bAl (Below.refl _ _) _) _
  generalize ((W2.alloc (.cells #[.slice E1 i1 j1, .slice E2 i2 j2, .slice E3 i3 j3, .slice E4 i4 j4, .slice E5 i5 j5] 32)).alloc (.cells #[.slice B1 m1 d1, .slice B2 m2 d2, .slice B3 m3 d3, .slice B4 m4 d4, .slice B5 m5 d5] 36)) = W4 at k4 bk ⊢
  have b4 := b3.trans (bk.mono b3.size)
  have oq4 := hq.on bk
  have hQ4 := oq4.at
  have oL4 := oL.on bk
  have HLN := Lib.hid oL.len
  have hB4 := hq.at.below bk
  have hz2 := b3.size
  clear hq oL b3 bk bw2
  have x0 : W4.cell? ⟨W2.heap.size, 0, none⟩ = some (.slice E1 i1 j1) := (k4.cell 0).trans rfl
  have x1 : W4.cell? ⟨W2.heap.size, 1, none⟩ = some (.slice E2 i2 j2) := (k4.cell 1).trans rfl
  have x2 : W4.cell? ⟨W2.heap.size, 2, none⟩ = some (.slice E3 i3 j3) := (k4.cell 2).trans rfl
  have x3 : W4.cell? ⟨W2.heap.size, 3, none⟩ = some (.slice E4 i4 j4) := (k4.cell 3).trans rfl
  have x4 : W4.cell? ⟨W2.heap.size, 4, none⟩ = some (.slice E5 i5 j5) := (k4.cell 4).trans rfl
  obtain ⟨m, hm⟩ : ∃ m : Nat, Hid (m = a1.toNat % 6) := ⟨_, Lib.hid rfl⟩
  have hm6 : m < 6 := by have := hm.out; omega
  have htm : a1.tmod 6 = (m : Int) := by rw [Int.tmod_eq_emod_of_nonneg a10]; have := hm.out; omega
  go_upto_block 0 with (fail)
  go_cut [] from 27 to 80 (fun wx => ∃ (q : PrV) (P' : Pr), RfS w W2.heap.size wx q P')
  case first =>
    have f0 := k4.frozen 0
    have f1 := k4.frozen 1
    have f2 := k4.frozen 2
    have f3 := k4.frozen 3
    have f4 := k4.frozen 4
    have hl5 : P.fix.length = i5 := hQ4.l5
    have h5 : 1 ≤ i5 := by rw [← hl5, MF.out.f1]; exact MF.out.e0
    have hcj : i5 ≤ j5 := hQ4.c5
    have hl4 := k4.lt
    have HB := Lib.hid hB4
    have H4 : Hid (HoldP W4 W1.heap.size W2.heap.size ⟨⟨E1, i1, j1⟩, ⟨E2, i2, j2⟩, ⟨E3, i3, j3⟩, ⟨E4, i4, j4⟩, ⟨E5, i5, j5⟩⟩ P xs ms) := Lib.hid ⟨oq4.o1, oq4.o2, oq4.o3, oq4.o4, oq4.o5, oq4.x1, oq4.s1, oq4.x4, oq4.s4, k4, oq4.b1, oq4.b2, oq4.b3, oq4.b4, oq4.b5⟩
    have hPB : ∀ W, Below W2.heap.size W4 W → PrAt W W.heap.size ⟨⟨E1, i1, j1⟩, ⟨E2, i2, j2⟩, ⟨E3, i3, j3⟩, ⟨E4, i4, j4⟩, ⟨E5, i5, j5⟩⟩ P := fun W hW => (HB.out.below hW).more (Nat.le_trans (Nat.le_of_lt hl4) hW.size)
    have hbw : ∀ W, Below W2.heap.size W4 W → Below w.heap.size w W := fun W hW => b4.trans (hW.mono hz2)
    have HL5 := Lib.hid hl5
    obtain ⟨t, ht⟩ : ∃ t : Nat, Hid (t = a2.toNat % 7) := ⟨_, Lib.hid rfl⟩
    have htv : a2.tmod 7 = (t : Int) := by rw [Int.tmod_eq_emod_of_nonneg a20]; have := ht.out; omega
    have ht7 : t < 7 := by have := ht.out; omega
    have hz12 : W1.heap.size ≤ W2.heap.size := hzz
    clear hB4 oq4 hQ4 hl5
    obtain h | h | h | h | h | h : m = 0 ∨ m = 1 ∨ m = 2 ∨ m = 3 ∨ m = 4 ∨ m = 5 := by omega
    all_goals (subst h)
    · have hi5 : (1 : Int) ≤ (i5 : Int) := by omega
      have hj5 : (i5 : Int) ≤ (j5 : Int) := by omega
      by_cases hj : j5 = 1
      · have hi : i5 = 1 := by omega
        subst hj hi
        go_wp2_with fail
        go_meet
        have hW : Below W2.heap.size W4 (W4.setCell ⟨W2.heap.size, 4, none⟩ (.slice E5 0 0)) := (Below.refl _ _).setCell (p := ⟨W2.heap.size, 4, none⟩) (Nat.le_refl _) _
        have h9 := hPB _ hW
        have hl0 : (P.fix.drop 1).length = 0 := by rw [List.length_drop, HL5.out]
        have hn0 : P.fix.drop 1 = [] := List.eq_nil_of_length_eq_zero hl0
        exact ⟨⟨⟨E1, i1, j1⟩, ⟨E2, i2, j2⟩, ⟨E3, i3, j3⟩, ⟨E4, i4, j4⟩, ⟨E5, 0, 0⟩⟩, ⟨P.elig, P.dif, P.sam, P.mst, P.fix.drop 1⟩, k4.put 4 _, ⟨h9.l1, h9.l2, h9.l3, h9.l4, hl0, h9.e1, h9.e2, h9.e3, h9.e4, by show Sees _ _ _ ((P.fix.drop 1).map iv); rw [hn0]; exact Sees.nil _ _ _, h9.b1, h9.b2, h9.b3, h9.b4, Nat.zero_le _, Nat.le_refl _⟩, SM.out, hbw _ hW⟩
      · obtain ⟨b, o, z, rfl, hb2, Hz, hc⟩ := Sees.int (k := 0) (hPB W4 (Below.refl _ _)).e5 (by rw [HL5.out]; omega)
        clear hc
        go_wp2_with fail
        go_meet
        have hW : Below W2.heap.size W4 (W4.setCell ⟨W2.heap.size, 4, none⟩ (.slice (some ⟨b, o + 1, none⟩) (i5 - 1) (j5 - 1))) := (Below.refl _ _).setCell (p := ⟨W2.heap.size, 4, none⟩) (Nat.le_refl _) _
        have h9 := hPB _ hW
        have hd := Sees.drop_ (k := 1) (c := j5) h9.e5 (by rw [List.length_map, HL5.out]; omega) (by rw [List.length_map, HL5.out]; omega)
        rw [if_neg hj, ← List.map_drop] at hd
        exact ⟨⟨⟨E1, i1, j1⟩, ⟨E2, i2, j2⟩, ⟨E3, i3, j3⟩, ⟨E4, i4, j4⟩, ⟨some ⟨b, o + 1, none⟩, i5 - 1, j5 - 1⟩⟩, ⟨P.elig, P.dif, P.sam, P.mst, P.fix.drop 1⟩, k4.put 4 _, ⟨h9.l1, h9.l2, h9.l3, h9.l4, by show (P.fix.drop 1).length = i5 - 1; rw [List.length_drop, HL5.out], h9.e1, h9.e2, h9.e3, h9.e4, hd, h9.b1, h9.b2, h9.b3, h9.b4, by have := h9.b5; simp only at this ⊢; omega, by simp only; omega⟩, SM.out, hbw _ hW⟩
    · go_wp2_with fail
      go_meet
      have hW : Below W2.heap.size W4 ((W4.setCell ⟨W2.heap.size, 0, none⟩ (.slice none 0 0)).setCell ⟨W2.heap.size, 4, none⟩ (.slice none 0 0)) := ((Below.refl _ _).setCell (p := ⟨W2.heap.size, 0, none⟩) (Nat.le_refl _) _).setCell (p := ⟨W2.heap.size, 4, none⟩) (Nat.le_refl _) _
      have h9 := hPB _ hW
      exact ⟨⟨⟨none, 0, 0⟩, ⟨E2, i2, j2⟩, ⟨E3, i3, j3⟩, ⟨E4, i4, j4⟩, ⟨none, 0, 0⟩⟩, ⟨[], P.dif, P.sam, P.mst, []⟩, (k4.put 0 _).put 4 _, ⟨rfl, h9.l2, h9.l3, h9.l4, rfl, SetsAt.nil _ _ _, h9.e2, h9.e3, h9.e4, Sees.nil _ _ _, Nat.zero_le _, h9.b2, h9.b3, h9.b4, Nat.zero_le _, Nat.le_refl _⟩, ⟨Nat.zero_le _, fun z => by rw [show eligA ⟨[], P.dif, P.sam, P.mst, []⟩ (z : Int) = 0 by simp [eligA]]; decide⟩, hbw _ hW⟩
    · obtain ⟨i0, hi0, hz0, hzs, hzb⟩ := info_parts pair_info
      have hib : i2 ≤ 4 := by have h9 := (hPB W4 (Below.refl _ _)).l2; simp only at h9; rw [← h9]; exact MF.out.d1
      have oA := World.ownsRow.alloc H4.out.o2 (.cells #[.int .i64 0, .int .i64 (t : Int)] 66)
      have kA := k4.alloc (.cells #[.int .i64 0, .int .i64 (t : Int)] 66)
      have hzA : W1.heap.size ≤ W4.heap.size := by have := hz12; omega
      go_wp2_with (at_builtin; refine wpList_append_sees _ rfl (.tmp 49) (.tmp 54) _ rfl W1.heap.size _ i0 _ 2 16 Tryd.underlying28 hi0 hz0 hzs hzb rfl (by omega) _ i2 _ rfl oA _ (some ⟨W4.heap.size, 0, none⟩) 1 1 [.int .i64 0, .int .i64 (t : Int)] rfl (by simp) (Sees.laid W4 #[.int .i64 0, .int .i64 (t : Int)] 66 (0, 0) _ rfl _ rfl) (by simp [Value.oneCell']) (by unfold maxLen; omega) (by omega) (by simp; omega) (i2 + 1) (by omega) _ rfl ?_; intro A9 c9 w9 o9 g9 _; have hb9 := kA.grown g9 (own_off oA kA (by decide)); have y9 : w9.cell? ⟨W2.heap.size, 1, none⟩ = some (.slice E2 i2 j2) := (hb9.cell 1).trans rfl; have f9 := hb9.frozen 1)
      go_meet
      have H9 := HoldP.add2 (H4.out.on (bAl (Below.refl _ _) _)) hap o9 g9 (by omega)
      have b9 : Below W1.heap.size W4 w9 := below_app ((Below.refl W1.heap.size W4).alloc hzA _) (by simp; omega) oA g9
      exact ⟨_, _, H9.blk, H9.at, SM.out, (b4.trans (b9.mono hz1)).setCell (p := ⟨W2.heap.size, 1, none⟩) hz2 _⟩
    · obtain ⟨t3, ht3⟩ : ∃ t : Nat, Hid (t = a2.toNat % 3) := ⟨_, Lib.hid rfl⟩
      obtain ⟨t8, ht8⟩ : ∃ t : Nat, Hid (t = a2.toNat % 8) := ⟨_, Lib.hid rfl⟩
      have htv3 : a2.tmod 3 = (t3 : Int) := by rw [Int.tmod_eq_emod_of_nonneg a20]; have := ht3.out; omega
      have htv8 : a2.tmod 8 = (t8 : Int) := by rw [Int.tmod_eq_emod_of_nonneg a20]; have := ht8.out; omega
      have ht3b : t3 < 3 := by have := ht3.out; omega
      have ht8b : t8 < 8 := by have := ht8.out; omega
      have hib : i4 ≤ 4 := by have h9 := (hPB W4 (Below.refl _ _)).l4; simp only at h9; rw [← h9]; exact Nat.le_trans MF.out.m1 (by omega)
      have hzA : W1.heap.size ≤ W4.heap.size := by omega
      have hwr : IntKind.i64.wrap a2 = a2 := IntWalk.i64_in _ (by omega)
      have hof : Calls Tryd.prog 26 #[.slice (some ⟨W4.heap.size, 0, none⟩) 1 1] (W4.alloc (.cells #[.int .i64 (t8 : Int)] 3)).drew fun e w' => ∃ A n c, e = .returned (.agg #[.slice A n c]) ∧ SetAt w' w'.heap.size (.agg #[.slice A n c]) (ofL [t8]) ∧ Below W4.heap.size W4.drew w' := ofLit W4.drew [t8] #[.int .i64 (t8 : Int)] 1 W4.heap.size rfl rfl (by simp; omega) (by omega) rfl
      have y3d : W4.drew.cell? ⟨W2.heap.size, 3, none⟩ = some (.slice E4 i4 j4) := x3
      go_wp2_with fail
      go_region_law (first
        | (refine step_row1 69 29 _ 2 32 fmost_info Tryd.underlying29 rfl (by omega) (by omega) _ rfl (.tmp 60) (.tmp 70) rfl w6 W1.heap.size _ i4 _ rfl H6.o4 #[.int .i64 (t3 : Int), .slice A7 n7 c7] rfl _ rfl rfl rfl (by simp [Value.oneCell']) (by omega) hz6 (i4 + 1) rfl ?_; intro A9 c9 w9 o9 g9 b9 _; have hb9 := Blk.grown H6.blk g9 (own_off H6.o4 H6.blk (by decide)); have y9 : w9.cell? ⟨W2.heap.size, 3, none⟩ = some (.slice E4 i4 j4) := (hb9.cell 3).trans rfl; have f9 := hb9.frozen 3)
        | (rw [if_pos (by rfl)]; go_simp; go_at_call 26; refine hof.mono ?_; rintro e w6 ⟨A7, n7, c7, rfl, hX, b6⟩; have hb6 : Below W4.heap.size W4 w6 := (Below.refl W4.heap.size W4).drew.trans (b6.mono (Nat.le_refl _)); have hz6 : W1.heap.size ≤ w6.heap.size := Nat.le_trans hzA hb6.size; have H6 := H4.out.on hb6; have y6 : w6.cell? ⟨W2.heap.size, 3, none⟩ = some (.slice E4 i4 j4) := (H6.blk.cell 3).trans rfl; have y6a : ∀ o, (w6.alloc o).cell? ⟨W2.heap.size, 3, none⟩ = some (.slice E4 i4 j4) := (fun o => ((H6.blk.alloc o).cell 3).trans rfl); simp only []))
      all_goals (
        have H9 := HoldP.add4 H6 o9 g9 (by omega) hX
        have W9 : Below W1.heap.size W4 (w9.setCell ⟨W2.heap.size, 3, none⟩ (.slice A9 (i4 + 1) c9)) := ((hb6.mono hzA).trans b9).setCell (p := ⟨W2.heap.size, 3, none⟩) hz12 _
        clear hb9 y9 f9 o9 g9 b9
        generalize (w9.setCell ⟨W2.heap.size, 3, none⟩ (.slice A9 (i4 + 1) c9)) = w8 at H9 W9 ⊢
        go_wp2_with fail
        go_meet
        exact ⟨_, _, H9.blk, H9.at, SM.out, b4.trans (W9.mono hz1)⟩)
    · have oF : OwnI W4 W1.heap.size (.slice E5 i5 j5) i5 P.fix := H4.out.o5
      obtain ⟨g6, cs6, e6, hg6, hb6⟩ := own_blk oF (by omega)
      subst e6
      obtain ⟨q9, y9⟩ : ∃ y, W4.cell? ⟨g6, 0, none⟩ = some y := by
        obtain ⟨b, o, z', e, hb2, Hz, hc⟩ := Sees.int (k := 0) (OwnI.sees oF) (by rw [HL5.out]; omega)
        injection e with e
        injection e with e1 e2
        subst e1 e2
        exact ⟨_, hc⟩
      have f9 := hb6.frozen 0
      have hi5 : (1 : Int) ≤ (i5 : Int) := by omega
      go_wp2_with fail
      go_meet
      have o9 : OwnI (W4.setCell ⟨g6, 0, none⟩ (.int .i64 (250 + a2))) W1.heap.size (.slice (some ⟨g6, 0, none⟩) i5 j5) i5 (P.fix.set 0 (250 + a2)) := OwnI.set oF (by omega) _
      have far := fun v M (hv : SetAt W4 W4.heap.size v M) => (show SetAt (W4.setCell ⟨g6, 0, none⟩ (.int .i64 (250 + a2))) (W4.setCell ⟨g6, 0, none⟩ (.int .i64 (250 + a2))).heap.size v M by rw [setCell_size]; exact hv.far hb6 (by decide))
      have H9 : HoldP (W4.setCell ⟨g6, 0, none⟩ (.int .i64 (250 + a2))) W1.heap.size W2.heap.size ⟨⟨E1, i1, j1⟩, ⟨E2, i2, j2⟩, ⟨E3, i3, j3⟩, ⟨E4, i4, j4⟩, ⟨some ⟨g6, 0, none⟩, i5, j5⟩⟩ ⟨P.elig, P.dif, P.sam, P.mst, P.fix.set 0 (250 + a2)⟩ xs ms :=
        ⟨ownsRow_setCell_other H4.out.o1 (a := ⟨g6, 0, none⟩) (own_off H4.out.o1 hb6 (by decide)) _, ownsRow_setCell_other H4.out.o2 (a := ⟨g6, 0, none⟩) (own_off H4.out.o2 hb6 (by decide)) _, ownsRow_setCell_other H4.out.o3 (a := ⟨g6, 0, none⟩) (own_off H4.out.o3 hb6 (by decide)) _, ownsRow_setCell_other H4.out.o4 (a := ⟨g6, 0, none⟩) (own_off H4.out.o4 hb6 (by decide)) _, o9, H4.out.x1,
          fun i M hi => by obtain ⟨X, e, h⟩ := H4.out.s1 i M hi; exact ⟨X, e, far _ _ h⟩, H4.out.x4, fun i x hi => by obtain ⟨m, e1, e2, h⟩ := H4.out.s4 i x hi; exact ⟨m, e1, e2, far _ _ h⟩, k4.far (p := ⟨g6, 0, none⟩) (k4.apart hb6 (by decide)) _, H4.out.b1, H4.out.b2, H4.out.b3, H4.out.b4, H4.out.b5⟩
      exact ⟨_, _, H9.blk, H9.at, SM.out, b4.setCell (p := ⟨g6, 0, none⟩) (Nat.le_trans hz1 hg6) _⟩
    · obtain ⟨i0, hi0, hz0, hzs, hzb⟩ := info_parts pair_info
      have hib : i3 ≤ 4 := by have h9 := (hPB W4 (Below.refl _ _)).l3; simp only at h9; rw [← h9]; exact MF.out.s1
      have oA := World.ownsRow.alloc H4.out.o3 (.cells #[.int .i64 (t : Int), .int .i64 0] 66)
      have kA := k4.alloc (.cells #[.int .i64 (t : Int), .int .i64 0] 66)
      have hzA : W1.heap.size ≤ W4.heap.size := by have := hz12; omega
      go_wp2_with (at_builtin; refine wpList_append_sees _ rfl (.tmp 28) (.tmp 33) _ rfl W1.heap.size _ i0 _ 2 16 Tryd.underlying28 hi0 hz0 hzs hzb rfl (by omega) _ i3 _ rfl oA _ (some ⟨W4.heap.size, 0, none⟩) 1 1 [.int .i64 (t : Int), .int .i64 0] rfl (by simp) (Sees.laid W4 #[.int .i64 (t : Int), .int .i64 0] 66 (0, 0) _ rfl _ rfl) (by simp [Value.oneCell']) (by unfold maxLen; omega) (by omega) (by simp; omega) (i3 + 1) (by omega) _ rfl ?_; intro A9 c9 w9 o9 g9 _; have hb9 := kA.grown g9 (own_off oA kA (by decide)); have y9 : w9.cell? ⟨W2.heap.size, 2, none⟩ = some (.slice E3 i3 j3) := (hb9.cell 2).trans rfl; have f9 := hb9.frozen 2)
      go_meet
      have H9 := HoldP.add3 (H4.out.on (bAl (Below.refl _ _) _)) hap o9 g9 (by omega)
      have b9 : Below W1.heap.size W4 w9 := below_app ((Below.refl W1.heap.size W4).alloc hzA _) (by simp; omega) oA g9
      exact ⟨_, _, H9.blk, H9.at, SM.out, (b4.trans (b9.mono hz1)).setCell (p := ⟨W2.heap.size, 2, none⟩) hz2 _⟩
  case rest =>
    obtain ⟨⟨⟨E1, i1, j1⟩, ⟨E2, i2, j2⟩, ⟨E3, i3, j3⟩, ⟨E4, i4, j4⟩, ⟨E5, i5, j5⟩⟩, P', hS⟩ := hcut
    have b5 := hS.bel
    have k5 := hS.blk
    have hQ5 := hS.pr
    have sm' := hS.sm
    have hck := fun W (h1 : PrAt W W.heap.size ⟨⟨E1, i1, j1⟩, ⟨E2, i2, j2⟩, ⟨E3, i3, j3⟩, ⟨E4, i4, j4⟩, ⟨E5, i5, j5⟩⟩ P') => chkP_any ⟨⟨E1, i1, j1⟩, ⟨E2, i2, j2⟩, ⟨E3, i3, j3⟩, ⟨E4, i4, j4⟩, ⟨E5, i5, j5⟩⟩ P' W h1
    have hsv := fun W (hW : Below w.heap.size w W) (h1 : PrAt W W.heap.size ⟨⟨E1, i1, j1⟩, ⟨E2, i2, j2⟩, ⟨E3, i3, j3⟩, ⟨E4, i4, j4⟩, ⟨E5, i5, j5⟩⟩ P') => solve_any ⟨⟨E1, i1, j1⟩, ⟨E2, i2, j2⟩, ⟨E3, i3, j3⟩, ⟨E4, i4, j4⟩, ⟨E5, i5, j5⟩⟩ P' 0 W h1 (hT.below hW hg0) (fun _ => sm')
    have hcn := fun W (hW : Below w.heap.size w W) (h1 : PrAt W W.heap.size ⟨⟨E1, i1, j1⟩, ⟨E2, i2, j2⟩, ⟨E3, i3, j3⟩, ⟨E4, i4, j4⟩, ⟨E5, i5, j5⟩⟩ P') => count_any ⟨⟨E1, i1, j1⟩, ⟨E2, i2, j2⟩, ⟨E3, i3, j3⟩, ⟨E4, i4, j4⟩, ⟨E5, i5, j5⟩⟩ P' 100000 W h1 (hT.below hW hg0) (fun _ => sm')
    have hpo := fun W (hW : Below w.heap.size w W) (h1 : PrAt W W.heap.size ⟨⟨E1, i1, j1⟩, ⟨E2, i2, j2⟩, ⟨E3, i3, j3⟩, ⟨E4, i4, j4⟩, ⟨E5, i5, j5⟩⟩ P') => possible_any ⟨⟨E1, i1, j1⟩, ⟨E2, i2, j2⟩, ⟨E3, i3, j3⟩, ⟨E4, i4, j4⟩, ⟨E5, i5, j5⟩⟩ P' W h1 (hT.below hW hg0) (fun _ => sm')
    have hcr := fun W (hW : Below w.heap.size w W) (h1 : PrAt W W.heap.size ⟨⟨E1, i1, j1⟩, ⟨E2, i2, j2⟩, ⟨E3, i3, j3⟩, ⟨E4, i4, j4⟩, ⟨E5, i5, j5⟩⟩ P') => critical_any ⟨⟨E1, i1, j1⟩, ⟨E2, i2, j2⟩, ⟨E3, i3, j3⟩, ⟨E4, i4, j4⟩, ⟨E5, i5, j5⟩⟩ P' W h1 (hT.below hW hg0) (fun _ => sm')
    obtain ⟨he, hno⟩ := solve_e P'
    have hce := count_e sm'
    have hpe := Lib.hid (@poss_e P')
    unfold SolvePost at hsv
    unfold PrV.v Sl.v at hck hsv hcn hpo hcr
    simp only [Sl.v] at hck hsv hcn hpo hcr k5
    rw [he] at hsv
    rw [hce] at hcn
    obtain ⟨z, hz⟩ : ∃ z, Hid (z = chkP P') := ⟨_, Lib.hid rfl⟩
    rw [← hz.out] at hck hsv hcn hno hpe
    obtain ⟨bs, hbs⟩ : ∃ bs, (solveR P' 0).1.isSome = bs := ⟨_, rfl⟩
    rw [hbs] at hsv
    have hbz : z ≠ 0 → bs = false := fun h => by rw [← hbs, hno h]; rfl
    clear hS he hce hno hbs sm'
    have x0 : wc.cell? ⟨W2.heap.size, 0, none⟩ = some (.slice E1 i1 j1) := (k5.cell 0).trans rfl
    have x1 : wc.cell? ⟨W2.heap.size, 1, none⟩ = some (.slice E2 i2 j2) := (k5.cell 1).trans rfl
    have x2 : wc.cell? ⟨W2.heap.size, 2, none⟩ = some (.slice E3 i3 j3) := (k5.cell 2).trans rfl
    have x3 : wc.cell? ⟨W2.heap.size, 3, none⟩ = some (.slice E4 i4 j4) := (k5.cell 3).trans rfl
    have x4 : wc.cell? ⟨W2.heap.size, 4, none⟩ = some (.slice E5 i5 j5) := (k5.cell 4).trans rfl
    have hck := hck wc hQ5
    go_wp2_with fail
    refine hck.mono ?_
    rintro e W6 ⟨rfl, b6⟩
    have hQ6 := hQ5.on b6
    have k6 := k5.on b6
    have b6 := b5.trans (b6.mono b5.size)
    clear x0 x1 x2 x3 x4 k5 hQ5 hck b5
    have x0 : W6.cell? ⟨W2.heap.size, 0, none⟩ = some (.slice E1 i1 j1) := (k6.cell 0).trans rfl
    have x1 : W6.cell? ⟨W2.heap.size, 1, none⟩ = some (.slice E2 i2 j2) := (k6.cell 1).trans rfl
    have x2 : W6.cell? ⟨W2.heap.size, 2, none⟩ = some (.slice E3 i3 j3) := (k6.cell 2).trans rfl
    have x3 : W6.cell? ⟨W2.heap.size, 3, none⟩ = some (.slice E4 i4 j4) := (k6.cell 3).trans rfl
    have x4 : W6.cell? ⟨W2.heap.size, 4, none⟩ = some (.slice E5 i5 j5) := (k6.cell 4).trans rfl
    have hsv := hsv W6 b6 hQ6
    go_wp2_with fail
    refine hsv.mono ?_
    rintro e W7 ⟨Al, nl, cl, An, nn, cn, rfl, _, _, b7⟩
    go_upto_region 18 with (fail)
    have bA := bAl b7 (.cells #[.slice An nn cn] 46)
    generalize (W7.alloc (.cells #[.slice An nn cn] 46)) = W8 at bA ⊢
    have hQ8 := hQ6.on bA
    have k8 := k6.on bA
    have b8 := b6.trans (bA.mono b6.size)
    clear x0 x1 x2 x3 x4 k6 hQ6 hsv b6 b7 bA
    have x0 : W8.cell? ⟨W2.heap.size, 0, none⟩ = some (.slice E1 i1 j1) := (k8.cell 0).trans rfl
    have x1 : W8.cell? ⟨W2.heap.size, 1, none⟩ = some (.slice E2 i2 j2) := (k8.cell 1).trans rfl
    have x2 : W8.cell? ⟨W2.heap.size, 2, none⟩ = some (.slice E3 i3 j3) := (k8.cell 2).trans rfl
    have x3 : W8.cell? ⟨W2.heap.size, 3, none⟩ = some (.slice E4 i4 j4) := (k8.cell 3).trans rfl
    have x4 : W8.cell? ⟨W2.heap.size, 4, none⟩ = some (.slice E5 i5 j5) := (k8.cell 4).trans rfl
    have hcn := hcn W8 b8 hQ8
    go_wp2_with fail
    refine hcn.mono ?_
    rintro e W9 ⟨rfl, b9⟩
    have hQ9 := hQ8.on b9
    have k9 := k8.on b9
    have b9 := b8.trans (b9.mono b8.size)
    clear x0 x1 x2 x3 x4 k8 hQ8 hcn b8
    have x0 : W9.cell? ⟨W2.heap.size, 0, none⟩ = some (.slice E1 i1 j1) := (k9.cell 0).trans rfl
    have x1 : W9.cell? ⟨W2.heap.size, 1, none⟩ = some (.slice E2 i2 j2) := (k9.cell 1).trans rfl
    have x2 : W9.cell? ⟨W2.heap.size, 2, none⟩ = some (.slice E3 i3 j3) := (k9.cell 2).trans rfl
    have x3 : W9.cell? ⟨W2.heap.size, 3, none⟩ = some (.slice E4 i4 j4) := (k9.cell 3).trans rfl
    have x4 : W9.cell? ⟨W2.heap.size, 4, none⟩ = some (.slice E5 i5 j5) := (k9.cell 4).trans rfl
    by_cases hz0 : z = 0
    · have hzt : decide (z = 0) = true := by simpa using hz0
      clear hpe hbz
      subst hz0
      go_wp2_with fail
      go_ret
      exact ⟨rfl, b9⟩
    · have hzf : (z == 0) = false := by simpa using hz0
      obtain rfl : bs = false := hbz hz0
      obtain ⟨hp0, hc0⟩ := hpe.out hz0
      rw [hp0] at hpo
      rw [hc0] at hcr
      have hpo := hpo W9 b9 hQ9
      clear hpe hbz hz
      go_wp2_with fail
      refine hpo.mono ?_
      rintro e W10 ⟨A10, n10, c10, rfl, o10, b10⟩
      obtain rfl : 0 = n10 := o10.len
      have hQ10 := hQ9.on b10
      have k10 := k9.on b10
      have b10 := b9.trans (b10.mono b9.size)
      clear x0 x1 x2 x3 x4 k9 hQ9 hpo b9 o10
      have x0 : W10.cell? ⟨W2.heap.size, 0, none⟩ = some (.slice E1 i1 j1) := (k10.cell 0).trans rfl
      have x1 : W10.cell? ⟨W2.heap.size, 1, none⟩ = some (.slice E2 i2 j2) := (k10.cell 1).trans rfl
      have x2 : W10.cell? ⟨W2.heap.size, 2, none⟩ = some (.slice E3 i3 j3) := (k10.cell 2).trans rfl
      have x3 : W10.cell? ⟨W2.heap.size, 3, none⟩ = some (.slice E4 i4 j4) := (k10.cell 3).trans rfl
      have x4 : W10.cell? ⟨W2.heap.size, 4, none⟩ = some (.slice E5 i5 j5) := (k10.cell 4).trans rfl
      have hcr := hcr W10 b10 hQ10
      go_wp2_with fail
      refine hcr.mono ?_
      rintro e W11 ⟨A11, n11, c11, rfl, o11, b11⟩
      obtain rfl : 0 = n11 := o11.len
      have b11 := b10.trans (b11.mono b10.size)
      clear x0 x1 x2 x3 x4
      go_wp2_with fail
      go_ret
      exact ⟨rfl, b11⟩
end Go.Proofs.YtfnhaoindehjdaaDoor.staffingRefuses
