/- The walk of visit. (genst.py) -/
import Derived.Test.YtfnhaoindehjdaaDoorStD
import Derived.Test.YtfnhaoindehjdaaDoorPf
import Derived.Deep.RegionHeld3
import Derived.Deep.QuietTactic
import Derived.BigQuiet
import Derived.StillTailTactics
import Derived.Deep.CutRange
import Derived.Deep.RegionWith
namespace Go.Proofs.YtfnhaoindehjdaaDoor
open Go.RowKit
set_option linter.unusedVariables false
set_option linter.unusedSimpArgs false

theorem sch_cells {w : World} {g t : Nat} {a0 a1 a2 a3 a4 a5 a6 a7 a8 a9 : Value} (h : Blk w g t #[a0, a1, a2, a3, a4, a5, a6, a7, a8, a9]) :
    w.cell? ⟨g, 0, none⟩ = some a0 ∧ w.cell? ⟨g, 1, none⟩ = some a1 ∧ w.cell? ⟨g, 2, none⟩ = some a2 ∧ w.cell? ⟨g, 3, none⟩ = some a3 ∧ w.cell? ⟨g, 4, none⟩ = some a4 ∧ w.cell? ⟨g, 5, none⟩ = some a5 ∧ w.cell? ⟨g, 6, none⟩ = some a6 ∧ w.cell? ⟨g, 7, none⟩ = some a7 ∧ w.cell? ⟨g, 8, none⟩ = some a8 ∧ w.cell? ⟨g, 9, none⟩ = some a9 :=
  ⟨(h.cell 0).trans rfl, (h.cell 1).trans rfl, (h.cell 2).trans rfl, (h.cell 3).trans rfl, (h.cell 4).trans rfl, (h.cell 5).trans rfl, (h.cell 6).trans rfl, (h.cell 7).trans rfl, (h.cell 8).trans rfl, (h.cell 9).trans rfl⟩
theorem Sch.nodeCells {σ : Type} {EI : σ → World → Prop} {p : PrV} {P : Pr} {limit : Nat} {fE : Value} {B N g gs cS : Nat} {w : World} {st : List Int} {gr n c i : Nat} {ys : List NdS} {s : VS σ} (h : Sch EI p P limit fE B N g gs cS w st ⟨some ⟨gr, 0, none⟩, n, c⟩ ys s) (hi : i < n) :
    (∃ a0 a1 a2 a3, w.cell? ⟨gr, i * 4, none⟩ = some a0 ∧ w.cell? ⟨gr, i * 4 + 1, none⟩ = some a1 ∧ w.cell? ⟨gr, i * 4 + 2, none⟩ = some a2 ∧ w.cell? ⟨gr, i * 4 + 3, none⟩ = some a3) ∧ ∃ cs, Blk w gr 103 cs := by
  have hrow : w.ownsRow B 103 4 (.slice (some ⟨gr, 0, none⟩) n c) n (ys.flatMap (NdS.cs .u8)) := h.row
  obtain ⟨g', cs, e, hBg, hb⟩ := own_blk hrow (by omega)
  injection e with e
  injection e with e _ _
  subst e
  have hl := h.len
  have hiy : i < ys.length := by rw [hl]; exact hi
  have hO : OwnNs .u8 103 w 0 (.slice (some ⟨gr, 0, none⟩) n c) n ys := ⟨own_less hrow (Nat.zero_le _), fun y hy => (h.nd y hy).less (Nat.zero_le _)⟩
  obtain ⟨b9, o9, e9, _, q0, q1, q2, q3⟩ := hO.get (List.getElem?_eq_getElem hiy)
  injection e9 with e9
  injection e9 with e91 e92 _
  subst e91 e92
  simp only [Nat.zero_add] at q0 q1 q2 q3
  exact ⟨⟨_, _, _, _, q0, q1, q2, q3⟩, _, hb⟩
theorem Sch.staffCell {σ : Type} {EI : σ → World → Prop} {p : PrV} {P : Pr} {limit : Nat} {fE : Value} {B N g gs cS : Nat} {w : World} {st : List Int} {sl : Sl} {z : Nat} {ys : List NdS} {s : VS σ} (h : Sch EI p P limit fE B N g gs cS w st sl ys s) (hz : z < st.length) :
    (∃ y, w.cell? ⟨gs, z, none⟩ = some y) ∧ w.frozen? ⟨gs, z, none⟩ = false := by
  obtain ⟨cs, hb, _⟩ := own_type h.stf rfl
  obtain ⟨b, o, z', e, hb2, Hz, hc⟩ := Sees.int (k := z) (OwnI.sees h.stf) hz
  injection e with e
  injection e with e1 e2
  subst e1 e2
  rw [Nat.zero_add] at hc
  exact ⟨⟨_, hc⟩, hb.frozen z⟩
theorem ret_t4 {fn : Func} {R : Ending → World → Prop} {a : Act} {w : World} {q : Tmp} {v : Value} (h : fn.results = #[.tmp q]) (hp : a.tmps.getD q undef = v) (hd : a.defers = []) (hR : R (.returned v) w) : bodyPost Tryd.prog fn R .ret a w :=
  bodyPost_ret (v := v) (by rw [results_tmp h, hp]) hd hR
theorem set_back {st : List Int} {z : Nat} (h0 : atI st z = 0) (hz : z < st.length) (v : Int) : (st.set z v).set z 0 = st := by
  rw [List.set_set]
  refine List.ext_getElem? fun i => ?_
  by_cases hi : i = z
  · subst hi
    rw [List.getElem?_set_self hz, List.getElem?_eq_getElem hz]
    unfold atI at h0
    rw [List.getElem?_eq_getElem hz] at h0
    exact congrArg some h0.symm
  · rw [List.getElem?_set_ne (Ne.symm hi)]
theorem vis_split : visBody = .seq (headC visBody) (.seq (visPart 1) (.seq (visPart 2) (.seq (visPart 3) (.seq (visPart 4) (.seq (visPart 5) (.seq (visPart 6) (.seq (visPart 7) (.seq (visPart 8) (.seq (visPart 9) (tailC 10 visBody)))))))))) := by kernel_rfl
/-- What the search asks of its caller. -/
structure CallerOk {σ : Type} (live : σ → Prop) (EI : σ → World → Prop) (each : σ → List Int → Bool × σ) (kf g1 g2 B N g gs : Nat) : Prop where
  keep : ∀ s w w', live s → EI s w → Kept w w' N g gs → EI s w'
  ent : ∀ args w, (callFunc kf args).run Tryd.prog w = .ok (.enter kf args) w
  alive : ∀ s l, (each s l).1 = false → live (each s l).2
  call : ∀ (s : σ) (w : World) (A : Option Addr) (n c : Nat) (l : List Int), live s → EI s w → N ≤ w.heap.size → OwnI w N (.slice A n c) n l → n ≤ 10 →
    Calls Tryd.prog kf #[.slice A n c, .pointer (some ⟨g1, 0, none⟩), .pointer (some ⟨g2, 0, none⟩)] w fun e w' => e = .returned (.bool (each s l).1) ∧ EI (each s l).2 w' ∧ Each w w' B N g gs
set_option maxHeartbeats 16000000 in
set_option maxRecDepth 100000 in
theorem visit_step {σ : Type} {live : σ → Prop} {EI : σ → World → Prop} {each : σ → List Int → Bool × σ} {kf g1 g2 B N g gs cS limit : Nat} {p : PrV} {P : Pr} (hK : CallerOk live EI each kf g1 g2 B N g gs) (hc : chkP P = 0)
    (rec : List Int → Nat → VS σ → Bool × VS σ) (b K : Nat) (st : List Int) (hst : st.length = P.elig.length) (hEl : ∀ z : Nat, (memZ (eligA P z)).length ≤ K)
    (hge : ∀ st node s, s.nds.length ≤ (rec st node s).2.nds.length)
    (hle : ∀ z, idx0 st = some z → ∀ u ∈ memZ (eligA P z), ∀ node s, (rec (st.set z u) node s).2.nds.length ≤ s.nds.length + b ∧ (rec (st.set z u) node s).2.looked ≤ s.looked + 1 + b)
    (hf : ∀ z, idx0 st = some z → ∀ u ∈ memZ (eligA P z), VisOk live EI p P limit (.func (.func kf) #[] #[.pointer (some ⟨g1, 0, none⟩), .pointer (some ⟨g2, 0, none⟩)]) B N g gs cS b rec (st.set z u)) :
    VisOk live EI p P limit (.func (.func kf) #[] #[.pointer (some ⟨g1, 0, none⟩), .pointer (some ⟨g2, 0, none⟩)]) B N g gs cS (K + K * b) (visitB P limit each rec) st := by
  intro node s w sl ys hnode hb1 hb2 hlv h
  obtain ⟨slA, sln, slc⟩ := sl
  have hsz : s.nds.length = sln := h.size
  have hnl : node < sln := by omega
  obtain ⟨gr, csr, hgr, hBgr, _⟩ := own_blk (show w.ownsRow B 103 4 (.slice slA sln slc) sln _ from h.row) (by omega)
  subst hgr
  obtain ⟨fE, hfE⟩ : ∃ v : Value, v = .func (.func kf) #[] #[.pointer (some ⟨g1, 0, none⟩), .pointer (some ⟨g2, 0, none⟩)] := ⟨_, rfl⟩
  rw [← hfE] at hf h ⊢
  have HE := Lib.hid hK.keep
  have ec : ((s.looked + 1 : Nat) : Int) = (s.looked : Int) + 1 := by omega
  have h1 := h.look HE.out hlv (s.looked + 1)
  have m1 : MvB w (w.setCell ⟨g, 7, none⟩ (.int .i64 ((s.looked + 1 : Nat) : Int))) B N (some gr) := (MvB.refl w B N _).set h.gB h.gN _
  have hfull := full_any g limit (s.looked + 1) (w.setCell ⟨g, 7, none⟩ (.int .i64 ((s.looked + 1 : Nat) : Int))) ((h1.blk.cell 7).trans rfl) ((h1.blk.cell 8).trans rfl)
  rw [ec] at h1 m1 hfull
  have y7 : w.cell? ⟨g, 7, none⟩ = some (.int .i64 (s.looked : Int)) := (h.blk.cell 7).trans rfl
  have f7 := h.blk.frozen 7
  have hlk : (s.looked : Int) ≤ 1000000 := by omega
  have HLV := Lib.hid hlv
  by_cases hfu : fullB limit (s.looked + 1) = true
  · have e : visitB P limit each rec st node s = (true, ⟨s.nds, s.looked + 1, s.s⟩) := by unfold visitB; rw [if_pos hfu]
    rw [e]
    rw [hfu] at hfull
    have H1 := Lib.hid h1
    have M1 := Lib.hid m1
    have HV := Lib.hid hfull
    clear e hfu hfull h1 m1 h hf hle hge hK hfE hb1 hb2 hst hEl hnode hlv
    go_enter Tryd.func40, Tryd.ntmps40
    go_upto_region 2 with fail
    generalize (w.setCell ⟨g, 7, none⟩ (.int .i64 ((s.looked : Int) + 1))) = W1 at H1 M1 HV ⊢
    have hv := HV.out
    clear y7 f7 HV
    go_wp2_with fail
    refine hv.mono ?_
    rintro e W2' ⟨rfl, qd, rfl⟩
    have H2 := Lib.hid (H1.out.below HE.out HLV.out (below_drewN (Below.refl _ W1) qd))
    have M2 := Lib.hid (M1.out.belowW ((below_drewN (Below.refl _ W1) qd).mono M1.out.size))
    generalize W1.drewN qd = W2 at H2 M2 ⊢
    clear hv H1 M1 ec hlk
    go_wp2_with fail
    go_ret
    exact ⟨rfl, st, _, ys, H2.out, fun e => (by cases e), M2.out, NewR.refl _ _⟩
  · have hfu' : fullB limit (s.looked + 1) = false := by simpa using hfu
    rw [hfu'] at hfull
    have hn0 : st.length ≤ 10 := by rw [hst]; exact (chkP_ok hc).n10
    have hbr := fun (W : World) (hW : Sch EI p P limit fE B N g gs cS W st ⟨some ⟨gr, 0, none⟩, sln, slc⟩ ys ⟨s.nds, s.looked + 1, s.s⟩) => Broken_any p P (some ⟨gs, 0, none⟩) st.length cS st W (hW.pr.more (by have := hW.nw; have := hW.gB; have := hW.gN; omega)) (OwnI.sees hW.stf) rfl (by omega) hW.tab
    by_cases hb : BrokenB P st = true
    · have e : visitB P limit each rec st node s = (false, ⟨s.nds.set node ⟨2, 0, [], []⟩, s.looked + 1, s.s⟩) := by unfold visitB; rw [if_neg hfu, if_pos hb]
      rw [e]
      rw [hb] at hbr
      have H1 := Lib.hid h1
      have M1 := Lib.hid m1
      have HV := Lib.hid hfull
      have HB := Lib.hid hbr
      have Hnd := Lib.hid hnode
      clear e hfu hfu' hfull h1 m1 h hf hle hge hK hfE hb1 hb2 hst hEl hnode hlv hbr hb
      go_enter Tryd.func40, Tryd.ntmps40
      go_upto_region 2 with fail
      generalize (w.setCell ⟨g, 7, none⟩ (.int .i64 ((s.looked : Int) + 1))) = W1 at H1 M1 HV ⊢
      have hv := HV.out
      clear y7 f7 HV
      go_wp2_with fail
      refine hv.mono ?_
      rintro e W2' ⟨rfl, qd, rfl⟩
      have H2 := Lib.hid (H1.out.below HE.out HLV.out (below_drewN (Below.refl _ W1) qd))
      have M2 := Lib.hid (M1.out.belowW ((below_drewN (Below.refl _ W1) qd).mono M1.out.size))
      generalize W1.drewN qd = W2 at H2 M2 ⊢
      clear hv H1 M1 ec hlk
      obtain ⟨x0, x1, x2, x3, x4, x5, x6, x7, x8, x9⟩ := sch_cells H2.out.blk
      go_wp2_with fail
      go_still_tail 8, (by kernel_rfl)
      change wpList _ _ _ _ _ W2.drew
      have H3 := Lib.hid (H2.out.below HE.out HLV.out (Below.refl _ W2).drew)
      have M3 := Lib.hid (M2.out.belowW (((Below.refl _ W2).drew).mono M2.out.size))
      generalize W2.drew = W3 at H3 M3 ⊢
      have hb3 := HB.out W3 H3.out
      clear x0 x1 x2 x3 x4 x5 x6 x7 x8 x9 H2 M2 HB
      go_wp2_with fail
      refine hb3.mono ?_
      rintro e W4 ⟨rfl, b4⟩
      have H4 := Lib.hid (H3.out.below HE.out HLV.out b4)
      have M4 := Lib.hid (M3.out.belowW (b4.mono M3.out.size))
      clear hb3 b4 H3 M3
      obtain ⟨⟨q0, q1, q2, q3, z0, z1, z2, z3⟩, csb, hbk⟩ := H4.out.nodeCells hnl
      have f0 := hbk.frozen (node * 4)
      have f1 := hbk.frozen (node * 4 + 1)
      have f2 := hbk.frozen (node * 4 + 2)
      have f3 := hbk.frozen (node * 4 + 3)
      have x6 : W4.cell? ⟨g, 6, none⟩ = some (.slice (some ⟨gr, 0, none⟩) sln slc) := (H4.out.blk.cell 6).trans rfl
      have hni : (node : Int) < (sln : Int) := by omega
      clear hbk
      go_wp2_with fail
      have H5 := H4.out.store (sl := ⟨none, sln, slc⟩) HE.out HLV.out hnl (y := ⟨⟨2, 0, [], []⟩, ⟨none, 0, 0⟩, ⟨none, 0, 0⟩⟩) ⟨by show 2 < 256; omega, OwnI.nil _ _, OwnI.nil _ _, by show 0 ≤ 1000000; omega, by show 0 ≤ 1000000; omega⟩
      have M5 := M4.out.set4 (gr := gr) (o := node * 4) (.inl rfl) (.int .u8 ((2 : Nat) : Int)) (.int .i64 0) (.slice none 0 0) (.slice none 0 0)
      go_ret
      exact ⟨rfl, st, _, _, H5, fun _ => ⟨rfl, HLV.out⟩, M5, NewR.refl _ _⟩
    · have hb' : BrokenB P st = false := by simpa using hb
      rw [hb'] at hbr
      cases hz : idx0 st with
      | none =>
        have e : visitB P limit each rec st node s = ((each s.s st).1, ⟨s.nds, s.looked + 1, (each s.s st).2⟩) := by unfold visitB; rw [if_neg hfu, if_neg hb, hz]
        rw [e]
        subst hfE
        have hix := fun (W : World) (hW : Sch EI p P limit (.func (.func kf) #[] #[.pointer (some ⟨g1, 0, none⟩), .pointer (some ⟨g2, 0, none⟩)]) B N g gs cS W st ⟨some ⟨gr, 0, none⟩, sln, slc⟩ ys ⟨s.nds, s.looked + 1, s.s⟩) => idx0_any (some ⟨gs, 0, none⟩) st.length cS st W (OwnI.sees hW.stf) rfl (by omega)
        rw [hz] at hix
        simp only [idxV] at hix
        have H1 := Lib.hid h1
        have M1 := Lib.hid m1
        have HV := Lib.hid hfull
        have HB := Lib.hid hbr
        have HX := Lib.hid hix
        have HK := Lib.hid hK
        have Hn10 := Lib.hid hn0
        clear e hfu hfu' hfull h1 m1 h hf hle hge hK hb1 hb2 hst hEl hnode hlv hbr hb hb' hz hix hn0
        go_enter Tryd.func40, Tryd.ntmps40
        go_upto_region 2 with fail
        generalize (w.setCell ⟨g, 7, none⟩ (.int .i64 ((s.looked : Int) + 1))) = W1 at H1 M1 HV ⊢
        have hv := HV.out
        clear y7 f7 HV
        go_wp2_with fail
        refine hv.mono ?_
        rintro e W2' ⟨rfl, qd, rfl⟩
        have H2 := Lib.hid (H1.out.below HE.out HLV.out (below_drewN (Below.refl _ W1) qd))
        have M2 := Lib.hid (M1.out.belowW ((below_drewN (Below.refl _ W1) qd).mono M1.out.size))
        generalize W1.drewN qd = W2 at H2 M2 ⊢
        clear hv H1 M1 ec hlk
        obtain ⟨x0, x1, x2, x3, x4, x5, x6, x7, x8, x9⟩ := sch_cells H2.out.blk
        go_wp2_with fail
        go_still_tail 8, (by kernel_rfl)
        change wpList _ _ _ _ _ W2.drew
        have H3 := Lib.hid (H2.out.below HE.out HLV.out (Below.refl _ W2).drew)
        have M3 := Lib.hid (M2.out.belowW (((Below.refl _ W2).drew).mono M2.out.size))
        generalize W2.drew = W3 at H3 M3 ⊢
        have hb3 := HB.out W3 H3.out
        clear x0 x1 x2 x3 x4 x5 x6 x7 x8 x9 H2 M2 HB
        go_wp2_with fail
        refine hb3.mono ?_
        rintro e W4 ⟨rfl, b4⟩
        have H4 := Lib.hid (H3.out.below HE.out HLV.out b4)
        have M4 := Lib.hid (M3.out.belowW (b4.mono M3.out.size))
        clear hb3 b4 H3 M3
        have x5 : W4.cell? ⟨g, 5, none⟩ = some (.slice (some ⟨gs, 0, none⟩) st.length cS) := (H4.out.blk.cell 5).trans rfl
        have hx := HX.out W4 H4.out
        go_wp2_with fail
        refine hx.mono ?_
        rintro e W5 ⟨rfl, rfl⟩
        have x9 : W4.cell? ⟨g, 9, none⟩ = some (.func (.func kf) #[] #[.pointer (some ⟨g1, 0, none⟩), .pointer (some ⟨g2, 0, none⟩)]) := (H4.out.blk.cell 9).trans rfl
        clear hx
        go_wp2_with fail
        have H5 := Lib.hid (H4.out.below HE.out HLV.out (Below.refl _ W4).drew)
        have M5 := Lib.hid (M4.out.belowW (((Below.refl _ W4).drew).mono M4.out.size))
        have bx : ∀ W : World, Sch EI p P limit (.func (.func kf) #[] #[.pointer (some ⟨g1, 0, none⟩), .pointer (some ⟨g2, 0, none⟩)]) B N g gs cS W st ⟨some ⟨gr, 0, none⟩, sln, slc⟩ ys ⟨s.nds, s.looked + 1, s.s⟩ → W.cell? ⟨g, 9, none⟩ = some (.func (.func kf) #[] #[.pointer (some ⟨g1, 0, none⟩), .pointer (some ⟨g2, 0, none⟩)]) ∧ W.cell? ⟨g, 5, none⟩ = some (.slice (some ⟨gs, 0, none⟩) st.length cS) := fun W h => ⟨(h.blk.cell 9).trans rfl, (h.blk.cell 5).trans rfl⟩
        have bx' : ∀ (W : World) (s' : σ), Sch EI p P limit (.func (.func kf) #[] #[.pointer (some ⟨g1, 0, none⟩), .pointer (some ⟨g2, 0, none⟩)]) B N g gs cS W st ⟨some ⟨gr, 0, none⟩, sln, slc⟩ ys ⟨s.nds, s.looked + 1, s'⟩ → W.cell? ⟨g, 9, none⟩ = some (.func (.func kf) #[] #[.pointer (some ⟨g1, 0, none⟩), .pointer (some ⟨g2, 0, none⟩)]) ∧ W.cell? ⟨g, 5, none⟩ = some (.slice (some ⟨gs, 0, none⟩) st.length cS) := fun W s' h => ⟨(h.blk.cell 9).trans rfl, (h.blk.cell 5).trans rfl⟩
        have hcl := cloneI_any (some ⟨gs, 0, none⟩) st.length cS st W4.drew (OwnI.sees H5.out.stf) rfl (by have := Hn10.out; omega)
        have hca := Lib.hid HK.out.call
        have hent := HK.out.ent
        clear H4 M4 x5 x9
        rename_i zz1
        go_region_held3 (fun w' => w'.cell? ⟨g, 9, none⟩ = some (.func (.func kf) #[] #[.pointer (some ⟨g1, 0, none⟩), .pointer (some ⟨g2, 0, none⟩)]) ∧ w'.cell? ⟨g, 5, none⟩ = some (.slice (some ⟨gs, 0, none⟩) st.length cS))
          (first | exact bx' W7 _ H7 | exact bx W6 H6 | exact bx _ H5.out)
          (first
            | (go_at_call 24; refine hcl.mono ?_; rintro e W6 ⟨A6, c6, rfl, o6, b6⟩; have H6 := H5.out.below HE.out HLV.out b6)
            | (go_simp; refine (hca.out s.s W6 A6 st.length c6 st HLV.out H6.ei H6.nw (OwnI.more o6 H5.out.nw) Hn10.out).mono ?_; rintro e W7 ⟨rfl, i7, e7⟩; have H7 := H6.each e7 i7))
        have M7 := M5.out.trans (v := .slice (some ⟨gr, 0, none⟩) sln slc) (NewR.refl _ _) ((MvB.ofBelow b6 B N (some gr)).trans (v := .slice (some ⟨gr, 0, none⟩) sln slc) (NewR.refl _ _) (e7.mv (some gr)))
        have halv := HK.out.alive s.s st
        clear hent hca hcl bx bx' i7 e7 b6 H6 o6
        go_wp2_with fail
        go_ret
        exact ⟨rfl, st, _, ys, H7, fun e => ⟨rfl, halv e⟩, M7, NewR.refl _ _⟩
      | some z =>
        obtain ⟨z1, z2, _⟩ := idx0_some hz
        have e : visitB P limit each rec st node s = visitL rec st z (memZ (eligA P z)) s.nds.length (laidB P node z ⟨s.nds, s.looked + 1, s.s⟩) := by unfold visitB; rw [if_neg hfu, if_neg hb, hz]
        rw [e]
        have hle := hle z hz
        have hf := hf z hz
        have hix := fun (W : World) (hW : Sch EI p P limit fE B N g gs cS W st ⟨some ⟨gr, 0, none⟩, sln, slc⟩ ys ⟨s.nds, s.looked + 1, s.s⟩) => idx0_any (some ⟨gs, 0, none⟩) st.length cS st W (OwnI.sees hW.stf) rfl (by omega)
        rw [hz] at hix
        simp only [idxV] at hix
        obtain ⟨q, hq⟩ : ∃ q, (memZ (eligA P z)).length = q := ⟨_, rfl⟩
        have hqK : q ≤ K := by rw [← hq]; exact hEl z
        have hqb : q * b ≤ K * b := Nat.mul_le_mul_right b hqK
        have hzE : z < P.elig.length := by rw [← hst]; exact z1
        have hz0 : (0 : Int) ≤ (z : Int) := by omega
        have hz0' : ¬ (z : Int) < 0 := by omega
        have H1 := Lib.hid h1
        have M1 := Lib.hid m1
        have HV := Lib.hid hfull
        have HB := Lib.hid hbr
        have HX := Lib.hid hix
        have Hf := Lib.hid hf
        have Hle := Lib.hid hle
        have Hge := Lib.hid hge
        have Hq := Lib.hid hq
        have Hb1 := Lib.hid hb1
        have Hb2 := Lib.hid hb2
        have Hqb := Lib.hid hqb
        have Hz2 := Lib.hid z2
        have Hsz := Lib.hid hsz
        clear e hfu hfu' hfull h1 m1 h hf hle hge hK hb1 hb2 hst hEl hnode hlv hbr hb hb' hz hix hfE hq hqb z2 hsz
        refine calls_of_wp (c := visBody) Tryd.func40 rfl ?_
        simp only [Tryd.ntmps40, List.size_toArray, List.length_cons, List.length_nil, Nat.reduceAdd, Nat.reduceSub, Array.replicate_succ, Array.replicate_zero, List.push_toArray, List.append_toArray, List.nil_append, List.cons_append]
        rw [vis_split]
        refine wp_seq_k fun K0 hK0 => ?_
        conv => arg 2; whnf
        go_wp2_with fail
        conv => arg 2; whnf
        go_wp2_with fail
        conv => arg 2; whnf
        generalize (w.setCell ⟨g, 7, none⟩ (.int .i64 ((s.looked : Int) + 1))) = W1 at H1 M1 HV ⊢
        have hv := HV.out
        clear y7 f7 HV
        go_wp2_with fail
        refine hv.mono ?_
        rintro e W2' ⟨rfl, qd, rfl⟩
        have H2 := Lib.hid (H1.out.below HE.out HLV.out (below_drewN (Below.refl _ W1) qd))
        have M2 := Lib.hid (M1.out.belowW ((below_drewN (Below.refl _ W1) qd).mono M1.out.size))
        generalize W1.drewN qd = W2 at H2 M2 ⊢
        clear hv H1 M1 ec hlk
        go_wp2_with fail
        conv => arg 2; whnf
        obtain ⟨x0, x1, x2, x3, x4, x5, x6, x7, x8, x9⟩ := sch_cells H2.out.blk
        go_wp2_with fail
        go_still_tail 8, (by kernel_rfl)
        change wpList _ _ _ _ _ W2.drew
        have H3 := Lib.hid (H2.out.below HE.out HLV.out (Below.refl _ W2).drew)
        have M3 := Lib.hid (M2.out.belowW (((Below.refl _ W2).drew).mono M2.out.size))
        generalize W2.drew = W3 at H3 M3 ⊢
        have hb3 := HB.out W3 H3.out
        clear x0 x1 x2 x3 x4 x5 x6 x7 x8 x9 H2 M2 HB
        go_wp2_with fail
        refine hb3.mono ?_
        rintro e W4 ⟨rfl, b4⟩
        have H4 := Lib.hid (H3.out.below HE.out HLV.out b4)
        have M4 := Lib.hid (M3.out.belowW (b4.mono M3.out.size))
        clear hb3 b4 H3 M3
        go_wp2_with fail
        have x5 : W4.cell? ⟨g, 5, none⟩ = some (.slice (some ⟨gs, 0, none⟩) st.length cS) := (H4.out.blk.cell 5).trans rfl
        have hx := HX.out W4 H4.out
        conv => arg 2; whnf
        go_wp2_with fail
        refine hx.mono ?_
        rintro e W5 ⟨rfl, rfl⟩
        clear hx HX x5
        go_wp2_with fail
        conv => arg 2; whnf
        go_wp2_with fail
        conv => arg 2; whnf
        go_wp2_with fail
        refine vis_kids H4.out HE.out HLV.out node z q hzE Hq.out (by show s.nds.length + q ≤ 1000000; have := Hb1.out; omega) _ ?_ _ _ _ _ _ _ _ _ _ _ _ _ _ _ _ _ _ _ _ _ _ _ _ _ _ _ _ _ _ _ _ _ _ _ _ _ _ _ _ _ _ _ _ _ _ _ _ _ _ _ _ _ _ _ _ _ _ _ _ _ _ _ _ _ _ _ _ _ _ _ _ _ _ _ _ _ _ _ _ _ _ _ _ _ _ _ _ _ _ _ _ _ _ _ _ _ _ _ _ _ _ _ _ _ _ _ _ _ _ _ _ _ _ _ _ _ _ _ _ _ _
        intro W5 Ac cc sl' u2 u3 u4 u7 u8 u9 u10 u11 u12 u13 u14 u15 u16 u17 u18 u19 u20 u21 u22 u23 u24 u25 u26 u27 u28 u29 u30 u31 u32 u33 u34 u35 u36 u37 u38 u39 u40 u41 u42 u43 u44 u45 u46 u47 u48 u49 u50 u51 u52 u53 u54 u55 u56 u57 u58 u59 u60 u61 u62 u63 u64 u65 u66 u67 u68 u69 u70 u71 u72 u73 u74 u75 u76 u77 u78 u79 u80 u81 u82 u83 u84 u85 u86 u87 u88 u89 u90 u91 u92 u93 u94 u95 u96 u97 u98 u99 u100 u101 u102 u103 u104 u105 u106 u107 u108 u109 u110 u111 u112 u113 u114 u115 u116 u117 u118 u119 u120 u121 u122 u123 u124 hR
        have S5 := Lib.hid hR.sch
        have M5 := Lib.hid (M4.out.trans (v := .slice (some ⟨gr, 0, none⟩) sln slc) (NewR.refl _ _) hR.mv)
        have N5 := Lib.hid ((NewR.refl w (Sl.v ⟨some ⟨gr, 0, none⟩, sln, slc⟩)).trans M4.out.size hR.nr)
        have C5 := Lib.hid (OwnI.more hR.ch H4.out.nw)
        have N4 := Lib.hid M4.out.size
        clear hR M4 H4
        obtain ⟨slA', sln', slc'⟩ := sl'
        have hsz' : s.nds.length + q = sln' := by have := S5.out.size; simpa using this
        have hnl' : node < sln' := by have := Hsz.out; omega
        obtain ⟨gr', csr', hgr', hBgr', _⟩ := own_blk (show W5.ownsRow B 103 4 (.slice slA' sln' slc') sln' _ from S5.out.row) (by omega)
        subst hgr'
        have Hsz' := Lib.hid hsz'
        clear hsz'
        obtain ⟨⟨q0, q1, q2, q3, y0, y1, y2, y3⟩, csb, hbk⟩ := S5.out.nodeCells hnl'
        have f0 := hbk.frozen (node * 4)
        have f1 := hbk.frozen (node * 4 + 1)
        have f2 := hbk.frozen (node * 4 + 2)
        have f3 := hbk.frozen (node * 4 + 3)
        have x6 : W5.cell? ⟨g, 6, none⟩ = some (.slice (some ⟨gr', 0, none⟩) sln' slc') := (S5.out.blk.cell 6).trans rfl
        have hni : (node : Int) < (sln' : Int) := by omega
        have BK := Lib.hid hbk
        clear hbk
        have hq1 : q ≤ 1000000 := by have := Hb1.out; omega
        have hnd : NdO W5 N ⟨⟨1, (z : Int), kidsN s.nds.length q, []⟩, ⟨Ac, q, cc⟩, ⟨none, 0, 0⟩⟩ := ⟨by show 1 < 256; omega, C5.out, OwnI.nil _ _, hq1, by show 0 ≤ 1000000; omega⟩
        have S6 := S5.out.store (sl := ⟨none, sln', slc'⟩) HE.out HLV.out hnl' hnd
        have M6 := M5.out.trans (v := .slice (some ⟨gr, 0, none⟩) sln slc) N5.out ((MvB.refl W5 B N (some gr')).set4 (gr := gr') (o := node * 4) (.inl rfl) (.int .u8 ((1 : Nat) : Int)) (.int .i64 (z : Int)) (Sl.v ⟨Ac, q, cc⟩) (Sl.v ⟨none, 0, 0⟩))
        have C6 : OwnI (set4 W5 gr' (node * 4) (.int .u8 ((1 : Nat) : Int)) (.int .i64 (z : Int)) (Sl.v ⟨Ac, q, cc⟩) (Sl.v ⟨none, 0, 0⟩)) N (.slice Ac q cc) q (kidsN s.nds.length q) := own_set4 C5.out BK.out (by decide) _ _ _ _
        have S6' : Sch EI p P limit fE B N g gs cS (set4 W5 gr' (node * 4) (.int .u8 ((1 : Nat) : Int)) (.int .i64 (z : Int)) (Sl.v ⟨Ac, q, cc⟩) (Sl.v ⟨none, 0, 0⟩)) st ⟨some ⟨gr', 0, none⟩, sln', slc'⟩ ((ys ++ List.replicate q nd0S).set node ⟨⟨1, (z : Int), kidsN s.nds.length q, []⟩, ⟨Ac, q, cc⟩, ⟨none, 0, 0⟩⟩) (laidB P node z ⟨s.nds, s.looked + 1, s.s⟩) := by
          unfold laidB
          rw [Hq.out]
          exact S6
        have S7 := Lib.hid S6'
        have M7 := Lib.hid M6
        have C7 := Lib.hid C6
        clear S6 S6' M6 C6 hnd hq1
        go_wp2_with fail
        conv => arg 2; whnf
        go_wp2_with fail
        change Code.wp _ _ _ _ (set4 W5 gr' (node * 4) (.int .u8 ((1 : Nat) : Int)) (.int .i64 (z : Int)) (Sl.v ⟨Ac, q, cc⟩) (Sl.v ⟨none, 0, 0⟩))
        generalize (set4 W5 gr' (node * 4) (.int .u8 ((1 : Nat) : Int)) (.int .i64 (z : Int)) (Sl.v ⟨Ac, q, cc⟩) (Sl.v ⟨none, 0, 0⟩)) = W6 at S7 M7 C7 ⊢
        clear q0 q1 q2 q3 y0 y1 y2 y3 f0 f1 f2 f3 x6 S5 M5 C5 BK
        refine vis_loop S7.out HE.out HLV.out rec b node z s.nds.length q cc Ac hzE z1 Hz2.out Hq.out (by rw [laidB_len, Hq.out]; exact Nat.le_refl _)
          (by rw [laidB_len, Hq.out]; show s.nds.length + q + q * b ≤ 1000000; have := Hb1.out; have := Hqb.out; omega)
          (by show s.looked + 1 + q * (1 + b) ≤ 1000000; rw [Nat.mul_add, Nat.mul_one]; have := Hb2.out; have := Hqb.out; omega)
          C7.out Hge.out Hle.out Hf.out _ ?_ ?_ _ _ _ _ _ _ _ _ _ _ _ _ _ _ _ _ _ _ _ _ _ _ _ _ _ _ _ _ _ _ _ _ _ _ _ _ _ _ _ _ _ _ _ _ _ _ _ _ _ _ _ _ _ _ _ _ _ _ _ _ _ _ _ _ _ _ _ _ _ _ _ _ _ _ _ _ _ _ _ _ _ _ _ _ _ _ _ _ _ _ _ _ _ _ _ _ _ _ _ _ _ _ _ _ _ _ _ _ _ _ _ _ _ _ _ _ _ _ _ _ _
        · intro r1 r2 W8 v sl8 ys8 u2 u3 u4 u7 u8 u9 u10 u11 u12 u13 u14 u15 u16 u17 u18 u19 u20 u21 u22 u23 u24 u25 u26 u27 u28 u29 u30 u31 u32 u33 u34 u35 u36 u37 u38 u39 u40 u41 u42 u43 u44 u45 u46 u47 u48 u49 u50 u51 u52 u53 u54 u55 u56 u57 u58 u59 u60 u61 u62 u63 u64 u65 u66 u67 u68 u69 u70 u71 u72 u73 u74 u75 u76 u77 u78 u79 u80 u81 u82 u83 u84 u85 u86 u87 u88 u89 u90 u91 u92 u93 u94 u95 u96 u97 u98 u99 u100 u101 u102 u103 u104 u105 u106 u107 u108 u109 u110 u111 u112 u113 u114 u115 u116 u117 u118 u119 u120 u121 u122 u123 u124 hS8 hM8 hN8
          obtain ⟨⟨y, y5⟩, f5⟩ := hS8.staffCell (z := z) (by rw [List.length_set]; exact z1)
          have x5 : W8.cell? ⟨g, 5, none⟩ = some (.slice (some ⟨gs, 0, none⟩) st.length cS) := by have := (hS8.blk.cell 5).trans rfl; rw [List.length_set] at this; exact this
          have S9 := hS8.put HE.out r2 (z := z) (by rw [List.length_set]; exact z1) 0
          rw [set_back Hz2.out z1] at S9
          have M9 := (M7.out.trans (v := .slice (some ⟨gr, 0, none⟩) sln slc) (N5.out) hM8).set (i := z) hS8.sB hS8.sN (.int .i64 0)
          have N9 : NewR w (.slice (some ⟨gr, 0, none⟩) sln slc) sl8.v := (N5.out.trans M7.out.size hN8)
          have R1 := Lib.hid r1
          have R2 := Lib.hid r2
          have S10 := Lib.hid S9
          have M10 := Lib.hid M9
          have N10 := Lib.hid N9
          have hzi : (z : Int) < (st.length : Int) := by omega
          clear r1 r2 S9 M9 N9 hS8 hM8 hN8
          go_wp2_with fail
          conv => arg 2; whnf
          go_wp2_with fail
          go_ret
          exact ⟨ret_bool R1.out.symm, st, _, _, S10.out, fun _ => ⟨rfl, R2.out⟩, M10.out, N10.out⟩
        · intro r1 W8 st8 sl8 ys8 a h4 hd hS8 hM8 hN8
          exact ret_t4 rfl h4 hd ⟨ret_bool r1.symm, st8, _, _, hS8, fun e => (by rw [r1] at e; cases e), M7.out.trans (v := .slice (some ⟨gr, 0, none⟩) sln slc) N5.out hM8, N5.out.trans M7.out.size hN8⟩
end Go.Proofs.YtfnhaoindehjdaaDoor
