/- The walk of visit: the loop over the users of a step. (genst.py) -/
import Derived.Test.YtfnhaoindehjdaaDoorStB
import Derived.Test.YtfnhaoindehjdaaDoorPb
import Derived.Deep.CutRange
import Derived.Deep.RegionWith
namespace Go.Proofs.YtfnhaoindehjdaaDoor
open Go.RowKit
set_option linter.unusedVariables false
set_option linter.unusedSimpArgs false

/-- What a visit leaves. -/
def VisPost {σ : Type} (live : σ → Prop) (EI : σ → World → Prop) (p : PrV) (P : Pr) (limit : Nat) (fE : Value) (B N g gs cS : Nat) (r : Bool × VS σ) (st : List Int) (w : World) (sl : Sl) (e : Ending) (w' : World) : Prop :=
  e = .returned (.bool r.1) ∧ ∃ (st' : List Int) (sl' : Sl) (ys' : List NdS), Sch EI p P limit fE B N g gs cS w' st' sl' ys' r.2 ∧ (r.1 = false → st' = st ∧ live r.2.s) ∧ MvB w w' B N sl.v.ownBlock ∧ NewR w sl.v sl'.v
/-- A visit of the list st is as the function f says; it makes at most b nodes. -/
def VisOk {σ : Type} (live : σ → Prop) (EI : σ → World → Prop) (p : PrV) (P : Pr) (limit : Nat) (fE : Value) (B N g gs cS : Nat) (b : Nat) (f : List Int → Nat → VS σ → Bool × VS σ) (st : List Int) : Prop :=
  ∀ (node : Nat) (s : VS σ) (w : World) (sl : Sl) (ys : List NdS), node < s.nds.length → s.nds.length + b ≤ 1000000 → s.looked + 1 + b ≤ 1000000 → live s.s → Sch EI p P limit fE B N g gs cS w st sl ys s →
    Calls Tryd.prog 40 #[.pointer (some ⟨g, 0, none⟩), .int .i64 (node : Int)] w (VisPost live EI p P limit fE B N g gs cS (f st node s) st w sl)
theorem visitL_drop {σ : Type} {f : List Int → Nat → VS σ → Bool × VS σ} {st : List Int} {z c : Nat} {us : List Int} {k : Nat} {u : Int} {s' : VS σ} (hu : us[k]? = some u) :
    visitL f st z (us.drop k) (c + k) s' = if (f (st.set z u) (c + k) s').1 = true then (true, (f (st.set z u) (c + k) s').2) else visitL f st z (us.drop (k + 1)) (c + (k + 1)) (f (st.set z u) (c + k) s').2 := by
  obtain ⟨hk, e⟩ := List.getElem?_eq_some_iff.1 hu
  rw [List.drop_eq_getElem_cons hk, e, visitL]
  rfl
/-- Where the loop over the users is. -/
structure UsrR {σ : Type} (live : σ → Prop) (EI : σ → World → Prop) (p : PrV) (P : Pr) (limit : Nat) (fE : Value) (B N g gs cS : Nat) (f : List Int → Nat → VS σ → Bool × VS σ) (b : Nat) (W : World) (st : List Int) (sl : Sl) (s : VS σ) (z c0 : Nat) (us : List Int) (A2 Ac : Option Addr) (c2 cc : Nat) (k : Nat) (v : Int) (sl' : Sl) (ys' : List NdS) (s' : VS σ) (wr : World) : Prop where
  sch : Sch EI p P limit fE B N g gs cS wr (st.set z v) sl' ys' s'
  lv : live s'.s
  rem : visitL f st z (us.drop k) (c0 + k) s' = visitL f st z us c0 s
  ge : s.nds.length ≤ s'.nds.length
  le1 : s'.nds.length ≤ s.nds.length + k * b
  le2 : s'.looked ≤ s.looked + k * (1 + b)
  mv : MvB W wr B N sl.v.ownBlock
  nr : NewR W sl.v sl'.v
  chs : OwnI wr N (.slice Ac us.length cc) us.length (kidsN c0 us.length)
  usr : OwnI wr N (.slice A2 us.length c2) us.length us
set_option maxHeartbeats 8000000 in
set_option maxRecDepth 100000 in
theorem vis_loop {σ : Type} {live : σ → Prop} {EI : σ → World → Prop} {p : PrV} {P : Pr} {limit : Nat} {fE : Value} {B N g gs cS : Nat} {W : World} {st : List Int} {sl : Sl} {ys : List NdS} {s : VS σ} (h : Sch EI p P limit fE B N g gs cS W st sl ys s) (hE : ∀ s w w', live s → EI s w → Kept w w' N g gs → EI s w') (hl : live s.s)
    (f : List Int → Nat → VS σ → Bool × VS σ) (b node z c0 q cc : Nat) (Ac : Option Addr) (hz : z < P.elig.length) (hzs : z < st.length) (h0 : atI st z = 0) (hq : (memZ (eligA P z)).length = q) (hc : c0 + q ≤ s.nds.length)
    (hb1 : s.nds.length + q * b ≤ 1000000) (hb2 : s.looked + q * (1 + b) ≤ 1000000)
    (hch : OwnI W N (.slice Ac q cc) q (kidsN c0 q))
    (hge : ∀ st node s, s.nds.length ≤ (f st node s).2.nds.length)
    (hle : ∀ u ∈ memZ (eligA P z), ∀ node s, (f (st.set z u) node s).2.nds.length ≤ s.nds.length + b ∧ (f (st.set z u) node s).2.looked ≤ s.looked + 1 + b)
    (hf : ∀ u ∈ memZ (eligA P z), VisOk live EI p P limit fE B N g gs cS b f (st.set z u))
    (Q : Exit → Act → World → Prop)
    (hN : (visitL f st z (memZ (eligA P z)) c0 s).1 = false → live (visitL f st z (memZ (eligA P z)) c0 s).2.s → ∀ (W' : World) (v : Int) (sl' : Sl) (ys' : List NdS) (u2 u3 u4 u7 u8 u9 u10 u11 u12 u13 u14 u15 u16 u17 u18 u19 u20 u21 u22 u23 u24 u25 u26 u27 u28 u29 u30 u31 u32 u33 u34 u35 u36 u37 u38 u39 u40 u41 u42 u43 u44 u45 u46 u47 u48 u49 u50 u51 u52 u53 u54 u55 u56 u57 u58 u59 u60 u61 u62 u63 u64 u65 u66 u67 u68 u69 u70 u71 u72 u73 u74 u75 u76 u77 u78 u79 u80 u81 u82 u83 u84 u85 u86 u87 u88 u89 u90 u91 u92 u93 u94 u95 u96 u97 u98 u99 u100 u101 u102 u103 u104 u105 u106 u107 u108 u109 u110 u111 u112 u113 u114 u115 u116 u117 u118 u119 u120 u121 u122 u123 u124 : Value), Sch EI p P limit fE B N g gs cS W' (st.set z v) sl' ys' (visitL f st z (memZ (eligA P z)) c0 s).2 → MvB W W' B N sl.v.ownBlock → NewR W sl.v sl'.v → Q .normal ⟨#[.pointer (some ⟨g, 0, none⟩), .int .i64 (node : Int), u2, u3, u4, .int .i64 (z : Int), .slice Ac q cc, u7, u8, u9, u10, u11, u12, u13, u14, u15, u16, u17, u18, u19, u20, u21, u22, u23, u24, u25, u26, u27, u28, u29, u30, u31, u32, u33, u34, u35, u36, u37, u38, u39, u40, u41, u42, u43, u44, u45, u46, u47, u48, u49, u50, u51, u52, u53, u54, u55, u56, u57, u58, u59, u60, u61, u62, u63, u64, u65, u66, u67, u68, u69, u70, u71, u72, u73, u74, u75, u76, u77, u78, u79, u80, u81, u82, u83, u84, u85, u86, u87, u88, u89, u90, u91, u92, u93, u94, u95, u96, u97, u98, u99, u100, u101, u102, u103, u104, u105, u106, u107, u108, u109, u110, u111, u112, u113, u114, u115, u116, u117, u118, u119, u120, u121, u122, u123, u124], []⟩ W')
    (hR : (visitL f st z (memZ (eligA P z)) c0 s).1 = true → ∀ (W' : World) (st' : List Int) (sl' : Sl) (ys' : List NdS) (a : Act), a.tmps.getD 4 undef = .bool true → a.defers = [] → Sch EI p P limit fE B N g gs cS W' st' sl' ys' (visitL f st z (memZ (eligA P z)) c0 s).2 → MvB W W' B N sl.v.ownBlock → NewR W sl.v sl'.v → Q .ret a W')
    (cx2 cx3 cx4 cx7 cx8 cx9 cx10 cx11 cx12 cx13 cx14 cx15 cx16 cx17 cx18 cx19 cx20 cx21 cx22 cx23 cx24 cx25 cx26 cx27 cx28 cx29 cx30 cx31 cx32 cx33 cx34 cx35 cx36 cx37 cx38 cx39 cx40 cx41 cx42 cx43 cx44 cx45 cx46 cx47 cx48 cx49 cx50 cx51 cx52 cx53 cx54 cx55 cx56 cx57 cx58 cx59 cx60 cx61 cx62 cx63 cx64 cx65 cx66 cx67 cx68 cx69 cx70 cx71 cx72 cx73 cx74 cx75 cx76 cx77 cx78 cx79 cx80 cx81 cx82 cx83 cx84 cx85 cx86 cx87 cx88 cx89 cx90 cx91 cx92 cx93 cx94 cx95 cx96 cx97 cx98 cx99 cx100 cx101 cx102 cx103 cx104 cx105 cx106 cx107 cx108 cx109 cx110 cx111 cx112 cx113 cx114 cx115 cx116 cx117 cx118 cx119 cx120 cx121 cx122 cx123 cx124 : Value) :
    (visPart 9).wp Tryd.prog Q ⟨#[.pointer (some ⟨g, 0, none⟩), .int .i64 (node : Int), cx2, cx3, cx4, .int .i64 (z : Int), .slice Ac q cc, cx7, cx8, cx9, cx10, cx11, cx12, cx13, cx14, cx15, cx16, cx17, cx18, cx19, cx20, cx21, cx22, cx23, cx24, cx25, cx26, cx27, cx28, cx29, cx30, cx31, cx32, cx33, cx34, cx35, cx36, cx37, cx38, cx39, cx40, cx41, cx42, cx43, cx44, cx45, cx46, cx47, cx48, cx49, cx50, cx51, cx52, cx53, cx54, cx55, cx56, cx57, cx58, cx59, cx60, cx61, cx62, cx63, cx64, cx65, cx66, cx67, cx68, cx69, cx70, cx71, cx72, cx73, cx74, cx75, cx76, cx77, cx78, cx79, cx80, cx81, cx82, cx83, cx84, cx85, cx86, cx87, cx88, cx89, cx90, cx91, cx92, cx93, cx94, cx95, cx96, cx97, cx98, cx99, cx100, cx101, cx102, cx103, cx104, cx105, cx106, cx107, cx108, cx109, cx110, cx111, cx112, cx113, cx114, cx115, cx116, cx117, cx118, cx119, cx120, cx121, cx122, cx123, cx124], []⟩ W := by
  have HE := Lib.hid hE
  have Hge := Lib.hid hge
  have Hle := Lib.hid hle
  have Hf := Lib.hid hf
  have HN := Lib.hid hN
  have HR := Lib.hid hR
  clear hE hge hle hf hN hR
  obtain ⟨⟨A1, n1, c1⟩, s2, s3, s4, s5⟩ := p
  have hpl : P.elig.length = n1 := h.pr.l1
  have he1 : SetsAt W B A1 P.elig := h.pr.e1
  have hnB : n1 ≤ 1000000 := h.pr.b1
  obtain ⟨M, hM⟩ : ∃ M, P.elig[z]? = some M := ⟨_, List.getElem?_eq_getElem hz⟩
  obtain ⟨b0, o, X, rfl, hbB, hcX, hset⟩ := he1 z M hM
  have hBW : B ≤ W.heap.size := by have := h.nw; have := h.gB; have := h.gN; omega
  have heA : eligA P z = M := by unfold eligA; rw [Int.toNat_natCast, hM]; rfl
  have hlist := list_any (.agg #[X]) M W (hset.more hBW) h.tab
  have hzn : (z : Int) < (n1 : Int) := by omega
  have hzn' : z < n1 := by omega
  have x0 : W.cell? ⟨g, 0, none⟩ = some (.slice (some ⟨b0, o, none⟩) n1 c1) := (h.blk.cell 0).trans rfl
  rw [← heA] at hlist
  obtain ⟨us, hus⟩ : ∃ us, Hid (us = memZ (eligA P z)) := ⟨_, Lib.hid rfl⟩
  rw [← hus.out] at hlist hq Hle Hf HN HR
  have hqq : q ≤ 1000000 := by omega
  have Hb1 := Lib.hid hb1
  have Hb2 := Lib.hid hb2
  have Hc := Lib.hid hc
  have Hq := Lib.hid hq
  have Hzs := Lib.hid hzs
  have hset0 : st.set z 0 = st := by
    refine List.ext_getElem? fun i => ?_
    by_cases hi : i = z
    · subst hi
      rw [List.getElem?_set_self hzs, List.getElem?_eq_getElem hzs]
      unfold atI at h0
      rw [List.getElem?_eq_getElem hzs] at h0
      exact congrArg some h0.symm
    · rw [List.getElem?_set_ne (Ne.symm hi)]
  have Hset0 := Lib.hid hset0
  have H0 := Lib.hid h
  clear hM heA hset hq hpl hb1 hb2 hc hset0 h0 hzs
  have h := H0.out
  conv => arg 2; whnf
  go_wp2_with fail
  refine hlist.mono ?_
  rintro e W1 ⟨A2, n2, c2, rfl, o2, b1⟩
  have hn2 : us.length = n2 := o2.len
  rw [Hq.out] at hn2
  subst hn2
  have h1 := h.below HE.out hl b1
  have o2' : OwnI W1 N (.slice A2 q c2) q us := o2.more h.nw
  have hch1 := hch.on b1
  clear x0 hcX h hlist o2 hch
  go_wp2_with fail
  go_loopw [100] (fun v100 wr => ∃ (k : Nat) (v : Int) (sl' : Sl) (ys' : List NdS) (s' : VS σ), k ≤ q ∧ v100 = .int .i64 k ∧ UsrR live EI ⟨⟨some ⟨b0, o, none⟩, n1, c1⟩, s2, s3, s4, s5⟩ P limit fE B N g gs cS f b W st sl s z c0 us A2 Ac c2 cc k v sl' ys' s' wr) (fun v100 _ => q - (intOf v100).toNat)
  case atStart => exact ⟨0, 0, sl, ys, s, Nat.zero_le _, rfl, ⟨by rw [Hset0.out]; exact h1, hl, rfl, Nat.le_refl _, by omega, by omega, .ofBelow b1 _ _ _, .refl _ _, by rw [Hq.out]; exact hch1, by rw [Hq.out]; exact o2'⟩⟩
  case round =>
    clear h1 o2' hch1 hl
    obtain ⟨k, v, ⟨An, nn, cn⟩, ys', s', hk, rfl, hR⟩ := hrel
    obtain ⟨W0, rfl⟩ : ∃ W0, W0 = wr := ⟨_, rfl⟩
    by_cases hlt : k < q
    · have hlt' : (k : Int) < (q : Int) := by omega
      obtain ⟨u, hu⟩ : ∃ u, Hid (us[k]? = some u) := ⟨us[k]'(by rw [Hq.out]; exact hlt), Lib.hid (List.getElem?_eq_getElem _)⟩
      have hum : u ∈ us := List.mem_of_getElem? hu.out
      have hs := hR.sch
      have hchs : OwnI W0 N (.slice Ac q cc) q (kidsN c0 q) := by have := hR.chs; rw [Hq.out] at this; exact this
      have husr : OwnI W0 N (.slice A2 q c2) q us := by have := hR.usr; rw [Hq.out] at this; exact this
      have hlen' : (st.set z v).length = st.length := List.length_set
      -- the user
      obtain ⟨ub, uo, eu, hub, hcu⟩ : ∃ ub uo, A2 = some ⟨ub, uo, none⟩ ∧ ub < W0.heap.size ∧ W0.cell? ⟨ub, uo + k, none⟩ = some (.int .i64 u) := by
        obtain ⟨b, o, z', rfl, hb2, Hz, hc⟩ := Sees.int (k := k) husr.sees (by rw [Hq.out]; exact hlt)
        have e : z' = u := by have h1 := Hz.out; rw [hu.out] at h1; exact (Option.some.inj h1).symm
        subst e
        exact ⟨b, o, rfl, hb2, hc⟩
      subst eu
      have hstB : ∃ cs, Blk W0 gs 3 cs := by obtain ⟨cs, h1, _⟩ := own_type hs.stf rfl; exact ⟨cs, h1⟩
      obtain ⟨cs0, hstB⟩ := hstB
      have x5 : W0.cell? ⟨g, 5, none⟩ = some (.slice (some ⟨gs, 0, none⟩) st.length cS) := by have := (hs.blk.cell 5).trans rfl; rw [hlen'] at this; exact this
      have hzi : (z : Int) < (st.length : Int) := by have := Hzs.out; omega
      have hs1 := hs.put HE.out hR.lv (z := z) (by rw [hlen']; exact Hzs.out) u
      rw [List.set_set] at hs1
      have m1 : MvB W (W0.setCell ⟨gs, z, none⟩ (.int .i64 u)) B N sl.v.ownBlock := hR.mv.set hs.sB hs.sN _
      have hchs1 : OwnI (W0.setCell ⟨gs, z, none⟩ (.int .i64 u)) N (.slice Ac q cc) q (kidsN c0 q) := OwnI.same hchs fun j hj => Below.heap_setCell W0 _ _ j (by have := (hchs.lt j hj).1; have := hs.sN; simp; omega)
      have husr1 : OwnI (W0.setCell ⟨gs, z, none⟩ (.int .i64 u)) N (.slice (some ⟨ub, uo, none⟩) q c2) q us := OwnI.same husr fun j hj => Below.heap_setCell W0 _ _ j (by have := (husr.lt j hj).1; have := hs.sN; simp; omega)
      obtain ⟨cb, co, ec, hcb, hcc⟩ : ∃ cb co, Ac = some ⟨cb, co, none⟩ ∧ cb < (W0.setCell ⟨gs, z, none⟩ (.int .i64 u)).heap.size ∧ (W0.setCell ⟨gs, z, none⟩ (.int .i64 u)).cell? ⟨cb, co + k, none⟩ = some (.int .i64 ((c0 + k : Nat) : Int)) := by
        obtain ⟨b, o, z', rfl, hb2, Hz, hc⟩ := Sees.int (k := k) hchs1.sees (by rw [kidsN_len]; exact hlt)
        have e : z' = ((c0 + k : Nat) : Int) := by
          have h1 := Hz.out
          unfold kidsN at h1
          rw [List.getElem?_map, List.getElem?_range hlt] at h1
          exact (Option.some.inj h1).symm
        subst e
        exact ⟨b, o, rfl, hb2, hc⟩
      subst ec
      have hv := Hf.out u hum (c0 + k) s' (W0.setCell ⟨gs, z, none⟩ (.int .i64 u)) ⟨An, nn, cn⟩ ys' (by have := hR.ge; have := Hc.out; omega)
        (by have := hR.le1; have h2 := Nat.mul_le_mul_right b (show k + 1 ≤ q by omega); rw [Nat.succ_mul] at h2; have := Hb1.out; omega)
        (by have := hR.le2; have h2 := Nat.mul_le_mul_right (1 + b) (show k + 1 ≤ q by omega); rw [Nat.succ_mul] at h2; have := Hb2.out; omega) hR.lv hs1
      have hrem := Lib.hid hR.rem
      have hdrop := Lib.hid (visitL_drop (f := f) (st := st) (z := z) (c := c0) (s' := s') hu.out)
      have hbd := Lib.hid (Hle.out u hum (c0 + k) s')
      have hg1 := Lib.hid (Hge.out (st.set z u) (c0 + k) s')
      have m1n : NewR W sl.v (Sl.v ⟨An, nn, cn⟩) := hR.nr
      obtain ⟨r, hr⟩ : ∃ r, Hid (r = f (st.set z u) (c0 + k) s') := ⟨_, Lib.hid rfl⟩
      rw [← hr.out] at hv
      have HV := Lib.hid hv
      have S1 := Lib.hid hs1
      have le1 := Lib.hid hR.le1
      have le2 := Lib.hid hR.le2
      have rge := Lib.hid hR.ge
      obtain ⟨rb, hrb⟩ : ∃ rb, Hid (rb = r.1) := ⟨_, Lib.hid rfl⟩
      have hcast : ((c0 + k : Nat) : Int) = (c0 : Int) + (k : Int) := by omega
      have f5 : W0.frozen? ⟨gs, z, none⟩ = false := hstB.frozen z
      obtain ⟨y5v, y5⟩ : ∃ y, W0.cell? ⟨gs, z, none⟩ = some y := by
        obtain ⟨b, o, z', e, hb2, Hz, hc⟩ := Sees.int (k := z) (OwnI.sees hs.stf) (by rw [hlen']; exact Hzs.out)
        injection e with e
        injection e with e1 e2
        subst e1 e2
        rw [Nat.zero_add] at hc
        exact ⟨_, hc⟩
      clear hv hs hs1 hR hchs husr hlen' hum hstB
      go_upto_region 21 with fail
      generalize (W0.setCell ⟨gs, z, none⟩ (.int .i64 u)) = W9 at m1 hchs1 husr1 hcb hcc HV S1 ⊢
      rw [hcast] at hcc
      have hv := HV.out
      rw [hcast] at hv
      clear hcast f5 x5 hcu y5
      go_wp2_with fail
      refine hv.mono ?_
      rintro e W10 ⟨rfl, st', sl', ys2, hS2, hf2, mv2, nr2⟩
      have m2 := m1.trans m1n mv2
      have n2 := m1n.trans m1.size nr2
      rw [← hrb.out] at hf2 ⊢
      cases hrbv : rb
      · obtain ⟨rfl, hl2⟩ := hf2 hrbv
        have e1 : r.1 = false := by rw [← hrb.out, hrbv]
        have hch2 : OwnI W10 N (.slice (some ⟨cb, co, none⟩) q cc) q (kidsN c0 q) := OwnI.same hchs1 fun j hj => mv2.block j (hchs1.lt j hj).2 (.inr (hchs1.lt j hj).1) fun e => by
          obtain ⟨cs', hb', _⟩ := own_type hchs1 hj
          exact own_ntype S1.out.row hb' (by decide) e
        have hus2 : OwnI W10 N (.slice (some ⟨ub, uo, none⟩) q c2) q us := OwnI.same husr1 fun j hj => mv2.block j (husr1.lt j hj).2 (.inr (husr1.lt j hj).1) fun e => by
          obtain ⟨cs', hb', _⟩ := own_type husr1 hj
          exact own_ntype S1.out.row hb' (by decide) e
        have hU : UsrR live EI ⟨⟨some ⟨b0, o, none⟩, n1, c1⟩, s2, s3, s4, s5⟩ P limit fE B N g gs cS f b W st sl s z c0 us (some ⟨ub, uo, none⟩) (some ⟨cb, co, none⟩) c2 cc (k + 1) u sl' ys2 r.2 W10 := by
          refine ⟨hS2, hl2, ?_, ?_, ?_, ?_, m2, n2, by rw [Hq.out]; exact hch2, by rw [Hq.out]; exact hus2⟩
          · rw [← hrem.out, hdrop.out, ← hr.out, if_neg (by rw [e1]; simp)]
          · have := hg1.out; rw [← hr.out] at this; exact Nat.le_trans rge.out this
          · have h1 := hbd.out.1; rw [← hr.out] at h1; have := le1.out; rw [Nat.succ_mul]; omega
          · have h1 := hbd.out.2; rw [← hr.out] at h1; have := le2.out; rw [Nat.succ_mul]; omega
        have HU := Lib.hid hU
        clear hU hch2 hus2 hf2 hrbv m1 m2 n2 nr2 mv2 hS2 hchs1 husr1 hl2 hcc hv hrb
        go_wp2_with fail
        go_roundw
        case rel => exact ⟨k + 1, u, sl', ys2, r.2, by omega, by go_num, HU.out⟩
        case measure => simp [intOf]; omega
      · have e1 : r.1 = true := by rw [← hrb.out, hrbv]
        have eR : visitL f st z us c0 s = (true, r.2) := by rw [← hrem.out, hdrop.out, ← hr.out, if_pos e1]
        have HS2 := Lib.hid hS2
        have M2 := Lib.hid m2
        have N2 := Lib.hid n2
        have ER := Lib.hid eR
        clear eR hf2 hrbv m1 m2 n2 nr2 mv2 hS2 hchs1 husr1 hcc hv hrb e1
        go_wp2_with fail
        exact HR.out (by rw [ER.out]) W10 st' sl' ys2 _ rfl rfl (by rw [ER.out]; exact HS2.out) M2.out N2.out
    · obtain rfl : k = q := by omega
      have hlt' : ¬ (k : Int) < (k : Int) := by omega
      have hrem := hR.rem
      rw [List.drop_of_length_le (by rw [Hq.out]; exact Nat.le_refl _)] at hrem
      have Hrem := Lib.hid hrem
      clear hrem
      go_wp2_with fail
      exact HN.out (by rw [← Hrem.out]; rfl) (by rw [← Hrem.out]; exact hR.lv) W0 v ⟨An, nn, cn⟩ ys' _ _ _ _ _ _ _ _ _ _ _ _ _ _ _ _ _ _ _ _ _ _ _ _ _ _ _ _ _ _ _ _ _ _ _ _ _ _ _ _ _ _ _ _ _ _ _ _ _ _ _ _ _ _ _ _ _ _ _ _ _ _ _ _ _ _ _ _ _ _ _ _ _ _ _ _ _ _ _ _ _ _ _ _ _ _ _ _ _ _ _ _ _ _ _ _ _ _ _ _ _ _ _ _ _ _ _ _ _ _ _ _ _ _ _ _ _ _ _ _ _ (by rw [← Hrem.out]; exact hR.sch) hR.mv hR.nr
end Go.Proofs.YtfnhaoindehjdaaDoor
