/- The walk of the reference's Bytes. (genrbytes.py) -/
import Derived.Test.YtcdgmdhfaniciaaDoorNbW
import Derived.Deep.RegionHeld3
namespace Go.Proofs.YtcdgmdhfaniciaaDoor
open Go.RowKit
set_option linter.unusedVariables false
set_option linter.unusedSimpArgs false

/-- The bytes of a list. -/
def encLst (l : List Int) : List UInt8 := enc l.length ++ l.flatMap encZ
theorem encN_lst (x : Nd) : encN x = enc x.kind ++ encZ x.step ++ encLst x.ch ++ encLst x.st := by
  unfold encN numsL encLst
  simp [encZ]
theorem mbound {M k q : Nat} (hM : M ≤ 30 + 400000 * k + 170000 * q) (hq : q ≤ 2) : M ≤ 10 + 400000 * (k + 1) := by omega
/-- Its numbers are small. -/
def smB (x : Nd) : Bool := decide (x.kind < 16384) && (numsL x).all fun z => decide (0 ≤ z) && decide (z < 16384)
set_option maxHeartbeats 32000000 in
set_option maxRecDepth 100000 in
/-- Bytes. -/
theorem rBytesL_any (A : Option Addr) (n c : Nat) (l : List Nd) (w : World) (h : RNodesAt w w.heap.size A l) (hn : l.length = n) (ht : n < 16384) (hs : l.all smB = true) :
    Calls Tryd.prog 30 #[.slice A n c] w fun e w' => ∃ A' m' c', e = .returned (.slice A' m' c') ∧ OwnB w' w.heap.size (.slice A' m' c') m' (enc n ++ l.flatMap encN) ∧ Below w.heap.size w w' := by
  have Hn := Lib.hid hn
  have hnn : (n : Int) < 16384 := by omega
  have hnum := rnumber_any n w ht
  rw [numB_enc ht] at hnum
  have hel := enc_len (v := n) (by omega)
  generalize enc n = L0 at hnum hel ⊢
  generalize hm0 : L0.length = m0 at hnum hel
  clear hn
  go_enter Tryd.func30, Tryd.ntmps30
  go_wp2_with fail
  refine hnum.mono ?_
  rintro e w1 ⟨A0, c0, rfl, o0, b0⟩
  clear hnum
  go_wp2_with fail
  go_loopw [3, 15] (fun v3 v15 wr => ∃ (k m co : Nat) (Ao : Option Addr), k ≤ n ∧ v15 = .int .i64 k ∧ v3 = .slice Ao m co ∧ m ≤ 10 + 400000 * k ∧ OwnB wr w.heap.size (.slice Ao m co) m (L0 ++ (l.take k).flatMap encN) ∧ Below w.heap.size w wr) (fun _ v15 _ => n - (intOf v15).toNat)
  case atStart => exact ⟨0, m0, c0, A0, Nat.zero_le _, rfl, rfl, by omega, by simpa using o0, b0⟩
  case round =>
    obtain ⟨k, m, co, Ao, hk, rfl, rfl, hm, oRow, bw⟩ := hrel
    rename_i wr
    obtain ⟨W0, rfl⟩ : ∃ W0, W0 = wr := ⟨_, rfl⟩
    by_cases hlt : k < n
    · have hlt' : (k : Int) < (n : Int) := by omega
      obtain ⟨x, hx⟩ : ∃ x, Hid (l[k]? = some x) := ⟨l[k]'(by rw [Hn.out]; exact hlt), Lib.hid (List.getElem?_eq_getElem _)⟩
      obtain ⟨pb, po, ⟨C1, nc, cc1⟩, ⟨S1, ns, cs1⟩, hA, hpb, y1, y2, y3, y4, hnd⟩ := (h.below bw) k x hx.out
      subst hA
      have hsm := List.all_eq_true.1 hs x (List.mem_of_getElem? hx.out)
      have ft := Lib.hid (flat_take encN hx.out)
      obtain ⟨kd, stz, ch, st⟩ := x
      have hfields : kd < 16384 ∧ (0 ≤ stz ∧ stz < 16384) ∧ ch.length < 16384 ∧ st.length < 16384 ∧ (∀ z ∈ ch, 0 ≤ z ∧ z < 16384) ∧ (∀ z ∈ st, 0 ≤ z ∧ z < 16384) := by
        unfold smB numsL at hsm
        simp only [List.all_append, List.all_cons, List.all_nil, Bool.and_true, Bool.and_eq_true, decide_eq_true_eq, List.all_eq_true] at hsm
        obtain ⟨a, ⟨⟨⟨b, c⟩, d⟩, e⟩, f⟩ := hsm
        exact ⟨a, b, by omega, by omega, d, f⟩
      obtain ⟨hkd, ⟨hs0, hs1⟩, hlc, hls, hzc, hzs⟩ := hfields
      obtain ⟨stp, rfl⟩ : ∃ q : Nat, stz = (q : Int) := ⟨stz.toNat, by omega⟩
      have hst : stp < 16384 := by omega
      clear hs0 hs1 hsm
      obtain ⟨_, hch, hstl, hcl, hsl, hcc, hss, _, _⟩ := hnd
      simp only [Sl.v] at y1 y2 y3 y4 hch hstl hcl hsl hcc hss
      have hkdi : (kd : Int) < 16384 := by omega
      have hsti : (stp : Int) < 16384 := by omega
      go_upto_region 5 with fail
      have bk := bAl (Below.refl W0.heap.size W0) (.cells #[.int .i64 (kd : Int), .int .i64 (stp : Int), .slice C1 nc cc1, .slice S1 ns cs1] 72)
      have kXu5 := Blk.new W0 72 #[.int .i64 (kd : Int), .int .i64 (stp : Int), .slice C1 nc cc1, .slice S1 ns cs1]
      have oRow := OwnB.on oRow bk
      have hch := hch.below ((Below.refl w.heap.size W0).alloc bw.size (.cells #[.int .i64 (kd : Int), .int .i64 (stp : Int), .slice C1 nc cc1, .slice S1 ns cs1] 72))
      have hstl := hstl.below ((Below.refl w.heap.size W0).alloc bw.size (.cells #[.int .i64 (kd : Int), .int .i64 (stp : Int), .slice C1 nc cc1, .slice S1 ns cs1] 72))
      have bu5 := bw.trans (bk.mono bw.size)
      have hzu5 := bu5.size
      generalize (W0.alloc (.cells #[.int .i64 (kd : Int), .int .i64 (stp : Int), .slice C1 nc cc1, .slice S1 ns cs1] 72)) = u5 at bk kXu5 oRow hch hstl bu5 hzu5 ⊢
      clear bk y1 y2 y3 y4
      obtain ⟨SS, hSS⟩ : ∃ S : World → Prop, S = (fun W => W.cell? ⟨W0.heap.size, 0, none⟩ = some (.int .i64 (kd : Int)) ∧ W.cell? ⟨W0.heap.size, 1, none⟩ = some (.int .i64 (stp : Int))) := ⟨_, rfl⟩
      have sB : ∀ W, Blk W W0.heap.size 72 #[.int .i64 (kd : Int), .int .i64 (stp : Int), .slice C1 nc cc1, .slice S1 ns cs1] → SS W := fun W k => by rw [hSS]; exact ⟨(k.cell 0).trans rfl, (k.cell 1).trans rfl⟩
      have dd : Below u5.heap.size u5 u5.drew := (Below.refl _ _).drew
      have kXu5 := kXu5.on dd
      have oRow := OwnB.on oRow dd
      have hch := hch.below (dd.mono hzu5)
      have hstl := hstl.below (dd.mono hzu5)
      have bu5 := bu5.trans (dd.mono hzu5)
      have hzu5 := bu5.size
      have Hkd := Lib.hid hkd
      have Hst := Lib.hid hst
      have Hm2 := Lib.hid hm
      have Hm := Lib.hid (show m ≤ 10000000000 by omega)
      have Hlt := Lib.hid hlt
      have Hfe := Lib.hid hlc
      have Hfs := Lib.hid hls
      have Hzc := Lib.hid hzc
      have Hzs := Lib.hid hzs
      clear hkd hst hm hlt hlt' hlc hls hzc hzs hkdi hsti hk hnn hel hs
      refine wp_region_F (fun _ => false) SS (by kernel_rfl) (sB _ kXu5) (fun hHeld => ?_)
      clear dd
      generalize u5.drew = u5 at kXu5 oRow hch hstl bu5 hzu5 hHeld ⊢
      have bwu := bu5
      have bu5 : Below w.heap.size u5 u5 := Below.refl _ _
      refine wpAnyF_take (i := 0) (v := ?_) rfl (by kernel_rfl) (by kernel_rfl) (by kernel_rfl) (by kernel_rfl) (fun _ _ _ h => h) hHeld (Or.inl ⟨by rfl, ?_⟩) ?_
      rotate_left
      · (intro w hSw; (try rw [hSS] at hSw); (try dsimp only at hSw); go_simp; try with_reducible rfl)
      try simp only [Act.put, List.getElem_toArray, List.getElem_cons_zero, List.getElem_cons_succ, List.setIfInBounds_toArray, List.set_cons_zero, List.set_cons_succ]
      refine wpAnyF_take (i := 1) (v := ?_) rfl (by kernel_rfl) (by kernel_rfl) (by kernel_rfl) (by kernel_rfl) (fun _ _ _ h => h) hHeld (Or.inl ⟨by rfl, ?_⟩) ?_
      rotate_left
      · (intro w hSw; (try rw [hSS] at hSw); (try dsimp only at hSw); go_simp; try with_reducible rfl)
      try simp only [Act.put, List.getElem_toArray, List.getElem_cons_zero, List.getElem_cons_succ, List.setIfInBounds_toArray, List.set_cons_zero, List.set_cons_succ]
      refine wpAnyF_take (i := 2) (v := ?_) rfl (by kernel_rfl) (by kernel_rfl) (by kernel_rfl) (by kernel_rfl) (fun _ _ _ h => h) hHeld (Or.inl ⟨by rfl, ?_⟩) ?_
      rotate_left
      · (intro w hSw; (try rw [hSS] at hSw); (try dsimp only at hSw); go_simp; try with_reducible rfl)
      try simp only [Act.put, List.getElem_toArray, List.getElem_cons_zero, List.getElem_cons_succ, List.setIfInBounds_toArray, List.set_cons_zero, List.set_cons_succ]
      refine wpAnyF_take (i := 5) (v := ?_) rfl (by kernel_rfl) (by kernel_rfl) (by kernel_rfl) (by kernel_rfl) (fun _ _ _ h => h) hHeld (Or.inl ⟨by rfl, ?_⟩) ?_
      rotate_left
      · (intro w hSw; (try rw [hSS] at hSw); (try dsimp only at hSw); go_simp; try with_reducible rfl)
      try simp only [Act.put, List.getElem_toArray, List.getElem_cons_zero, List.getElem_cons_succ, List.setIfInBounds_toArray, List.set_cons_zero, List.set_cons_succ]
      refine wpAnyF_take (i := 6) (v := ?_) rfl (by kernel_rfl) (by kernel_rfl) (by kernel_rfl) (by kernel_rfl) (fun _ _ _ h => h) hHeld (Or.inl ⟨by rfl, ?_⟩) ?_
      rotate_left
      · (intro w hSw; (try rw [hSS] at hSw); (try dsimp only at hSw); go_simp; try with_reducible rfl)
      try simp only [Act.put, List.getElem_toArray, List.getElem_cons_zero, List.getElem_cons_succ, List.setIfInBounds_toArray, List.set_cons_zero, List.set_cons_succ]
      refine wpAnyF_one (i := 3) (by kernel_rfl) rfl (fun K hK => ?_)
      have hnb := rnumber_any kd u5 Hkd.out
      rw [numB_enc Hkd.out] at hnb
      have Hnp : Hid ((enc kd).length ≤ 10) := Lib.hid (enc_len (v := kd) (by have := Hkd.out; omega))
      generalize henp : enc kd = Lp at hnb Hnp
      obtain ⟨np, hnp⟩ : ∃ q, Hid (q = Lp.length) := ⟨_, Lib.hid rfl⟩
      rw [← hnp.out] at hnb Hnp
      go_simp
      go_at_call 63
      refine hnb.mono ?_
      rintro e p ⟨Ap, cp, rfl, op, bbp⟩
      have kXp := kXu5.on bbp
      have bp := bu5.trans (bbp.mono hzu5)
      have hzp := Nat.le_trans hzu5 bp.size
      have rp := OwnB.on oRow bbp
      simp only []
      refine hK.out _ _ (Or.inr (sB _ kXp)) ?_
      clear hK K
      try simp only [Act.put, List.getElem_toArray, List.getElem_cons_zero, List.getElem_cons_succ, List.setIfInBounds_toArray, List.set_cons_zero, List.set_cons_succ]
      refine wpAnyF_one (i := 4) (by kernel_rfl) rfl (fun K hK => ?_)
      refine step_appB _ rfl (.tmp 19) (.tmp 22) rfl w.heap.size _ (m) _ rfl rp p.heap.size Ap np cp Lp rfl hnp.out.symm (op).sees (by have := Hm.out; have := Hnp.out; omega) hzp (m + np) rfl _ rfl ?_
      intro Aq cq q oq gq hkq
      have kXq := kXp.grown gq (own_off rp kXp (by decide))
      have bq : Below w.heap.size u5 q := below_app bp hzp rp gq
      have hzq := Nat.le_trans hzu5 bq.size
      refine hK.out _ _ (Or.inr (sB _ kXq)) ?_
      clear hK K
      try simp only [Act.put, List.getElem_toArray, List.getElem_cons_zero, List.getElem_cons_succ, List.setIfInBounds_toArray, List.set_cons_zero, List.set_cons_succ]
      refine wpAnyF_one (i := 7) (by kernel_rfl) rfl (fun K hK => ?_)
      have hnb := rnumber_any stp q Hst.out
      rw [numB_enc Hst.out] at hnb
      have Hnr : Hid ((enc stp).length ≤ 10) := Lib.hid (enc_len (v := stp) (by have := Hst.out; omega))
      generalize henr : enc stp = Lr at hnb Hnr
      obtain ⟨nr, hnr⟩ : ∃ q, Hid (q = Lr.length) := ⟨_, Lib.hid rfl⟩
      rw [← hnr.out] at hnb Hnr
      go_simp
      go_at_call 63
      refine hnb.mono ?_
      rintro e r ⟨Ar, cr, rfl, or, bbr⟩
      have kXr := kXq.on bbr
      have br := bq.trans (bbr.mono hzq)
      have hzr := Nat.le_trans hzu5 br.size
      have rr := OwnB.on oq bbr
      simp only []
      refine hK.out _ _ (Or.inr (sB _ kXr)) ?_
      clear hK K
      try simp only [Act.put, List.getElem_toArray, List.getElem_cons_zero, List.getElem_cons_succ, List.setIfInBounds_toArray, List.set_cons_zero, List.set_cons_succ]
      refine wpAnyF_one (i := 8) (by kernel_rfl) rfl (fun K hK => ?_)
      refine step_appB _ rfl (.tmp 23) (.tmp 26) rfl w.heap.size _ ((m + np)) _ rfl rr r.heap.size Ar nr cr Lr rfl hnr.out.symm (or).sees (by have := Hm.out; have := Hnp.out; have := Hnr.out; omega) hzr ((m + np) + nr) rfl _ rfl ?_
      intro As cs s os gs hks
      have kXs := kXr.grown gs (own_off rr kXr (by decide))
      have bs : Below w.heap.size u5 s := below_app br hzr rr gs
      have hzs := Nat.le_trans hzu5 bs.size
      refine hK.out _ _ (Or.inr (sB _ kXs)) ?_
      clear hK K
      try simp only [Act.put, List.getElem_toArray, List.getElem_cons_zero, List.getElem_cons_succ, List.setIfInBounds_toArray, List.set_cons_zero, List.set_cons_succ]
      refine wpAnyF_one (i := 9) (by kernel_rfl) rfl (fun K hK => ?_)
      go_simp
      refine hK.out _ _ (Or.inr (sB _ kXs)) ?_
      clear hK K
      try simp only [Act.put, List.getElem_toArray, List.getElem_cons_zero, List.getElem_cons_succ, List.setIfInBounds_toArray, List.set_cons_zero, List.set_cons_succ]
      refine wpAnyF_done (by kernel_rfl) ?_ _
      have hch := hch.below bs
      have hstl := hstl.below bs
      have bws := bwu.trans bs
      have x2 : s.cell? ⟨W0.heap.size, 2, none⟩ = some (.slice C1 nc cc1) := (kXs.cell 2).trans rfl
      have x3 : s.cell? ⟨W0.heap.size, 3, none⟩ = some (.slice S1 ns cs1) := (kXs.cell 3).trans rfl
      obtain ⟨M0, hM0⟩ : ∃ M0, Hid (M0 = m + np + nr) := ⟨_, Lib.hid rfl⟩
      rw [← hM0.out] at os ⊢
      have hM0b : M0 ≤ 30 + 400000 * k := by have := Hm2.out; have := Hnp.out; have := Hnr.out; have := hM0.out; omega
      have hk14 : k < 16384 := by have := Hlt.out; omega
      obtain ⟨LB, hLB⟩ : ∃ LB, Hid (LB = L0 ++ (l.take k).flatMap encN ++ Lp ++ Lr) := ⟨_, Lib.hid rfl⟩
      rw [← hLB.out] at os
      have hLi : ∀ q : Nat, q < 2 → ∃ (Cx : Option Addr) (nx cx : Nat) (lx : List Int), (#[Value.slice C1 nc cc1, Value.slice S1 ns cs1])[q]? = some (.slice Cx nx cx) ∧ [ch, st][q]? = some lx ∧ Sees s w.heap.size Cx (lx.map iv) ∧ lx.length = nx ∧ nx < 16384 ∧ (∀ z ∈ lx, 0 ≤ z ∧ z < 16384) := by
        intro q hq
        rcases q with _ | _ | q
        · exact ⟨C1, nc, cc1, ch, rfl, rfl, hch, hcl, by rw [← hcl]; exact Hfe.out, Hzc.out⟩
        · exact ⟨S1, ns, cs1, st, rfl, rfl, hstl, hsl, by rw [← hsl]; exact Hfs.out, Hzs.out⟩
        · omega
      have HLI := Lib.hid hLi
      clear hLi hch hstl
      go_wp2_with fail
      have kl := Blk.new s 33 #[.slice C1 nc cc1, .slice S1 ns cs1]
      have bl := bAl (Below.refl s.heap.size s) (.cells #[.slice C1 nc cc1, .slice S1 ns cs1] 33)
      have ol := OwnB.on os bl
      have bwl := bws.trans (bl.mono bws.size)
      have hgs := bws.size
      have hbs0 : Below w.heap.size s (s.alloc (.cells #[.slice C1 nc cc1, .slice S1 ns cs1] 33)) := bl.mono bws.size
      have HOs := Lib.hid os
      clear kXs x2 x3 bl os
      go_loopw [3, 34] (fun v3 v34 wq => ∃ (q M cq : Nat) (Aq : Option Addr), q ≤ 2 ∧ v34 = .int .i64 (q : Int) ∧ v3 = .slice Aq M cq ∧ M ≤ 30 + 400000 * k + 170000 * q ∧ OwnB wq w.heap.size (.slice Aq M cq) M (LB ++ ([ch, st].take q).flatMap encLst) ∧ Blk wq s.heap.size 33 #[.slice C1 nc cc1, .slice S1 ns cs1] ∧ Below w.heap.size s wq) (fun _ v34 _ => 2 - (intOf v34).toNat)
      case atStart => exact ⟨0, M0, _, _, Nat.zero_le _, rfl, rfl, by omega, by simpa using ol, kl, hbs0⟩
      case round =>
        clear kl ol hbs0 bwl
        obtain ⟨q, M, cq, Aq, hq, rfl, rfl, hM, oq', kq, bq⟩ := hrel
        obtain ⟨Wq, rfl⟩ : ∃ W, W = wr := ⟨_, rfl⟩
        have hgq := bq.size
        have hsw : w.heap.size ≤ Wq.heap.size := Nat.le_trans hgs hgq
        by_cases hq2 : q < 2
        · have hq2' : (q : Int) < 2 := by omega
          obtain ⟨Cx, nx, cx, lx, hcell, hlx, hsx, hlen, hnx, hzx⟩ := HLI.out q hq2
          have hcx : Wq.cell? ⟨s.heap.size, q, none⟩ = some (.slice Cx nx cx) := (kq.cell q).trans hcell
          have hsx0 := Lib.hid hsx
          have hsx := hsx.below bq
          have HX := Lib.hid hlen
          have HLX := Lib.hid (flat_take encLst hlx)
          have HZX := Lib.hid hzx
          have hnb := rnumber_any nx Wq hnx
          rw [numB_enc hnx] at hnb
          have Hn1 : Hid ((enc nx).length ≤ 10) := Lib.hid (enc_len (v := nx) (by omega))
          obtain ⟨Lx, hLx⟩ : ∃ L, Hid (L = enc nx) := ⟨_, Lib.hid rfl⟩
          rw [← hLx.out] at hnb Hn1
          obtain ⟨nl, hnl⟩ : ∃ n, Hid (n = Lx.length) := ⟨_, Lib.hid rfl⟩
          rw [← hnl.out] at hnb Hn1
          have hnxi : (nx : Int) < 16384 := by omega
          clear hcell hlx hlen hzx
          go_wp2_with fail
          refine hnb.mono ?_
          rintro e u1 ⟨A1, c1', rfl, o1, b1⟩
          have oq1 := OwnB.on oq' b1
          have kq1 := kq.on b1
          have bq1 := bq.trans (b1.mono hsw)
          have hz1 := bq1.size
          have hwz1 : w.heap.size ≤ u1.heap.size := Nat.le_trans hgs hz1
          go_wp2_with (at_builtin; refine wpL_appB _ rfl (.tmp 38) (.tmp 41) rfl w.heap.size _ M _ rfl oq1 u1.heap.size A1 nl c1' Lx rfl hnl.out.symm o1.sees (by have := Hn1.out; omega) hwz1 (M + nl) rfl _ rfl ?_; intro A2 c2 w2 o2 g2 hk2; have kq2 := kq1.grown g2 (own_off oq1 kq1 (by decide)); have bq2 := below_app bq1 hwz1 oq1 g2)
          have hM2 : M + nl ≤ 40 + 400000 * k + 170000 * q := by have := Hn1.out; omega
          have HM := Lib.hid hM
          have HM2 := Lib.hid hM2
          have Hnx := Lib.hid hnx
          clear oq' oq1 o1 g2 kq1 bq1 b1 hk2 hM hM2 kq bq hcx hnb
          go_loopw [3, 45] (fun v3 v45 wi => ∃ (r N ci : Nat) (Ai : Option Addr), r ≤ nx ∧ v45 = .int .i64 (r : Int) ∧ v3 = .slice Ai N ci ∧ N ≤ M + nl + 10 * r ∧ OwnB wi w.heap.size (.slice Ai N ci) N (LB ++ ([ch, st].take q).flatMap encLst ++ Lx ++ (lx.take r).flatMap encZ) ∧ Blk wi s.heap.size 33 #[.slice C1 nc cc1, .slice S1 ns cs1] ∧ Below w.heap.size s wi) (fun _ v45 _ => nx - (intOf v45).toNat)
          case atStart => exact ⟨0, M + nl, _, _, Nat.zero_le _, rfl, rfl, by omega, by simpa using o2, kq2, bq2⟩
          case round =>
            clear o2 kq2 bq2
            obtain ⟨r, N, ci, Ai, hr, rfl, rfl, hN, oi, ki, bi⟩ := hrel
            obtain ⟨Wi, rfl⟩ : ∃ W, W = wr := ⟨_, rfl⟩
            by_cases hrx : r < nx
            · have hrx' : (r : Int) < (nx : Int) := by omega
              have hsi := hsx0.out.below bi
              obtain ⟨b, o, z, rfl, hb2, Hz, hcz⟩ := Sees.int (k := r) hsi (by rw [HX.out]; exact hrx)
              have hzz := HZX.out z (List.mem_of_getElem? Hz.out)
              obtain ⟨zn, rfl⟩ : ∃ q : Nat, z = (q : Int) := ⟨z.toNat, by omega⟩
              have hzn : zn < 16384 := by omega
              have HT := Lib.hid (flat_take encZ Hz.out)
              have hnb := rnumber_any zn Wi hzn
              rw [numB_enc hzn] at hnb
              have Hn3 : Hid ((enc zn).length ≤ 10) := Lib.hid (enc_len (v := zn) (by omega))
              obtain ⟨Lz, hLz⟩ : ∃ L, Hid (L = enc zn) := ⟨_, Lib.hid rfl⟩
              rw [← hLz.out] at hnb Hn3
              obtain ⟨nz, hnz⟩ : ∃ n, Hid (n = Lz.length) := ⟨_, Lib.hid rfl⟩
              rw [← hnz.out] at hnb Hn3
              have hwi := bi.size
              have hswi : w.heap.size ≤ Wi.heap.size := Nat.le_trans hgs hwi
              clear hsi Hz hzz
              go_wp2_with fail
              refine hnb.mono ?_
              rintro e u3 ⟨A3, c3', rfl, o3, b3⟩
              have oi3 := OwnB.on oi b3
              have ki3 := ki.on b3
              have bi3 := bi.trans (b3.mono hswi)
              have hwz3 : w.heap.size ≤ u3.heap.size := Nat.le_trans hgs bi3.size
              go_wp2_with (at_builtin; refine wpL_appB _ rfl (.tmp 49) (.tmp 51) rfl w.heap.size _ N _ rfl oi3 u3.heap.size A3 nz c3' Lz rfl hnz.out.symm o3.sees (by have := Hn3.out; have := HM2.out; have := Hnx.out; omega) hwz3 (N + nz) rfl _ rfl ?_; intro A4 c4 w4 o4 g4 hk4; have ki4 := ki3.grown g4 (own_off oi3 ki3 (by decide)); have bi4 := below_app bi3 hwz3 oi3 g4)
              have hrow4 : OwnB w4 w.heap.size (.slice A4 (N + nz) c4) (N + nz) (LB ++ ([ch, st].take q).flatMap encLst ++ Lx ++ (lx.take (r + 1)).flatMap encZ) := by
                rw [HT.out, ← List.append_assoc]
                have e9 : encZ ((zn : Nat) : Int) = Lz := by rw [hLz.out]; rfl
                rw [e9]
                exact o4
              go_roundw
              case rel => exact ⟨r + 1, N + nz, c4, A4, by omega, by go_num, rfl, by have := Hn3.out; omega, hrow4, ki4, bi4⟩
              case measure => simp [intOf]; omega
            · obtain rfl : r = nx := by omega
              have hrx' : ¬ (r : Int) < (r : Int) := by omega
              have hfin : lx.take r = lx := List.take_of_length_le (by rw [HX.out]; exact Nat.le_refl _)
              rw [hfin] at oi
              have Hrow : Hid (OwnB Wi w.heap.size (.slice Ai N ci) N (LB ++ ([ch, st].take (q + 1)).flatMap encLst)) := Lib.hid (by
                rw [HLX.out]
                have e9 : encLst lx = Lx ++ lx.flatMap encZ := by unfold encLst; rw [hLx.out, HX.out]
                rw [e9]
                simpa [List.append_assoc] using oi)
              clear oi hfin
              go_wp2_with fail
              go_roundw
              case rel => exact ⟨q + 1, N, ci, Ai, by omega, by go_num, rfl, by have := HM2.out; have := Hnx.out; omega, Hrow.out, ki, bi⟩
              case measure => simp [intOf]; omega
        · have hMk : M ≤ 10 + 400000 * (k + 1) := mbound hM hq
          obtain rfl : q = 2 := by omega
          have hq2' : ¬ (((2 : Nat) : Int) < 2) := by omega
          have hall : ([ch, st].take 2).flatMap encLst = encLst ch ++ encLst st := by simp
          rw [hall] at oq'
          have Hrow : Hid (OwnB Wq w.heap.size (.slice Aq M cq) M (L0 ++ (l.take (k + 1)).flatMap encN)) := Lib.hid (by
            rw [ft.out, encN_lst]
            have e1 : enc (Nd.mk kd (stp : Int) ch st).kind = Lp := henp
            have e2 : encZ (Nd.mk kd (stp : Int) ch st).step = Lr := henr
            rw [e1, e2]
            have e3 := hLB.out
            rw [e3] at oq'
            simpa [List.append_assoc] using oq')
          have bfin : Below w.heap.size w Wq := bws.trans bq
          have hk1 : k + 1 ≤ n := by have := Hlt.out; omega
          have HMk := Lib.hid hMk
          clear hMk hM
          clear oq' hall
          go_wp2_with fail
          go_roundw
          case rel => exact ⟨k + 1, M, cq, Aq, hk1, by go_num, rfl, HMk.out, Hrow.out, bfin⟩
          case measure => simp [intOf]; have := Hlt.out; omega
    · obtain rfl : k = n := by omega
      have hlt' : ¬ (k : Int) < (k : Int) := by omega
      have hfin : l.take k = l := List.take_of_length_le (by rw [Hn.out]; exact Nat.le_refl _)
      rw [hfin] at oRow
      go_wp2_with fail
      go_ret
      exact ⟨Ao, m, co, rfl, oRow, bw⟩
end Go.Proofs.YtcdgmdhfaniciaaDoor
