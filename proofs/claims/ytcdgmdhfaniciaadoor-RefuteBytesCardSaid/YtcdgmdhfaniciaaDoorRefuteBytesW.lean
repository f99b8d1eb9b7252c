/- The walk of RefuteBytes. (genrb.py) -/
import Derived.Test.YtcdgmdhfaniciaaDoorPk
import Derived.Test.YtcdgmdhfaniciaaDoorMkB
import Derived.Test.YtcdgmdhfaniciaaDoorRMk3
import Derived.Test.YtcdgmdhfaniciaaDoorPj
import Derived.Test.YtcdgmdhfaniciaaDoorPm
import Derived.Test.YtcdgmdhfaniciaaDoorAw
import Derived.Test.YtcdgmdhfaniciaaDoorSa
import Derived.Test.YtcdgmdhfaniciaaDoorRf
import Derived.Test.YtcdgmdhfaniciaaDoorRbW
import Derived.Test.YtcdgmdhfaniciaaDoorRsP
import Derived.Test.YtcdgmdhfaniciaaDoorRtP
import Derived.Test.YtcdgmdhfaniciaaDoorRead
import Derived.Test.YtcdgmdhfaniciaaDoorByW
import Derived.Test.YtcdgmdhfaniciaaDoorBytesEq
import Derived.Test.YtcdgmdhfaniciaaDoorChH
import Derived.Test.YtcdgmdhfaniciaaDoorEqN
import Derived.Test.YtcdgmdhfaniciaaDoorRBP
import Derived.Test.YtcdgmdhfaniciaaDoorCfB
import Derived.Deep.RegionHeld3
import Derived.Deep.QuietTactic
import Derived.BigQuiet
namespace Go.Proofs.YtcdgmdhfaniciaaDoor.refuteBytes
open Go.RowKit
set_option linter.unusedVariables false
set_option linter.unusedSimpArgs false

theorem step_rowW (e t : TypeId) (z : Value) (size bytes : Nat) (hinf : (Tryd.prog.info? e).map (fun i => (i.zero, i.size, i.bytes)) = some (some z, size, bytes)) (ht : Tryd.prog.underlying t = some (.slice e)) (hzs : z.cells.size = size) (hsz : 0 < size) (hby : bytes ≤ 100)
    (w : World) {ops : Array Oper} {o : Oper} {a : Act} {K : Act → World → Prop} {Q : Exit → Act → World → Prop} {E : Prop} (hgd : Region.wanted o (yielded ops a.tmps) = true) (s x : Operand) (ho : o.op = .call { callee := .builtin .append, args := #[s, x], argTypes := #[t, t] })
    (base : Nat) (v : Value) (n : Nat) (xs : List Value) (hs : a.eval s = v) (hown : w.ownsRow base e size v n xs)
    (B : Nat) (A : Option Addr) (m c : Nat) (ys : List Value) (hx : a.eval x = .slice A m c) (hl : ys.length = m * size) (hr : Sees w B A ys) (h1 : ∀ u ∈ ys, u.oneCell' = true) (hb : n + m ≤ 1000000000) (hbase : base ≤ w.heap.size) (n' : Nat) (hn' : n + m = n')
    (h : ∀ A' c' w', w'.ownsRow base e size (.slice A' n' c') n' (xs ++ ys) → Below base w w' → K (a.put o.dst (.slice A' n' c')) w') : if Region.wanted o (yielded ops a.tmps) = true then Oper.wp Tryd.prog o a w K Q else E := by
  obtain ⟨i0, hi0, hz0, hz1, hz2⟩ := info_parts hinf
  rw [if_pos hgd]
  refine wp_append_sees w s x t ho base e i0 z size bytes ht hi0 hz0 hz1 hz2 hzs hsz v n xs hs hown B A m c ys hx hl hr h1
    (by unfold maxLen; omega) (by have := Nat.mul_le_mul hb hby; omega) hbase n' hn' _ rfl ?_
  intro A' c' w' q1 q2 q3
  exact h A' c' w' q1 (below_app (Below.refl base w) hbase hown q2)
theorem own_hi {w0 w' : World} {lo hi e s n : Nat} {v : Value} {xs : List Value} (h : w0.ownsRow lo e s v n xs) (hs : w0.heap.size ≤ hi) (hk : Hi lo hi w0 w') : w'.ownsRow lo e s v n xs := by
  refine ⟨h.1, ?_⟩
  rcases h.2 with h | ⟨g, cap, cur, h1, h2, h3, h4⟩
  · exact .inl h
  · exact .inr ⟨g, cap, cur, h1, h2, (hk g h2 (Nat.lt_of_lt_of_le (Array.getElem?_eq_some_iff.1 h3).1 hs)).trans h3, h4⟩
theorem ns_hi {k : IntKind} {T : TypeId} {w0 w' : World} {lo hi n : Nat} {v : Value} {ys : List NdS} (h : OwnNs k T w0 lo v n ys) (hs : w0.heap.size ≤ hi) (hk : Hi lo hi w0 w') : OwnNs k T w' lo v n ys :=
  ⟨own_hi h.row hs hk, fun y hy => ⟨(h.nd y hy).k8, own_hi (h.nd y hy).ch hs hk, own_hi (h.nd y hy).st hs hk, (h.nd y hy).bc, (h.nd y hy).bs⟩⟩
theorem ns_out {k : IntKind} {T : TypeId} {w : World} {base lo hi n : Nat} {v : Value} {ys : List NdS} (h : OwnNs k T w base v n ys) (hs : w.heap.size ≤ lo) : OutNs lo hi v ys :=
  ⟨fun b hb => Or.inl (Nat.lt_of_lt_of_le (World.ownsRow.lt h.row b hb).2 hs), fun y hy => ⟨fun b hb => Or.inl (Nat.lt_of_lt_of_le (World.ownsRow.lt (h.nd y hy).ch b hb).2 hs), fun b hb => Or.inl (Nat.lt_of_lt_of_le (World.ownsRow.lt (h.nd y hy).st b hb).2 hs)⟩⟩
theorem hi_trans {lo hi : Nat} {a b c : World} (h : Hi lo hi a b) (h2 : Hi lo hi b c) : Hi lo hi a c := fun k h3 h4 => (h2 k h3 h4).trans (h k h3 h4)
theorem blk_hi {w0 w' : World} {lo hi g t : Nat} {cs : Array Value} (h : Blk w0 g t cs) (h1 : lo ≤ g) (h2 : g < hi) (hk : Hi lo hi w0 w') : Blk w' g t cs := (hk g h1 h2).trans h
theorem badN_of {x : Nd} (c1 c2 c3 : Bool) (h1 : decide ((x.kind : Int) < 1) = c1) (h2 : decide (3 < (x.kind : Int)) = c2) (h3 : decide (x.step < 0) = c3) : badN x = (c1 || c2 || c3 || (x.ch ++ x.st).any negB) := by
  unfold badN
  rw [show decide (x.kind < 1) = c1 by rw [← h1, Bool.eq_iff_iff]; simp; omega, show decide (3 < x.kind) = c2 by rw [← h2, Bool.eq_iff_iff]; simp; omega, h3]
  rfl
set_option maxHeartbeats 32000000 in
set_option maxRecDepth 100000 in
theorem walk (r : RwV) (R : Rw) (Ac : Option Addr) (nc cc : Nat) (lc : List Chg) (w : World) (h : RwAt w w.heap.size r R) (hl : ArgChgs w Ac nc cc lc) (hT : Tab w) :
    Calls Tryd.prog 11 #[r.v R, .slice Ac nc cc] w fun e w' => e = .returned (.bool true) ∧ Below w.heap.size w w' := by
  have hg0 : 0 < w.heap.size := World.block_lt_of_cell? w _ (hT 0 (by omega))
  have mk := fun W (hw : Below w.heap.size w W) => rmake_any r R W (h.on hw)
  have mf := mkP_few R
  have hc := chkP_mkP R
  obtain ⟨P, hP⟩ : ∃ P, Hid (P = mkP R) := ⟨_, Lib.hid rfl⟩
  rw [← hP.out] at mf mk hc
  have h32 : Few32 P := by rw [hP.out]; exact mkP_32 R
  have rf := fun W (hW : Below w.heap.size w W) q (h1 : RPrAt W W.heap.size q P) => refute_any q P 0 true W h1 hc mf.e1 (mem5 h32) (by omega)
  have rsm := Lib.hid (fun (l : List Nd) (sts : List (List Int)) (h : RefOk P l sts) (hn : l.length ≤ 10000) => ref_small h (chkP_ok hc) mf.e1 (mem5 h32) hn)
  obtain ⟨⟨A1, n1, c1⟩, ⟨A2, n2, c2⟩, ⟨A3, n3, c3⟩, ⟨A4, n4, c4⟩, ⟨A5, n5, c5⟩⟩ := r
  obtain ⟨st, hst⟩ : ∃ st, Hid (st = R.steps) := ⟨_, Lib.hid rfl⟩
  unfold RwV.v Sl.v at mk ⊢
  simp only [] at mk ⊢
  rw [← hst.out] at mk ⊢
  have me1 := mf.e1
  clear h mf
  go_enter Tryd.func11, Tryd.ntmps11
  go_wp2_with fail
  have r1 : Blk (w.alloc (.cells #[.int .u8 (st : Int), .slice A1 n1 c1, .slice A2 n2 c2, .slice A3 n3 c3, .slice A4 n4 c4, .slice A5 n5 c5] 25)) w.heap.size 25 #[.int .u8 (st : Int), .slice A1 n1 c1, .slice A2 n2 c2, .slice A3 n3 c3, .slice A4 n4 c4, .slice A5 n5 c5] := Blk.new w 25 #[.int .u8 (st : Int), .slice A1 n1 c1, .slice A2 n2 c2, .slice A3 n3 c3, .slice A4 n4 c4, .slice A5 n5 c5]
  have b1 : Below w.heap.size w (w.alloc (.cells #[.int .u8 (st : Int), .slice A1 n1 c1, .slice A2 n2 c2, .slice A3 n3 c3, .slice A4 n4 c4, .slice A5 n5 c5] 25)) := bAl (Below.refl w.heap.size w) _
  generalize (w.alloc (.cells #[.int .u8 (st : Int), .slice A1 n1 c1, .slice A2 n2 c2, .slice A3 n3 c3, .slice A4 n4 c4, .slice A5 n5 c5] 25)) = W0 at r1 b1 ⊢
  refine (awake_any W0 (hT.below b1 hg0)).mono ?_
  rintro e W1 ⟨rfl, ba⟩
  have r1 := r1.on ba
  have b1 := b1.trans (ba.mono b1.size)
  clear ba
  have x0 : W1.cell? ⟨w.heap.size, 0, none⟩ = some (.int .u8 (st : Int)) := (r1.cell 0).trans rfl
  have x1 : W1.cell? ⟨w.heap.size, 1, none⟩ = some (.slice A1 n1 c1) := (r1.cell 1).trans rfl
  have x2 : W1.cell? ⟨w.heap.size, 2, none⟩ = some (.slice A2 n2 c2) := (r1.cell 2).trans rfl
  have x3 : W1.cell? ⟨w.heap.size, 3, none⟩ = some (.slice A3 n3 c3) := (r1.cell 3).trans rfl
  have x4 : W1.cell? ⟨w.heap.size, 4, none⟩ = some (.slice A4 n4 c4) := (r1.cell 4).trans rfl
  have x5 : W1.cell? ⟨w.heap.size, 5, none⟩ = some (.slice A5 n5 c5) := (r1.cell 5).trans rfl
  go_wp2_with fail
  refine (mk W1 b1).mono ?_
  rintro e W2 ⟨⟨⟨B1, m1, d1⟩, ⟨B2, m2, d2⟩, ⟨B3, m3, d3⟩, ⟨B4, m4, d4⟩, ⟨B5, m5, d5⟩⟩, rfl, hO, bw2⟩
  have b2 := b1.trans (bw2.mono b1.size)
  have hrf := rf W2 b2 ⟨⟨B1, m1, d1⟩, ⟨B2, m2, d2⟩, ⟨B3, m3, d3⟩, ⟨B4, m4, d4⟩, ⟨B5, m5, d5⟩⟩ hO.at
  simp only [PrV.v, Sl.v]
  unfold PrV.v Sl.v at hrf
  simp only [] at hrf
  clear x0 x1 x2 x3 x4 x5 r1 mk rf
  go_wp2_with fail
  refine hrf.mono ?_
  rintro e W3 ⟨An, nn, cn, rfl, ⟨ys, oN, hAp, hSm, sts, hR⟩, hnn, bw3⟩
  have b3 := b2.trans (bw3.mono b2.size)
  obtain ⟨lN, hlN⟩ : ∃ lN, Hid (lN = ys.map (·.x)) := ⟨_, Lib.hid rfl⟩
  have hlen : lN.length = nn := by rw [hlN.out, List.length_map]; exact oN.len
  rw [← hlN.out] at hR
  obtain ⟨hsm, hok, htot, hbl, hblen⟩ := rsm.out _ _ hR (by omega)
  have HOK := Lib.hid hok
  have hat : RNodesAt W3 W3.heap.size An lN := by rw [hlN.out]; exact oN.atR
  have hno := nodes41_any An nn cn lN W3 hat hlen (by omega)
  have hby : ∀ W, Below W3.heap.size W3 W → Calls Tryd.prog 30 #[.slice An nn cn] W fun e w' => ∃ A c, e = .returned (.slice A (bytesL lN).length c) ∧ OwnB w' W.heap.size (.slice A (bytesL lN).length c) (bytesL lN).length (bytesL lN) ∧ Below W.heap.size W w' := fun W hW => by
    have := rBytesL_any An nn cn lN W (hat.on hW) hlen (by omega) hsm
    rw [← hlen, ← hbl] at this
    rw [← hlen]
    exact this.mono fun e w' ⟨A', m', c', he, ho, hb⟩ => by
      obtain rfl : m' = (bytesL lN).length := ho.len.symm
      exact ⟨A', c', he, ho, hb⟩
  obtain ⟨LQ, hLQ⟩ : ∃ L, Hid (L = bytesL lN) := ⟨_, Lib.hid rfl⟩
  have hLQpos : 0 < LQ.length := by rw [hLQ.out]; exact bytesL_pos hok hbl
  have hrt := rdN_enc hok (by omega)
  rw [← hLQ.out] at hby hblen hrt
  have HRT := Lib.hid hrt
  have HSM := Lib.hid hsm
  have hsz3 : W2.heap.size ≤ W3.heap.size := bw3.size
  clear hat hrt hsm hok hbl hrf rsm hO hR
  go_wp2_with fail
  refine hno.mono ?_
  rintro e W4 ⟨Ax, cx, rfl, ⟨zs, hzs, oX⟩, bw4⟩
  have HZS := Lib.hid hzs
  have HLEN := Lib.hid hlen
  go_upto_region 5 with fail
  have kx := Blk.new W4 53 #[.slice Ax nn cx]
  have bx := bAl (Below.refl W4.heap.size W4) (.cells #[.slice Ax nn cx] 53)
  have sz5 : (W4.alloc (.cells #[.slice Ax nn cx] 53)).heap.size = W4.heap.size + 1 := by simp
  generalize (W4.alloc (.cells #[.slice Ax nn cx] 53)) = W5 at kx bx sz5 ⊢
  have HSZ5 := Lib.hid sz5
  have oX5 := oX.on bx
  have bW5 : Below W3.heap.size W3 W5 := bJoin bw4 bx
  clear sz5 hno hzs hlen
  go_wp2_with fail
  refine (hby W5 bW5).mono ?_
  rintro e W6 ⟨Aq, cq, rfl, oq, bw6⟩
  have HR6 := Lib.hid (read_walk Aq LQ.length cq LQ W6 oq.sees rfl hblen)
  have hrd := HR6.out
  rw [HRT.out.1, HRT.out.2] at hrd
  unfold RdPost at hrd
  simp only [if_true] at hrd
  go_wp2_with fail
  refine hrd.mono ?_
  rintro e W7 ⟨A7, n7, c7, rfl, hgood, _, hn76, bw7⟩
  obtain ⟨ys7, hy7, o7⟩ := hgood trivial
  have hn7 : n7 = nn := by
    have h1 := o7.len
    have h2 : (ys7.map (·.x)).length = lN.length := by rw [hy7]
    rw [List.length_map, h1, HLEN.out] at h2
    exact h2
  subst hn7
  have HY7 := Lib.hid hy7
  go_upto_region 6 with fail
  have ky := Blk.new W7 53 #[.slice A7 n7 c7]
  have by8 := bAl (Below.refl W7.heap.size W7) (.cells #[.slice A7 n7 c7] 53)
  generalize (W7.alloc (.cells #[.slice A7 n7 c7] 53)) = W8 at ky by8 ⊢
  have b58 : Below W5.heap.size W5 W8 := (bw6.trans (bw7.mono bw6.size)).trans (by8.mono (Nat.le_trans bw6.size bw7.size))
  have kx8 := kx.on b58
  have oX8 := oX5.on b58
  have o78 := o7.on by8
  have hn6 : n7 ≤ 1000000 := by omega
  have hq1 := requal_any Ax A7 n7 cx n7 c7 lN lN W8 (by have h := oX8.atP; rwa [HZS.out] at h) (by have h := o78.atP; rwa [HY7.out] at h) HLEN.out HLEN.out hn6
  rw [show decide (lN = lN) = true by simp] at hq1
  have bW8 : Below W3.heap.size W3 W8 := bW5.trans (b58.mono bW5.size)
  have xx8 : W8.cell? ⟨W4.heap.size, 0, none⟩ = some (.slice Ax n7 cx) := (kx8.cell 0).trans rfl
  have yy8 : W8.cell? ⟨W7.heap.size, 0, none⟩ = some (.slice A7 n7 c7) := (ky.cell 0).trans rfl
  clear hgood hrd hy7
  go_wp2_with fail
  refine hq1.mono ?_
  rintro e W9 ⟨rfl, bw9⟩
  have kx9 := kx8.on bw9
  have oX9 := oX8.on bw9
  have xx9 : W9.cell? ⟨W4.heap.size, 0, none⟩ = some (.slice Ax n7 cx) := (kx9.cell 0).trans rfl
  have hp9 := pBytes_any Ax n7 cx lN W9 (by have h := oX9.atP; rwa [HZS.out] at h) HLEN.out (by omega) hn6
  rw [← hLQ.out] at hp9
  have bW9 : Below W3.heap.size W3 W9 := bW8.trans (bw9.mono bW8.size)
  clear xx8 yy8 hq1
  go_wp2_with fail
  refine hp9.mono ?_
  rintro e W10 ⟨A10, c10, rfl, o10, bw10⟩
  have bW10 : Below W3.heap.size W3 W10 := bW9.trans (bw10.mono bW9.size)
  have kx10 := kx9.on bw10
  have oX10 := oX9.on bw10
  clear xx9 hp9
  go_wp2_with fail
  refine (hby W10 bW10).mono ?_
  rintro e W11 ⟨A11, c11, rfl, o11, bw11⟩
  have heq := equal_any A10 A11 LQ.length c10 LQ.length c11 LQ LQ W11 ((OwnB.on o10 bw11).sees) (OwnB.sees o11) rfl rfl (by omega)
  rw [beq_self_eq_true] at heq
  clear hby
  go_wp2_with fail
  refine heq.mono ?_
  rintro e W12 ⟨rfl, q12, rfl⟩
  have bd12 := below_drewN (Below.refl W11.heap.size W11) q12
  generalize (W11.drewN q12) = W12 at bd12 ⊢
  have bW12 : Below W3.heap.size W3 W12 := (bW10.trans (bw11.mono bW10.size)).trans (bd12.mono (Nat.le_trans bW10.size bw11.size))
  have kx12 := (kx10.on bw11).on bd12
  have oX12 := (oX10.on bw11).on bd12
  have b512 : Below W5.heap.size W5 W12 := ((b58.trans (bw9.mono b58.size)).trans (bw10.mono (Nat.le_trans b58.size bw9.size))).trans ((bw11.trans (bd12.mono bw11.size)).mono (Nat.le_trans (Nat.le_trans b58.size bw9.size) bw10.size))
  have b12 : Below w.heap.size w W12 := b3.trans (bW12.mono b3.size)
  have oN12 := oN.on bW12
  have hCh : ChgsAt W12 W2.heap.size Ac lc := (hl.mem.below b12).more b2.size
  have hcg := change_hi An n7 cn ys Ac nc cc lc W2.heap.size W3.heap.size W5.heap.size W12 oN12 hAp hSm (Nat.le_trans hsz3 bW12.size) (by omega) hCh hl.len hl.cap hl.max (ns_out oN (Nat.le_refl _)) b512.size
  rw [← hlN.out] at hcg
  have HUP := Lib.hid (chgL_up (cs := lc) HSM.out (fun c hc => by obtain ⟨i, hi⟩ := List.mem_iff_getElem?.1 hc; have := ((hl.mem i c hi).1).n2; omega))
  obtain ⟨lz, hlz0⟩ : ∃ l, Hid (l = chgL lN lc) := ⟨_, Lib.hid rfl⟩
  rw [← hlz0.out] at hcg HUP
  clear heq o10 o11 hCh
  go_wp2_with fail
  refine hcg.mono ?_
  rintro e W13 ⟨A13, n13, c13, rfl, ⟨ys13, hy13, o13, _, hS13⟩, hn13, bw13, hHi⟩
  have hlz : lz.length = n13 := by rw [← hy13, List.length_map]; exact o13.len
  have hat13 : RNodesAt W13 W13.heap.size A13 lz := by rw [← hy13]; exact o13.atR
  have HS13 := Lib.hid (show ∀ x ∈ lz, x.ch.length ≤ 67 ∧ x.st.length ≤ 67 from fun x hx => by
    rw [← hy13] at hx
    obtain ⟨y, hy, rfl⟩ := List.mem_map.1 hx
    have h1 := hS13 y hy
    have h2 := OwnI.len (o13.nd y hy).ch
    have h3 := OwnI.len (o13.nd y hy).st
    exact ⟨by omega, by omega⟩)
  have hn136 : n13 ≤ 1000000 := by omega
  have htz : tot lz ≤ 1000000000 := by
    have h1 := tot_le HS13.out
    rw [hlz] at h1
    have h2 := Nat.mul_le_mul hn13 (Nat.le_refl (2 * 67 + 4))
    omega
  have hHx : Hi W3.heap.size W5.heap.size W5 W13 := hi_trans (Hi.below (fun _ _ _ => rfl) b512 (Nat.le_refl _)) hHi
  have oX13 := ns_hi oX5 (Nat.le_refl _) hHx
  have kx13 := blk_hi kx bw4.size (by rw [HSZ5.out]; omega) hHx
  have hno := nodes41_any A13 n13 c13 lz W13 hat13 hlz hn136
  have b13 : Below w.heap.size w W13 := b12.trans (bw13.mono b2.size)
  clear hcg hHi hat13 hy13
  go_wp2_with fail
  refine hno.mono ?_
  rintro e W14 ⟨A14, c14, rfl, ⟨zz14, hz14, o14⟩, bw14⟩
  go_upto_region 9 with fail
  have kz := Blk.new W14 53 #[.slice A14 n13 c14]
  have bz := bAl (Below.refl W14.heap.size W14) (.cells #[.slice A14 n13 c14] 53)
  have hsz14 : (W14.alloc (.cells #[.slice A14 n13 c14] 53)).heap.size = W14.heap.size + 1 := by simp
  generalize (W14.alloc (.cells #[.slice A14 n13 c14] 53)) = W15 at kz bz hsz14 ⊢
  have HSZ14 := Lib.hid hsz14
  clear hsz14
  have bw15 := bJoin bw14 bz
  have kx15 := kx13.on bw15
  have oX15 := oX13.on bw15
  have hatx : NodesAt W15 W15.heap.size Ax lN := by have h := oX15.atP; rwa [HZS.out] at h
  have hatz : NodesAt W15 W15.heap.size A14 lz := by have h := (o14.on bz).atP; rwa [hz14] at h
  have b15 : Below w.heap.size w W15 := b13.trans (bw15.mono b13.size)
  have hq2 := requal_any Ax A14 n7 cx n13 c14 lN lz W15 hatx hatz HLEN.out hlz hn6
  obtain ⟨bsame, hbs⟩ : ∃ b, Hid (b = decide (lN = lz)) := ⟨_, Lib.hid rfl⟩
  rw [← hbs.out] at hq2
  have xx15 : W15.cell? ⟨W4.heap.size, 0, none⟩ = some (.slice Ax n7 cx) := (kx15.cell 0).trans rfl
  have zz15 : W15.cell? ⟨W14.heap.size, 0, none⟩ = some (.slice A14 n13 c14) := (kz.cell 0).trans rfl
  have hzlt : W14.heap.size < W15.heap.size := by rw [HSZ14.out]; omega
  have hxlt : W4.heap.size < W15.heap.size := kx15.lt
  clear hno hz14
  go_wp2_with fail
  refine hq2.mono ?_
  rintro e W16 ⟨rfl, bw16⟩
  have zz16 : W16.cell? ⟨W14.heap.size, 0, none⟩ = some (.slice A14 n13 c14) := ((kz.on bw16).cell 0).trans rfl
  have hn13i : (n13 : Int) ≤ 1000000 := by omega
  have HLZ := Lib.hid hlz
  have HPZ := Lib.hid (show bytesL lz = [] → ∀ V, Below W15.heap.size W15 V → Calls Tryd.prog 33 #[.agg #[.slice A14 n13 c14]] V fun e w' => ∃ A' c', e = .returned (.slice A' 0 c') ∧ Below w.heap.size w w' from fun h0 V hV => by
    have h1 := pBytes_any A14 n13 c14 lz V ((hatz.below hV).more hV.size) hlz htz hn136
    rw [h0] at h1
    exact h1.mono fun e w' ⟨A', c', he, _, hb'⟩ => ⟨A', c', he, (b15.trans (hV.mono b15.size)).trans (hb'.mono (b15.trans (hV.mono b15.size)).size)⟩)
  have HPX := Lib.hid (show ∀ V, Below W15.heap.size W15 V → Calls Tryd.prog 33 #[.agg #[.slice Ax n7 cx]] V fun e w' => ∃ A' c', e = .returned (.slice A' (bytesL lN).length c') ∧ OwnB w' V.heap.size (.slice A' (bytesL lN).length c') (bytesL lN).length (bytesL lN) ∧ Below V.heap.size V w' from fun V hV =>
    pBytes_any Ax n7 cx lN V ((hatx.below hV).more hV.size) HLEN.out (by omega) hn6)
  have HPY := Lib.hid (show ∀ V, Below W15.heap.size W15 V → Calls Tryd.prog 33 #[.agg #[.slice A14 n13 c14]] V fun e w' => ∃ A' c', e = .returned (.slice A' (bytesL lz).length c') ∧ OwnB w' V.heap.size (.slice A' (bytesL lz).length c') (bytesL lz).length (bytesL lz) ∧ Below V.heap.size V w' from fun V hV =>
    pBytes_any A14 n13 c14 lz V ((hatz.below hV).more hV.size) hlz htz hn136)
  have HZC := Lib.hid (show ∀ V, Below W15.heap.size W15 V → V.cell? ⟨W14.heap.size, 0, none⟩ = some (.slice A14 n13 c14) from fun V hV => ((kz.on hV).cell 0).trans rfl)
  have HXC := Lib.hid (show ∀ V, Below W15.heap.size W15 V → V.cell? ⟨W4.heap.size, 0, none⟩ = some (.slice Ax n7 cx) from fun V hV => ((kx15.on hV).cell 0).trans rfl)
  have HLQ9 : Hid ((bytesL lN).length ≤ 1000000) := Lib.hid (by rw [← hLQ.out]; exact hblen)
  clear xx15 zz15 hq2
  go_wp2_with fail
  go_loopw [52] (fun v52 wr => ∃ k : Nat, v52 = .int .i64 (k : Int) ∧ k ≤ n13 ∧ Hid (∀ j x, j < k → lz[j]? = some x → badN x = false) ∧ Below W15.heap.size W15 wr) (fun v52 _ => n13 - (intOf v52).toNat)
  case atStart => exact ⟨0, rfl, Nat.zero_le _, Lib.hid (fun j x h => by omega), bw16⟩
  case round =>
    obtain ⟨k, rfl, hk, HB, hb⟩ := hrel
    clear zz16
    by_cases hlt : k < n13
    · have hlt' : (k : Int) < (n13 : Int) := by omega
      obtain ⟨x, hx⟩ : ∃ x, lz[k]? = some x := ⟨_, List.getElem?_eq_getElem (by rw [HLZ.out]; exact hlt)⟩
      have HX := Lib.hid hx
      obtain ⟨bb, oo, ⟨C1, C2, C3⟩, ⟨S1, S2, S3⟩, rfl, hbb, q0, q1, q2, q3, hN⟩ := (hatz.below hb) k _ hx
      unfold Sl.v at q2 q3
      simp only [] at q2 q3
      clear hx
      obtain ⟨kz0, hkz⟩ : ∃ z : Int, Hid (z = (x.kind : Int)) := ⟨_, Lib.hid rfl⟩
      obtain ⟨sz0, hsz0⟩ : ∃ z : Int, Hid (z = x.step) := ⟨_, Lib.hid rfl⟩
      rw [← hkz.out] at q0
      rw [← hsz0.out] at q1
      obtain ⟨t1, ht1⟩ : ∃ b, decide (kz0 < 1) = b := ⟨_, rfl⟩
      obtain ⟨t2, ht2⟩ : ∃ b, decide (3 < kz0) = b := ⟨_, rfl⟩
      obtain ⟨t3, ht3⟩ : ∃ b, decide (sz0 < 0) = b := ⟨_, rfl⟩
      have hb0 := badN_of (x := x) t1 t2 t3 (by rw [← hkz.out]; exact ht1) (by rw [← hkz.out]; exact ht2) (by rw [← hsz0.out]; exact ht3)
      have HB0 := Lib.hid hb0
      clear hb0
      go_upto_region 13 with fail
      have kn := Blk.new wr 90 #[.int .u8 kz0, .int .i64 sz0, .slice C1 C2 C3, .slice S1 S2 S3]
      have bn := bAl (Below.refl wr.heap.size wr) (.cells #[.int .u8 kz0, .int .i64 sz0, .slice C1 C2 C3, .slice S1 S2 S3] 90)
      generalize (wr.alloc (.cells #[.int .u8 kz0, .int .i64 sz0, .slice C1 C2 C3, .slice S1 S2 S3] 90)) = u1 at kn bn ⊢
      have b16u := hb.trans (bn.mono hb.size)
      have i0 : u1.cell? ⟨wr.heap.size, 0, none⟩ = some (.int .u8 kz0) := (kn.cell 0).trans rfl
      have i1 : u1.cell? ⟨wr.heap.size, 1, none⟩ = some (.int .i64 sz0) := (kn.cell 1).trans rfl
      have i2 : u1.cell? ⟨wr.heap.size, 2, none⟩ = some (.slice C1 C2 C3) := (kn.cell 2).trans rfl
      have i3 : u1.cell? ⟨wr.heap.size, 3, none⟩ = some (.slice S1 S2 S3) := (kn.cell 3).trans rfl
      have hNu := (hN.more hb.size).below bn
      clear q0 q1 q2 q3 hN
      cases t1
      · cases t2
        · cases t3
          · obtain ⟨t4, ht4⟩ : ∃ b, Hid (b = (x.ch ++ x.st).any negB) := ⟨_, Lib.hid rfl⟩
            have hbx : Hid (badN x = t4) := Lib.hid (by rw [HB0.out, ht4.out]; simp)
            have hcl := cloneI_any C1 C2 C3 x.ch
            obtain ⟨SS, hSS⟩ : ∃ S : World → Prop, S = (fun W => W.cell? ⟨wr.heap.size, 0, none⟩ = some (.int .u8 kz0) ∧ W.cell? ⟨wr.heap.size, 1, none⟩ = some (.int .i64 sz0) ∧ W.cell? ⟨wr.heap.size, 2, none⟩ = some (.slice C1 C2 C3) ∧ W.cell? ⟨wr.heap.size, 3, none⟩ = some (.slice S1 S2 S3)) := ⟨_, rfl⟩
            have sB : ∀ W, Below u1.heap.size u1 W → SS W := fun W hW => by rw [hSS]; exact ⟨((kn.on hW).cell 0).trans rfl, ((kn.on hW).cell 1).trans rfl, ((kn.on hW).cell 2).trans rfl, ((kn.on hW).cell 3).trans rfl⟩
            have bd : Below u1.heap.size u1 u1.drew := (Below.refl _ _).drew
            clear i0 i1 i2 i3
            obtain ⟨hk8, hch, hst, hlc, hls, hcc, hcs, hbc, hbs9⟩ := hNu
            have hch := hch.more (Nat.le_of_lt kn.lt)
            have hst := hst.more (Nat.le_of_lt kn.lt)
            simp only [] at hch hst hlc hls hcc hcs hbc hbs9
            refine wp_region_F (fun _ => false) SS (by kernel_rfl) (sB _ bd) (fun hHeld => ?_)
            generalize hu3 : u1.drew = u3 at bd hHeld ⊢
            clear hu3
            refine wpAnyF_take (i := 0) (v := ?_) rfl (by kernel_rfl) (by kernel_rfl) (by kernel_rfl) (by kernel_rfl) (fun _ _ _ h => h) hHeld (Or.inl ⟨by rfl, ?_⟩) ?_
            rotate_left
            · (intro w hSw; (try rw [hSS] at hSw); (try dsimp only at hSw); go_simp; try with_reducible rfl)
            try simp only [Act.put, List.getElem_toArray, List.getElem_cons_zero, List.getElem_cons_succ, List.setIfInBounds_toArray, List.set_cons_zero, List.set_cons_succ]
            refine wpAnyF_take (i := 1) (v := ?_) rfl (by kernel_rfl) (by kernel_rfl) (by kernel_rfl) (by kernel_rfl) (fun _ _ _ h => h) hHeld (Or.inl ⟨by rfl, ?_⟩) ?_
            rotate_left
            · (intro w hSw; (try rw [hSS] at hSw); (try dsimp only at hSw); go_simp; try with_reducible rfl)
            try simp only [Act.put, List.getElem_toArray, List.getElem_cons_zero, List.getElem_cons_succ, List.setIfInBounds_toArray, List.set_cons_zero, List.set_cons_succ]
            refine wpAnyF_take (i := 2) (v := ?_) rfl (by kernel_rfl) (by kernel_rfl) (by kernel_rfl) (by kernel_rfl) (fun _ _ _ h => h) hHeld (Or.inl ⟨by rfl, ?_⟩) ?_
            rotate_left
            · (intro w hSw; (try rw [hSS] at hSw); (try dsimp only at hSw); go_simp; try with_reducible rfl)
            try simp only [Act.put, List.getElem_toArray, List.getElem_cons_zero, List.getElem_cons_succ, List.setIfInBounds_toArray, List.set_cons_zero, List.set_cons_succ]
            refine wpAnyF_take (i := 3) (v := ?_) rfl (by kernel_rfl) (by kernel_rfl) (by kernel_rfl) (by kernel_rfl) (fun _ _ _ h => h) hHeld (Or.inl ⟨by rfl, ?_⟩) ?_
            rotate_left
            · (intro w hSw; (try rw [hSS] at hSw); (try dsimp only at hSw); go_simp; try with_reducible rfl)
            try simp only [Act.put, List.getElem_toArray, List.getElem_cons_zero, List.getElem_cons_succ, List.setIfInBounds_toArray, List.set_cons_zero, List.set_cons_succ]
            refine wpAnyF_take (i := 4) (v := ?_) rfl (by kernel_rfl) (by kernel_rfl) (by kernel_rfl) (by kernel_rfl) (fun _ _ _ h => h) hHeld (Or.inl ⟨by rfl, ?_⟩) ?_
            rotate_left
            · (intro w hSw; (try rw [hSS] at hSw); (try dsimp only at hSw); go_simp; try with_reducible rfl)
            try simp only [Act.put, List.getElem_toArray, List.getElem_cons_zero, List.getElem_cons_succ, List.setIfInBounds_toArray, List.set_cons_zero, List.set_cons_succ]
            refine wpAnyF_take (i := 5) (v := ?_) rfl (by kernel_rfl) (by kernel_rfl) (by kernel_rfl) (by kernel_rfl) (fun _ _ _ h => h) hHeld (Or.inl ⟨by rfl, ?_⟩) ?_
            rotate_left
            · (intro w hSw; (try rw [hSS] at hSw); (try dsimp only at hSw); go_simp; try with_reducible rfl)
            try simp only [Act.put, List.getElem_toArray, List.getElem_cons_zero, List.getElem_cons_succ, List.setIfInBounds_toArray, List.set_cons_zero, List.set_cons_succ]
            refine wpAnyF_take (i := 6) (v := ?_) rfl (by kernel_rfl) (by kernel_rfl) (by kernel_rfl) (by kernel_rfl) (fun _ _ _ h => h) hHeld (Or.inl ⟨by rfl, ?_⟩) ?_
            rotate_left
            · (intro w hSw; (try rw [hSS] at hSw); (try dsimp only at hSw); go_simp; try with_reducible rfl)
            try simp only [Act.put, List.getElem_toArray, List.getElem_cons_zero, List.getElem_cons_succ, List.setIfInBounds_toArray, List.set_cons_zero, List.set_cons_succ]
            refine wpAnyF_take (i := 7) (v := ?_) rfl (by kernel_rfl) (by kernel_rfl) (by kernel_rfl) (by kernel_rfl) (fun _ _ _ h => h) hHeld (Or.inl ⟨by rfl, ?_⟩) ?_
            rotate_left
            · (intro w hSw; (try rw [hSS] at hSw); (try dsimp only at hSw); go_simp; try with_reducible rfl)
            try simp only [Act.put, List.getElem_toArray, List.getElem_cons_zero, List.getElem_cons_succ, List.setIfInBounds_toArray, List.set_cons_zero, List.set_cons_succ]
            refine wpAnyF_take (i := 8) (v := ?_) rfl (by kernel_rfl) (by kernel_rfl) (by kernel_rfl) (by kernel_rfl) (fun _ _ _ h => h) hHeld (Or.inl ⟨by rfl, ?_⟩) ?_
            rotate_left
            · (intro w hSw; (try rw [hSS] at hSw); (try dsimp only at hSw); go_simp; try with_reducible rfl)
            try simp only [Act.put, List.getElem_toArray, List.getElem_cons_zero, List.getElem_cons_succ, List.setIfInBounds_toArray, List.set_cons_zero, List.set_cons_succ]
            refine wpAnyF_take (i := 9) (v := ?_) rfl (by kernel_rfl) (by kernel_rfl) (by kernel_rfl) (by kernel_rfl) (fun _ _ _ h => h) hHeld (Or.inl ⟨by rfl, ?_⟩) ?_
            rotate_left
            · (intro w hSw; (try rw [hSS] at hSw); (try dsimp only at hSw); go_simp; try with_reducible rfl)
            try simp only [Act.put, List.getElem_toArray, List.getElem_cons_zero, List.getElem_cons_succ, List.setIfInBounds_toArray, List.set_cons_zero, List.set_cons_succ]
            refine wpAnyF_take (i := 10) (v := ?_) rfl (by kernel_rfl) (by kernel_rfl) (by kernel_rfl) (by kernel_rfl) (fun _ _ _ h => h) hHeld (Or.inl ⟨by rfl, ?_⟩) ?_
            rotate_left
            · (intro w hSw; (try rw [hSS] at hSw); (try dsimp only at hSw); go_simp; try with_reducible rfl)
            try simp only [Act.put, List.getElem_toArray, List.getElem_cons_zero, List.getElem_cons_succ, List.setIfInBounds_toArray, List.set_cons_zero, List.set_cons_succ]
            refine wpAnyF_take (i := 11) (v := ?_) rfl (by kernel_rfl) (by kernel_rfl) (by kernel_rfl) (by kernel_rfl) (fun _ _ _ h => h) hHeld (Or.inl ⟨by rfl, ?_⟩) ?_
            rotate_left
            · (intro w hSw; (try rw [hSS] at hSw); (try dsimp only at hSw); go_simp; try with_reducible rfl)
            try simp only [Act.put, List.getElem_toArray, List.getElem_cons_zero, List.getElem_cons_succ, List.setIfInBounds_toArray, List.set_cons_zero, List.set_cons_succ]
            refine wpAnyF_take (i := 12) (v := ?_) rfl (by kernel_rfl) (by kernel_rfl) (by kernel_rfl) (by kernel_rfl) (fun _ _ _ h => h) hHeld (Or.inl ⟨by rfl, ?_⟩) ?_
            rotate_left
            · (intro w hSw; (try rw [hSS] at hSw); (try dsimp only at hSw); go_simp; try with_reducible rfl)
            try simp only [Act.put, List.getElem_toArray, List.getElem_cons_zero, List.getElem_cons_succ, List.setIfInBounds_toArray, List.set_cons_zero, List.set_cons_succ]
            refine wpAnyF_take (i := 13) (v := ?_) rfl (by kernel_rfl) (by kernel_rfl) (by kernel_rfl) (by kernel_rfl) (fun _ _ _ h => h) hHeld (Or.inl ⟨by rfl, ?_⟩) ?_
            rotate_left
            · (intro w hSw; (try rw [hSS] at hSw); (try dsimp only at hSw); go_simp; try with_reducible rfl)
            try simp only [Act.put, List.getElem_toArray, List.getElem_cons_zero, List.getElem_cons_succ, List.setIfInBounds_toArray, List.set_cons_zero, List.set_cons_succ]
            refine wpAnyF_take (i := 14) (v := ?_) rfl (by kernel_rfl) (by kernel_rfl) (by kernel_rfl) (by kernel_rfl) (fun _ _ _ h => h) hHeld (Or.inl ⟨by rfl, ?_⟩) ?_
            rotate_left
            · (intro w hSw; (try rw [hSS] at hSw); (try dsimp only at hSw); go_simp; try with_reducible rfl)
            try simp only [Act.put, List.getElem_toArray, List.getElem_cons_zero, List.getElem_cons_succ, List.setIfInBounds_toArray, List.set_cons_zero, List.set_cons_succ]
            refine wpAnyF_take (i := 15) (v := ?_) rfl (by kernel_rfl) (by kernel_rfl) (by kernel_rfl) (by kernel_rfl) (fun _ _ _ h => h) hHeld (Or.inl ⟨by rfl, ?_⟩) ?_
            rotate_left
            · (intro w hSw; (try rw [hSS] at hSw); (try dsimp only at hSw); go_simp; try with_reducible rfl)
            try simp only [Act.put, List.getElem_toArray, List.getElem_cons_zero, List.getElem_cons_succ, List.setIfInBounds_toArray, List.set_cons_zero, List.set_cons_succ]
            refine wpAnyF_take (i := 17) (v := ?_) rfl (by kernel_rfl) (by kernel_rfl) (by kernel_rfl) (by kernel_rfl) (fun _ _ _ h => h) hHeld (Or.inl ⟨by rfl, ?_⟩) ?_
            rotate_left
            · (intro w hSw; (try rw [hSS] at hSw); (try dsimp only at hSw); go_simp; try with_reducible rfl)
            try simp only [Act.put, List.getElem_toArray, List.getElem_cons_zero, List.getElem_cons_succ, List.setIfInBounds_toArray, List.set_cons_zero, List.set_cons_succ]
            refine wpAnyF_take (i := 18) (v := ?_) rfl (by kernel_rfl) (by kernel_rfl) (by kernel_rfl) (by kernel_rfl) (fun _ _ _ h => h) hHeld (Or.inl ⟨by rfl, ?_⟩) ?_
            rotate_left
            · (intro w hSw; (try rw [hSS] at hSw); (try dsimp only at hSw); go_simp; try with_reducible rfl)
            try simp only [Act.put, List.getElem_toArray, List.getElem_cons_zero, List.getElem_cons_succ, List.setIfInBounds_toArray, List.set_cons_zero, List.set_cons_succ]
            have hcl := cloneI_any C1 C2 C3 x.ch u3 (hch.on bd) hlc (by omega)
            refine wpAnyF_one (i := 16) (by kernel_rfl) rfl (fun K hK => ?_)
            go_simp
            go_at_call 36
            refine hcl.mono ?_
            rintro e u4 ⟨A9, e9, rfl, o9, b9⟩
            simp only []
            have bd4 := bd.trans (b9.mono bd.size)
            refine hK.out _ _ (Or.inr (sB _ bd4)) ?_
            clear hK K
            try simp only [Act.put, List.getElem_toArray, List.getElem_cons_zero, List.getElem_cons_succ, List.setIfInBounds_toArray, List.set_cons_zero, List.set_cons_succ]
            have hst4 := hst.on bd4
            refine wpAnyF_one (i := 19) (by kernel_rfl) rfl (fun K hK => ?_)
            refine step_rowW 3 33 _ 1 8 int_info Tryd.underlying33 rfl (by omega) (by omega) u4 (by rfl) (.tmp 72) (.tmp 74) rfl u3.heap.size _ C2 _ rfl o9 u4.heap.size S1 S2 S3 (x.st.map iv) rfl (by simp [hls]) hst4 (oneCell_iv x.st) (by omega) b9.size (C2 + S2) rfl ?_
            intro A8 c8 u5 o8 b8
            have bd5 : Below u1.heap.size u1 u5 := bd4.trans (b8.mono bd.size)
            have o8' : OwnI u5 u3.heap.size (.slice A8 (C2 + S2) c8) (C2 + S2) (x.ch ++ x.st) := (by show World.ownsRow _ _ _ _ _ _ _; rw [List.map_append]; exact o8)
            have hcf := cf_rb A8 (C2 + S2) c8 (x.ch ++ x.st) u5 (OwnI.sees o8') (OwnI.len o8') (by have h67 := HS13.out x (List.mem_of_getElem? HX.out); omega)
            rw [← ht4.out] at hcf
            try simp only []
            refine hK.out _ _ (Or.inr (sB _ bd5)) ?_
            clear hK K
            try simp only [Act.put, List.getElem_toArray, List.getElem_cons_zero, List.getElem_cons_succ, List.setIfInBounds_toArray, List.set_cons_zero, List.set_cons_succ]
            refine wpAnyF_one (i := 20) (by kernel_rfl) rfl (fun K hK => ?_)
            go_simp
            go_at_call 35
            refine hcf.mono ?_
            rintro e u6 ⟨rfl, rfl⟩
            simp only []
            refine hK.out _ _ (Or.inr (sB _ bd5)) ?_
            clear hK K
            try simp only [Act.put, List.getElem_toArray, List.getElem_cons_zero, List.getElem_cons_succ, List.setIfInBounds_toArray, List.set_cons_zero, List.set_cons_succ]
            refine wpAnyF_one (i := 21) (by kernel_rfl) rfl (fun K hK => ?_)
            go_simp
            refine hK.out _ _ (Or.inr (sB _ bd5)) ?_
            clear hK K
            try simp only [Act.put, List.getElem_toArray, List.getElem_cons_zero, List.getElem_cons_succ, List.setIfInBounds_toArray, List.set_cons_zero, List.set_cons_succ]
            refine wpAnyF_done (by kernel_rfl) ?_ _
            have bV := b16u.trans (bd5.mono b16u.size)
            clear hHeld sB hSS SS hcf hcl
            cases t4
            · go_wp2_with fail
              go_roundw
              case rel => exact ⟨k + 1, by go_num, by omega, Lib.hid (fun j y hj hy => by
                by_cases hjk : j = k
                · subst hjk
                  rw [HX.out] at hy
                  injection hy with hy
                  subst hy
                  exact hbx.out
                · exact HB.out j y (by omega) hy), bV⟩
              case measure => simp [intOf]; omega
            · obtain ⟨lb1, lb2⟩ := law_bad HOK.out HX.out hbx.out
              rw [← hbs.out] at lb2
              subst lb2
              have hpz := HPZ.out lb1 _ bV
              have zzq := HZC.out _ bV
              go_wp2_with fail
              refine hpz.mono ?_
              rintro e V2 ⟨A3, c3, rfl, bV2⟩
              go_wp2_with fail
              go_ret
              exact ⟨rfl, bV2⟩
          · have bq := fun q => b16u.trans ((below_drewN (Below.refl u1.heap.size u1) q).mono b16u.size)
            have hbad : badN x = true := by rw [HB0.out]; simp
            obtain ⟨lb1, lb2⟩ := law_bad HOK.out HX.out hbad
            rw [← hbs.out] at lb2
            subst lb2
            have hpz := fun q => HPZ.out lb1 _ (bq q)
            have zzq := fun q => HZC.out _ (bq q)
            go_quiet (fail)
            go_wp2_with fail
            refine (hpz _).mono ?_
            rintro e V2 ⟨A3, c3, rfl, bV2⟩
            go_wp2_with fail
            go_ret
            exact ⟨rfl, bV2⟩
        · have bq := fun q => b16u.trans ((below_drewN (Below.refl u1.heap.size u1) q).mono b16u.size)
          have hbad : badN x = true := by rw [HB0.out]; simp
          obtain ⟨lb1, lb2⟩ := law_bad HOK.out HX.out hbad
          rw [← hbs.out] at lb2
          subst lb2
          have hpz := fun q => HPZ.out lb1 _ (bq q)
          have zzq := fun q => HZC.out _ (bq q)
          go_quiet (fail)
          go_wp2_with fail
          refine (hpz _).mono ?_
          rintro e V2 ⟨A3, c3, rfl, bV2⟩
          go_wp2_with fail
          go_ret
          exact ⟨rfl, bV2⟩
      · have bq := fun q => b16u.trans ((below_drewN (Below.refl u1.heap.size u1) q).mono b16u.size)
        have hbad : badN x = true := by rw [HB0.out]; simp
        obtain ⟨lb1, lb2⟩ := law_bad HOK.out HX.out hbad
        rw [← hbs.out] at lb2
        subst lb2
        have hpz := fun q => HPZ.out lb1 _ (bq q)
        have zzq := fun q => HZC.out _ (bq q)
        go_quiet (fail)
        go_wp2_with fail
        refine (hpz _).mono ?_
        rintro e V2 ⟨A3, c3, rfl, bV2⟩
        go_wp2_with fail
        go_ret
        exact ⟨rfl, bV2⟩
    · obtain rfl : k = n13 := by omega
      have hlt' : ¬ (k : Int) < (k : Int) := by omega
      have hgood := law_good HOK.out HUP.out (fun x hx => ⟨by have := (HS13.out x hx).1; omega, by have := (HS13.out x hx).2; omega⟩) (fun x hx => by
        obtain ⟨j, hj⟩ := List.mem_iff_getElem?.1 hx
        exact HB.out j x (by rw [← HLZ.out]; exact (List.getElem?_eq_some_iff.1 hj).1) hj) (by rw [HLEN.out]; exact hn6) (by rw [HLZ.out]; exact hn136)
      rw [← hbs.out] at hgood
      have HG := Lib.hid hgood
      clear hgood
      go_upto_region 16 with fail
      obtain ⟨SS, hSS⟩ : ∃ S : World → Prop, S = (fun W => W.cell? ⟨W4.heap.size, 0, none⟩ = some (.slice Ax n7 cx) ∧ W.cell? ⟨W14.heap.size, 0, none⟩ = some (.slice A14 k c14)) := ⟨_, rfl⟩
      have sB : ∀ W, Below W15.heap.size W15 W → SS W := fun W hW => by rw [hSS]; exact ⟨HXC.out W hW, HZC.out W hW⟩
      have bd : Below W15.heap.size W15 wr.drew := hb.drew
      refine wp_region_F (fun _ => false) SS (by kernel_rfl) (sB _ bd) (fun hHeld => ?_)
      generalize hu3 : wr.drew = u3 at bd hHeld ⊢
      clear hu3
      refine wpAnyF_take (i := 0) (v := ?_) rfl (by kernel_rfl) (by kernel_rfl) (by kernel_rfl) (by kernel_rfl) (fun _ _ _ h => h) hHeld (Or.inl ⟨by rfl, ?_⟩) ?_
      rotate_left
      · (intro w hSw; (try rw [hSS] at hSw); (try dsimp only at hSw); go_simp; try with_reducible rfl)
      try simp only [Act.put, List.getElem_toArray, List.getElem_cons_zero, List.getElem_cons_succ, List.setIfInBounds_toArray, List.set_cons_zero, List.set_cons_succ]
      refine wpAnyF_take (i := 2) (v := ?_) rfl (by kernel_rfl) (by kernel_rfl) (by kernel_rfl) (by kernel_rfl) (fun _ _ _ h => h) hHeld (Or.inl ⟨by rfl, ?_⟩) ?_
      rotate_left
      · (intro w hSw; (try rw [hSS] at hSw); (try dsimp only at hSw); go_simp; try with_reducible rfl)
      try simp only [Act.put, List.getElem_toArray, List.getElem_cons_zero, List.getElem_cons_succ, List.setIfInBounds_toArray, List.set_cons_zero, List.set_cons_succ]
      refine wpAnyF_take (i := 5) (v := ?_) rfl (by kernel_rfl) (by kernel_rfl) (by kernel_rfl) (by kernel_rfl) (fun _ _ _ h => h) hHeld (Or.inl ⟨by rfl, ?_⟩) ?_
      rotate_left
      · (intro w hSw; (try rw [hSS] at hSw); (try dsimp only at hSw); go_simp; try with_reducible rfl)
      try simp only [Act.put, List.getElem_toArray, List.getElem_cons_zero, List.getElem_cons_succ, List.setIfInBounds_toArray, List.set_cons_zero, List.set_cons_succ]
      refine wpAnyF_one (i := 1) (by kernel_rfl) rfl (fun K hK => ?_)
      go_simp
      go_at_call 33
      with_reducible refine (HPX.out u3 bd).mono ?_
      rintro e u4 ⟨A9, e9, rfl, o9, b9⟩
      try simp only []
      have bd4 := bd.trans (b9.mono bd.size)
      refine hK.out _ _ (Or.inr (sB _ bd4)) ?_
      clear hK K
      try simp only [Act.put, List.getElem_toArray, List.getElem_cons_zero, List.getElem_cons_succ, List.setIfInBounds_toArray, List.set_cons_zero, List.set_cons_succ]
      refine wpAnyF_one (i := 3) (by kernel_rfl) rfl (fun K hK => ?_)
      go_simp
      go_at_call 33
      with_reducible refine (HPY.out u4 bd4).mono ?_
      rintro e u5 ⟨A8, e8, rfl, o8, b8⟩
      simp only []
      have bd5 := bd4.trans (b8.mono bd4.size)
      refine hK.out _ _ (Or.inr (sB _ bd5)) ?_
      clear hK K
      try simp only [Act.put, List.getElem_toArray, List.getElem_cons_zero, List.getElem_cons_succ, List.setIfInBounds_toArray, List.set_cons_zero, List.set_cons_succ]
      have heq := equal_any A9 A8 (bytesL lN).length e9 (bytesL lz).length e8 (bytesL lN) (bytesL lz) u5 ((OwnB.on o9 b8).sees) (OwnB.sees o8) rfl rfl (by have := HLQ9.out; omega)
      rw [HG.out] at heq
      refine wpAnyF_one (i := 4) (by kernel_rfl) rfl (fun K hK => ?_)
      go_simp
      go_at_call 32
      refine heq.mono ?_
      rintro e u6 ⟨rfl, q6, rfl⟩
      simp only []
      have bd6 := bd5.trans ((below_drewN (Below.refl u5.heap.size u5) q6).mono bd5.size)
      refine hK.out _ _ (Or.inr (sB _ bd6)) ?_
      clear hK K
      try simp only [Act.put, List.getElem_toArray, List.getElem_cons_zero, List.getElem_cons_succ, List.setIfInBounds_toArray, List.set_cons_zero, List.set_cons_succ]
      refine wpAnyF_one (i := 6) (by kernel_rfl) rfl (fun K hK => ?_)
      go_simp
      refine hK.out _ _ (Or.inr (sB _ bd6)) ?_
      clear hK K
      try simp only [Act.put, List.getElem_toArray, List.getElem_cons_zero, List.getElem_cons_succ, List.setIfInBounds_toArray, List.set_cons_zero, List.set_cons_succ]
      refine wpAnyF_one (i := 7) (by kernel_rfl) rfl (fun K hK => ?_)
      go_simp
      refine hK.out _ _ (Or.inr (sB _ bd6)) ?_
      clear hK K
      try simp only [Act.put, List.getElem_toArray, List.getElem_cons_zero, List.getElem_cons_succ, List.setIfInBounds_toArray, List.set_cons_zero, List.set_cons_succ]
      refine wpAnyF_done (by kernel_rfl) ?_ _
      go_wp2_with fail
      go_ret
      exact ⟨ret_bool (by simp), b15.trans (bd6.mono b15.size)⟩
end Go.Proofs.YtcdgmdhfaniciaaDoor.refuteBytes
