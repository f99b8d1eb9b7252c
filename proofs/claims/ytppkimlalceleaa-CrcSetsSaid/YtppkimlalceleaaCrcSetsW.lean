/- The walk of the law CrcSets: sets that are written into records, framed and scanned are read back. -/
import Derived.Test.YtppkimlalceleaaSets
import Derived.Test.YtppkimlalceleaaCrcG
import Derived.Test.YtppkimlalceleaaCrcTornP
import Derived.Test.YtppkimlalceleaaArgsUU
import Derived.Deep.RegionWith
import Derived.Deep.CutRange
namespace Go.Proofs.Ytppkimlalceleaa.crcSets
open Go.RowKit CrcLaw
set_option linter.unusedVariables false
set_option linter.unusedSimpArgs false

theorem Sees.hnum {w : World} {B : Nat} {A : Option Addr} {l : List Nat} {k : Nat} (h : Sees w B A (l.map hv)) (hk : k < l.length) :
    ∃ b o x, A = some ⟨b, o, none⟩ ∧ b < B ∧ x ∈ l ∧ w.cell? ⟨b, o + k, none⟩ = some (.int .u16 (x : Int)) := by
  obtain ⟨b, o, e, hb, hc⟩ := h.at_ (k := k) (by simpa using hk)
  exact ⟨b, o, l[k], e, hb, List.getElem_mem _, by rw [hc, List.getElem_map]; rfl⟩
/-- End, nothing left. -/
theorem end_ok (g : Nat) (w : World) (h : RdAt w g [] 0) :
    Calls Try.prog 37 #[.pointer (some ⟨g, 0, none⟩)] w fun e w' => e = .returned (.int .i64 0) ∧ w = w' := by
  refine (end_any g [] 0 w h).mono ?_
  rintro e w' ⟨rfl, rfl⟩
  exact ⟨rfl, rfl⟩
/-- Equal of two sets with the same members. -/
theorem setEqual_same (v1 v2 : Value) (M : Nat) (w : World) (h1 : SetAt w w.heap.size v1 M) (h2 : SetAt w w.heap.size v2 M) :
    Calls Try.prog 38 #[v1, v2] w fun e w' => e = .returned (.bool true) ∧ Below w.heap.size w w' := by
  refine (setEqual_any v1 v2 M M w h1 h2).mono ?_
  rintro e w' ⟨rfl, hb⟩
  rw [decide_eq_true rfl]
  exact ⟨rfl, hb⟩
/-- The records. -/
def recs (Ms : List Nat) : List (List UInt8) := Ms.map srec

set_option maxRecDepth 100000 in
set_option maxHeartbeats 4000000 in
theorem walk (A0 : Option Addr) (n0 c0 : Nat) (vs0 : List Value) (ls0 : List (List Nat)) (w : World) (w0 : ArgUU w A0 n0 c0 vs0 ls0) :
    Calls Try.prog 12 #[.slice A0 n0 c0] w fun e w' => e = .returned (.bool true) ∧ Below w.heap.size w w' := by
  obtain ⟨s0, hn0, hn0', hcap, hmax, hrow⟩ := w0
  unfold maxLen at hmax
  obtain ⟨m, hm⟩ : ∃ m, m = min n0 6 := ⟨_, rfl⟩
  have hm1 : m ≤ n0 := by omega
  have hm2 : m ≤ 6 := by omega
  have Hm := Lib.hid hm; have Hn0 := Lib.hid hn0; have Hn0' := Lib.hid hn0'; have Hrow := Lib.hid hrow; clear hm hn0 hn0' hrow
  have sv : Sees w w.heap.size A0 (vs0.take m) := s0.take_ m
  go_enter Try.func12, Try.ntmps12
  go_wp2_with fail
  refine (awake_any _).mono ?_
  rintro e w1 ⟨rfl, b1⟩
  go_wp2_with (with_reducible refine wpL_min2 _ rfl (.tmp 23) (.const (.int .i64 6)) _ rfl _ _ rfl rfl (m : Int) (by have := Hm.out; omega) ?_)
  have hz1 := b1.size
  go_loopw [3, 4, 27] (fun v3 v4 v27 wr => ∃ (A3 : Option Addr) (i c3 : Nat) (A4 : Option Addr) (n4 c4 : Nat) (vs : List Value) (Ms : List Nat), v3 = .slice A3 i c3 ∧ v4 = .slice A4 n4 c4 ∧ v27 = .int .i64 (i : Nat) ∧ i ≤ m ∧ n4 ≤ 530 * i ∧
      OwnS wr w.heap.size (.slice A3 i c3) i vs Ms ∧ OwnB wr w.heap.size (.slice A4 n4 c4) n4 (flat (recs Ms)) ∧ Hid (∀ M ∈ Ms, len2 64 M ≤ 64) ∧ Below w.heap.size w wr) (fun _ _ v27 _ => m - (intOf v27).toNat)
  case atStart => exact ⟨none, 0, 0, none, 0, 0, [], [], rfl, rfl, rfl, by omega, by omega, OwnS.nil _ _, OwnB.nil _ _, Lib.hid (by simp), b1⟩
  case round =>
    obtain ⟨A3, i, c3, A4, n4, c4, vs, Ms, rfl, rfl, rfl, hi, hn4, os, ob, HM, hB⟩ := hrel
    have hzr := hB.size
    by_cases him : i < m
    · have him' : (i : Int) < (m : Int) := by omega
      have hi0 : (0 : Int) ≤ (i : Int) := by omega
      have hvl : vs0.length = n0 := Hn0.out
      have hll : ls0.length = n0 := Hn0'.out
      obtain ⟨b, o, hA0, hb, hcl⟩ := sv.at_ (k := i) (by simp; omega)
      subst hA0
      rw [List.getElem_take] at hcl
      have hiv : i < vs0.length := by omega
      have hil : i < ls0.length := by omega
      obtain ⟨Ai, ni, ci, hu, hrow⟩ := Hrow.out i vs0[i] ls0[i] (List.getElem?_eq_getElem hiv) (List.getElem?_eq_getElem hil)
      obtain ⟨l, hl⟩ : ∃ l, l = ls0[i] := ⟨_, rfl⟩
      rw [← hl] at hrow
      clear hl
      have hcl2 := (bcell hB).1 b (o + i) hb
      rw [hcl, hu] at hcl2
      obtain ⟨k, hk⟩ : ∃ k, k = min ni 20 := ⟨_, rfl⟩
      have Hk := Lib.hid hk
      have hk1 : k ≤ ni := by omega
      have hk2 : k ≤ 20 := by omega
      have hkc : k ≤ ci := by have := hrow.cap; omega
      clear hk
      go_wp2_with fail
      refine (of_nil wr).mono ?_
      rintro e w2 ⟨rfl, b2⟩
      have hz2 := b2.size
      have hG := Blk.new w2 62 #[.slice none 0 0]
      have bG : Below w2.heap.size w2 (w2.alloc (.cells #[.slice none 0 0] 62)) := (Below.refl _ _).alloc (Nat.le_refl _) _
      go_wp2_with (with_reducible refine wpL_min2 _ rfl (.tmp 34) (.const (.int .i64 20)) _ rfl _ _ rfl rfl (k : Int) (by have := Hk.out; omega) ?_)
      have hS2 := (hrow.sees.on hB).on b2
      have hrl : l.length = ni := hrow.len
      have hlt := Lib.hid hrow.lt
      have hrl' := Lib.hid hrl
      clear hrl
      go_loopw [38] (fun v38 wx => ∃ (j : Nat) (u : Value) (M : Nat), v38 = .int .i64 (j : Nat) ∧ j ≤ k ∧ (∃ A n c, u = .slice A n c) ∧ Blk wx w2.heap.size 62 #[u] ∧ SetAt wx wx.heap.size (.agg #[u]) M ∧ Below w2.heap.size w2 wx) (fun v38 _ => k - (intOf v38).toNat)
      case atStart => exact ⟨0, _, 0, rfl, Nat.zero_le _, ⟨none, 0, 0, rfl⟩, hG, SetAt.zero _ _ _ _, bG⟩
      case round =>
        obtain ⟨j, u, M, rfl, hj, ⟨Au, nu, cu, rfl⟩, hG, hS, bx⟩ := hrel
        have cG := hG.cell 0
        have fG := hG.frozen 0
        simp at cG
        have HG := Lib.hid hG
        clear hG
        by_cases hjk : j < k
        · have hjk' : (j : Int) < (k : Int) := by omega
          obtain ⟨bb, oo, x, rfl, hbb, hx, hcx⟩ := Sees.hnum (k := j) (hS2.on bx) (by rw [hrl'.out]; omega)
          have hx16 := hlt.out x hx
          obtain ⟨q, hq, hq1⟩ : ∃ q : Nat, (x : Int) % 512 = (q : Int) ∧ q < 512 := ⟨x % 512, by omega, by omega⟩
          have hxi : (x : Int) < 65536 := by omega
          go_wp2_with fail
          simp only [hq]
          refine (with_any _ M q wr hS (by omega)).mono ?_
          rintro e w3 ⟨v', rfl, hS3, b3⟩
          obtain ⟨A', n', c', rfl, _⟩ := id hS3
          have hG3 := HG.out.on b3
          have cG3 := hG3.cell 0
          have fG3 := hG3.frozen 0
          simp at cG3
          have HG3 := Lib.hid hG3
          clear hG3
          have hzx := bx.size
          go_wp2_with fail
          go_roundw
          case rel =>
            refine ⟨j + 1, .slice A' n' c', _, by go_num, by omega, ⟨_, _, _, rfl⟩, ?_, hS3.off HG3.out _, (bx.trans (b3.mono hzx)).setCell (Nat.le_refl _) _⟩
            have := HG3.out.put 0 (.slice A' n' c')
            simpa using this
          case measure => simp [intOf]; omega
        · have hSM : len2 64 M ≤ 64 := by
            obtain ⟨_, _, _, _, _, h64, h65, _⟩ := id hS
            omega
          have hzx := bx.size
          go_wp2_with fail
          refine (newWriter_any wr).mono ?_
          rintro e w3 ⟨rfl, hw3, b3⟩
          have cG3 := (HG.out.on b3).cell 0
          simp at cG3
          have hS3 := hS.on b3
          go_wp2_with fail
          refine (wSet_any wr.heap.size wr.heap.size _ _ [] M w3 hw3 hS3 (by simp)).mono ?_
          rintro e w4 ⟨rfl, v4, hw4, hm4, hr4⟩
          rw [List.nil_append] at hw4
          have b4 : Below wr.heap.size w3 w4 := hm4.below b3.size (Nat.le_refl _) (fun k h => by cases h)
          have b14 := b3.trans b4
          have hsl := srec_len hSM
          have hwl : (enc (sbytes M).length ++ sbytes M).length ≤ 522 := hsl
          go_wp2_with fail
          refine (out_any wr.heap.size wr.heap.size v4 (srec M) w4 hw4 (by omega)).mono ?_
          rintro e w5 ⟨A5, c5, rfl, o5, b5⟩
          obtain ⟨n5, hn5⟩ : ∃ n5, n5 = (srec M).length := ⟨_, rfl⟩
          rw [← hn5] at o5 hsl ⊢
          have Hn5 := Lib.hid hn5.symm
          clear hn5 hwl
          go_wp2_with fail
          refine (frame_yes A5 n5 c5 _ w5 o5.sees Hn5.out (by omega)).mono ?_
          rintro e w6 ⟨A6, c6, rfl, o6, b6⟩
          have b56 : Below wr.heap.size w4 w6 := (b5.mono b14.size).trans (b6.mono (Nat.le_trans b14.size b5.size))
          have b16 := b14.trans b56
          have bo := b2.trans ((bx.trans (b16.mono hzx)).mono hz2)
          have cG6 := (HG.out.on b16).cell 0
          simp at cG6
          have hS6 := hS.on b16
          have os6 := os.on bo
          have ob6 := ob.on bo
          have hz6 := (hB.trans (bo.mono hzr)).size
          have Hfl := Lib.hid (show flat (recs Ms) ++ frameOf (srec M) = flat (recs (Ms ++ [M])) by
            unfold recs; rw [List.map_append]; exact (flat_snoc _ _).symm)
          have op7 : ∀ w7, (w6.alloc (.cells #[.slice Au nu cu] 62)).grownBy w7 (Value.slice A3 i c3).ownBlock → OwnB w7 w.heap.size (.slice A4 n4 c4) n4 (flat (recs Ms)) ∧ Sees w7 w7.heap.size A6 ((frameOf (srec M)).map bv) ∧ w.heap.size ≤ w7.heap.size := by
            intro w7 g7
            have hne : ∀ (base n : Nat) (l : List UInt8) (u : Value), OwnB w6 base u n l → OwnB w7 base u n l := fun base n l u h => (h.alloc _).kept g7 (own_ne (World.ownsRow.alloc os6.1 _) (h.alloc (.cells #[.slice Au nu cu] 62)) (by decide))
            exact ⟨hne _ _ _ _ ob6, (hne _ _ _ _ o6).sees, Nat.le_trans hz6 (Nat.le_trans (by simp) g7.size)⟩
          go_wp2_with (first
            | (at_builtin; refine wpL_appS _ rfl (.tmp 60) (.tmp 62) rfl w6 w.heap.size _ i vs Ms rfl os6 Au nu cu M hS6 rfl _ rfl rfl (by omega) hz6 (i + 1) rfl ?_; intro A7 c7 w7 vs' os7 g7 b7; obtain ⟨ob7, sf7, hz7⟩ := op7 w7 g7)
            | (at_builtin; refine wpL_appB _ rfl (.tmp 64) (.tmp 65) rfl w.heap.size _ n4 _ rfl ob7 w7.heap.size A6 (8 + n5) c6 _ rfl o6.len sf7 (by omega) hz7 (n4 + (8 + n5)) rfl _ Hfl.out ?_; intro A8 c8 w8 ob8 g8 _))
          go_roundw
          case rel =>
            refine ⟨A7, i + 1, c7, A8, n4 + (8 + n5), c8, vs', Ms ++ [M], rfl, rfl, by go_num, by omega, by omega, os7.kept ob7 g8, ob8, Lib.hid ?_, ((hB.trans (bo.mono hzr)).trans b7).trans (below_app (Below.refl _ _) hz7 ob7 g8)⟩
            intro M' hM'
            rcases List.mem_append.1 hM' with h | h
            · exact HM.out M' h
            · simp at h; subst h; exact hSM
          case measure => simp [intOf]; omega
    · obtain rfl : i = m := by omega
      have hzr2 := os.len
      have hP : ∀ p ∈ recs Ms, p.length ≤ 9000 := by
        intro p hp
        obtain ⟨M, hM, rfl⟩ := List.mem_map.1 hp
        exact Nat.le_trans (srec_len (HM.out M hM)) (by omega)
      have hSc := Lib.hid (show Scanned (flat (recs Ms)) (recs Ms) from ⟨hP, [], by simp, not_frame_nil⟩)
      clear hP
      have hol := Lib.hid ob.len
      have hoc := ob.room
      go_wp2_with fail
      refine (scan_any A4 n4 c4 _ _ ob.sees hol.out hoc (by omega)).mono ?_
      rintro e w2 ⟨A', kk, c', g, vg, gs, rfl, hk1, hg1, Hs, Hg, og, b2⟩
      obtain rfl : gs = recs Ms := scanned_unique Hs.out hSc.out
      obtain ⟨hl1, hl2⟩ := og.len
      obtain rfl : kk = i := by rw [← hl2]; unfold recs; rw [List.length_map]; exact hzr2.2
      obtain rfl : g = n4 := by rw [← Hg.out, hol.out]
      have os2 := os.on b2
      have hz2 := b2.size
      go_wp2_with fail
      go_loopw [86] (fun v86 wx => ∃ q : Nat, v86 = .int .i64 (q : Nat) ∧ q ≤ kk ∧ Below w2.heap.size w2 wx) (fun v86 _ => kk - (intOf v86).toNat)
      case atStart => exact ⟨0, rfl, Nat.zero_le _, Below.refl _ _⟩
      case round =>
        obtain ⟨q, rfl, hq, bx⟩ := hrel
        have hzx := bx.size
        by_cases hqk : q < kk
        · have hqk' : (q : Int) < (kk : Int) := by omega
          have hvq : q < vg.length := by omega
          have hvs : q < vs.length := by omega
          have hMq : q < Ms.length := by omega
          obtain ⟨bb, oo, hA', hbb, hcl⟩ := (Sees.own og.1 (by omega)).at_ (k := q) hvq
          subst hA'
          have hgl : (recs Ms)[q]? = some (srec Ms[q]) := by unfold recs; rw [List.getElem?_map, List.getElem?_eq_getElem hMq]; rfl
          obtain ⟨Aq, nq, cq, hu, oq⟩ := og.2.2 q vg[q] (srec Ms[q]) (List.getElem?_eq_getElem hvq) hgl
          have hcl2 := (bcell bx).1 bb (oo + q) hbb
          rw [hcl, hu] at hcl2
          rw [hu] at oq
          have sq := oq.sees.on bx
          have hMle := HM.out Ms[q] (List.getElem_mem _)
          have hSq := os2.2.2 q vs[q] Ms[q] (List.getElem?_eq_getElem hvs) (List.getElem?_eq_getElem hMq)
          obtain ⟨b3, o3, hA3, hb3, hcl3⟩ := (Sees.own os2.1 (by omega)).at_ (k := q) hvs
          obtain ⟨As, ns, cs, eS, _⟩ := id hSq
          have eS' : vs[q] = .slice As ns cs := by injection eS with e; simpa using e
          rw [eS'] at hcl3 hSq
          clear eS eS'
          obtain ⟨M, hM⟩ : ∃ M, M = Ms[q] := ⟨_, rfl⟩
          rw [← hM] at hSq hMle oq sq
          clear hM hgl hcl hu
          have hsl := srec_len hMle
          have hrd : rdS 4095 (srec M) = (M, [], 0) := by
            have := rdS_rec hMle (most := 4095) (fun h => by have := log2_le hMle h; omega) []
            rwa [List.append_nil] at this
          have Hrd := Lib.hid hrd
          clear hrd
          subst hA3
          have hoql := oq.len
          go_wp2_with fail
          refine (newReader_any Aq nq cq (srec M) _ sq hoql (by omega)).mono ?_
          rintro e w3 ⟨gr, rfl, hgr, hr3, b3'⟩
          go_wp2_with fail
          refine (rSet_any gr (srec M) 4095 w3 hr3).mono ?_
          rintro e w4 ⟨v4, rfl, hs4, hr4, hm4⟩
          rw [Hrd.out] at hs4 hr4
          obtain ⟨A4', n4', c4', rfl, _⟩ := id hs4
          have b4 : Below w2.heap.size w2 w4 := (bx.trans (b3'.mono hzx)).trans (hm4.below (Nat.le_trans hzx b3'.size) (Nat.le_trans hzx hgr) (fun k h => by cases h))
          have ba : Below w4.heap.size w4 (w4.alloc (.cells #[.slice A4' n4' c4'] 62)) := (Below.refl _ _).alloc (Nat.le_refl _) _
          have bS := Blk.new w4 62 #[.slice A4' n4' c4']
          go_wp2_with fail
          generalize (w4.alloc (.cells #[.slice A4' n4' c4'] 62)) = w5 at ba bS ⊢
          have hz4 := b4.size
          have b25 : Below w2.heap.size w2 w5 := b4.trans (ba.mono hz4)
          have hr5 := hr4.on ba
          have hs5 := hs4.on ba
          have hS5 := hSq.on b25
          have c5 := bS.cell 0
          simp at c5
          have c3' := (bcell b25).1 b3 (o3 + q) hb3
          rw [hcl3] at c3'
          have hrf : ∀ W, Below w5.heap.size w5 W → RdAt W gr [] 0 := fun W h => hr5.on h
          have hsf : ∀ W, Below w5.heap.size w5 W → SetAt W W.heap.size (.agg #[.slice A4' n4' c4']) M := fun W h => hs5.on h
          have hSf : ∀ W, Below w5.heap.size w5 W → SetAt W W.heap.size (.agg #[.slice As ns cs]) M := fun W h => hS5.on h
          have qq : Below w5.heap.size w5 w5.drew := (Below.refl _ _).drew
          clear bS
          go_region_with (first
            | (go_at_call 37; refine (end_ok gr _ (by exact hrf _ qq)).mono ?_; rintro e wq ⟨rfl, rfl⟩)
            | (go_at_call 38; refine (setEqual_same _ _ M _ (by exact hsf _ qq) (by exact hSf _ qq)).mono ?_; rintro e wq ⟨rfl, bq⟩))
          all_goals
            go_wp2_with fail
            go_roundw
            case rel => exact ⟨q + 1, by go_num, by omega, b25.trans ((qq.mono b25.size).trans (bq.mono (Nat.le_trans b25.size qq.size)))⟩
            case measure => simp [intOf]; omega
        · obtain rfl : q = kk := by omega
          go_wp2_with fail
          go_ret
          exact ⟨rfl, hB.trans ((b2.trans (bx.mono hz2)).mono hzr)⟩
end Go.Proofs.Ytppkimlalceleaa.crcSets
