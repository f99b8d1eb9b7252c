/- The walk of the law CrcScans: of any bytes exactly the frames at the beginning are found. -/
import Derived.Test.YtppkimlalceleaaCrcG
import Derived.Test.YtppkimlalceleaaCrcH
import Derived.Test.YtppkimlalceleaaCrcScansP
import Derived.Test.YtppkimlalceleaaArgsBB
import Derived.Test.YtppkimlalceleaaArgsDmg
import Derived.Deep.RegionWith
import Derived.Deep.CutRange
namespace Go.Proofs.Ytppkimlalceleaa.crcScans
open Go.RowKit CrcLaw
set_option linter.unusedVariables false
set_option linter.unusedSimpArgs false

/-- What the loop needs of one of the two byte strings. -/
def Str (w : World) (u : Value) : Prop := ∃ (A : Option Addr) (n c : Nat) (l : List UInt8), u = .slice A n c ∧ n ≤ c ∧ n ≤ 30000 ∧ Sees w w.heap.size A (l.map bv) ∧ Hid (l.length = n)
theorem Str.on {w w' : World} {u : Value} (h : Str w u) (hb : Below w.heap.size w w') : Str w' u := by
  obtain ⟨A, n, c, l, e, h1, h2, s, h3⟩ := h
  exact ⟨A, n, c, l, e, h1, h2, s.on hb, h3⟩

/-- slices.Equal at two slices of the same bytes. -/
theorem equal_same (A A2 : Option Addr) (n c n2 c2 : Nat) (l : List UInt8) (w : World) (h : Sees w w.heap.size A (l.map bv)) (h2 : Sees w w.heap.size A2 (l.map bv))
    (hn : l.length = n) (hn2 : l.length = n2) (hb : n ≤ 140737488355328) :
    Calls Try.prog 20 #[.slice A n c, .slice A2 n2 c2] w fun e w' => e = .returned (.bool true) ∧ ∃ q, w' = w.drewN q := by
  refine (equal_any A A2 n c n2 c2 l l w h h2 hn hn2 hb).mono ?_
  rintro e w' ⟨rfl, q, rfl⟩
  rw [beq_self_eq_true]
  exact ⟨rfl, q, rfl⟩

set_option maxRecDepth 100000 in
set_option maxHeartbeats 4000000 in
theorem walk (A0 : Option Addr) (n0 c0 : Nat) (vs0 : List Value) (ls0 : List (List UInt8)) (k b at_ : Int) (Am : Option Addr) (nm cm : Nat) (lm : List UInt8) (A2 : Option Addr) (n2 c2 : Nat) (l2 : List UInt8)
    (w : World) (w0 : ArgBB w A0 n0 c0 vs0 ls0) (w1 : ArgDmg w k b at_ Am nm cm lm) (w2 : ArgB w A2 n2 c2 l2) :
    Calls Try.prog 11 #[.slice A0 n0 c0, .agg #[.int .u8 k, .int .u8 b, .int .u16 at_, .slice Am nm cm], .slice A2 n2 c2] w fun e w' => e = .returned (.bool true) ∧ Below w.heap.size w w' := by
  obtain ⟨wk, wb, wa, wm⟩ := w1
  obtain ⟨k1, k2⟩ := wf_u8 wk
  obtain ⟨b1', b2⟩ := wf_u8 wb
  obtain ⟨a1, a2⟩ := wf_u16 wa
  obtain ⟨s0, hn0, hn0', hcap0, hmax0, hrow0⟩ := w0
  obtain ⟨sm, hnm, hcapm, hmaxm⟩ := wm
  obtain ⟨s2, hn2, hcap2, hmax2⟩ := w2
  unfold maxLen at hmax0 hmaxm hmax2
  have Hn0 := Lib.hid hn0; have Hn0' := Lib.hid hn0'; have Hrow := Lib.hid hrow0; have Hnm := Lib.hid hnm; have Hn2 := Lib.hid hn2; clear hn0 hn0' hrow0 hnm hn2 wk wb wa
  have hB := (Blk.new w 53 #[.int .u8 k, .int .u8 b, .int .u16 at_, .slice Am nm cm])
  go_enter Try.func11, Try.ntmps11
  go_wp2_with fail
  refine (awake_any _).mono ?_
  rintro e w1 ⟨rfl, b1⟩
  have hB1 : Blk w1 w.heap.size _ _ := hB.on b1
  have e0 : w1.cell? ⟨w.heap.size, 0, none⟩ = some (.int .u8 k) := hB1.cell 0
  have e1 : w1.cell? ⟨w.heap.size, 1, none⟩ = some (.int .u8 b) := hB1.cell 1
  have e2 : w1.cell? ⟨w.heap.size, 2, none⟩ = some (.int .u16 at_) := hB1.cell 2
  have e3 : w1.cell? ⟨w.heap.size, 3, none⟩ = some (.slice Am nm cm) := hB1.cell 3
  have b01 : Below w.heap.size w w1 := ((Below.refl _ _).alloc (Nat.le_refl _) _).trans (b1.mono (by simp))
  have hz1 := b01.size
  have hrow1 : ∀ W, Below w1.heap.size w1.drew W → Sees W W.heap.size A0 vs0 ∧ (∀ (i : Nat) (u : Value), vs0[i]? = some u → ∃ (A : Option Addr) (n c : Nat) (l : List UInt8), u = .slice A n c ∧ Sees W W.heap.size A (l.map bv) ∧ l.length = n ∧ n ≤ c ∧ c ≤ 9223372036854775807) := by
    intro W hW
    have hb : Below w.heap.size w W := (below_drewN b01 1).trans (hW.mono b01.size)
    refine ⟨s0.on hb, fun i u hu => ?_⟩
    have hi : i < vs0.length := (List.getElem?_eq_some_iff.1 hu).1
    have hi' : i < ls0.length := by rw [Hn0'.out, ← Hn0.out]; exact hi
    obtain ⟨A, n, c, e, h1, h2, h3, h4⟩ := Hrow.out i u ls0[i] hu (List.getElem?_eq_getElem hi')
    exact ⟨A, n, c, _, e, h1.on hb, h2, h3, h4⟩
  have hm1 : ∀ W, Below w1.heap.size w1.drew W → Sees W W.heap.size Am (lm.map bv) := fun W hW => sm.on ((below_drewN b01 1).trans (hW.mono b01.size))
  have h21 : ∀ W, Below w1.heap.size w1.drew W → Sees W W.heap.size A2 (l2.map bv) := fun W hW => s2.on ((below_drewN b01 1).trans (hW.mono b01.size))
  have hsz : w.heap.size < w1.heap.size := by have := b1.size; simp at this; omega
  have hce : ∀ W, Below w1.heap.size w1.drew W → W.cell? ⟨w.heap.size, 0, none⟩ = some (.int .u8 k) ∧ W.cell? ⟨w.heap.size, 1, none⟩ = some (.int .u8 b) ∧ W.cell? ⟨w.heap.size, 2, none⟩ = some (.int .u16 at_) ∧ W.cell? ⟨w.heap.size, 3, none⟩ = some (.slice Am nm cm) := by
    intro W hW
    have hc := fun i => (bcell hW).1 w.heap.size i hsz
    exact ⟨(hc 0).trans e0, (hc 1).trans e1, (hc 2).trans e2, (hc 3).trans e3⟩
  have qq : Below w1.heap.size w1.drew w1.drew := Below.refl _ _
  go_wp2_with fail
  go_cut [26, 27, 28] from 20 to 28 (fun v26 v27 v28 wx => ∃ (g : Nat) (u1 u2 : Value), v26 = .slice (some ⟨g, 0, none⟩) 2 2 ∧ v27 = .int .i64 2 ∧ v28 = .int .i64 0 ∧ Sees wx wx.heap.size (some ⟨g, 0, none⟩) [u1, u2] ∧ Str wx u1 ∧ Str wx u2 ∧ Below w.heap.size w wx)
  case first =>
    go_region_with (first
      | (go_at_call 28; refine (frames_any A0 n0 c0 vs0 _ (by exact (hrow1 _ qq).1) Hn0.out hcap0 (by omega) (by exact (hrow1 _ qq).2)).mono ?_; rintro e wf ⟨Af, mf, cf, lf, rfl, hmf, of_, bf⟩; have qq : Below w1.heap.size w1.drew wf := qq.trans (bf.mono qq.size); obtain ⟨g0, g1, g2, g3⟩ := hce _ qq)
      | (go_at_call 27; refine (apply_any k b at_ Am nm cm lm Af mf cf lf _ (by exact hm1 _ qq) Hnm.out hcapm (by omega) (by first | exact of_.sees.on bw | exact of_.sees) of_.len hmf k1 k2 b1' b2 a1 a2).mono ?_; rintro e wa ⟨Aa, ma, ca, la, rfl, hma1, hma2, sa, Hma, ba⟩; have qq : Below w1.heap.size w1.drew wa := qq.trans (ba.mono qq.size); obtain ⟨g0, g1, g2, g3⟩ := hce _ qq)
      | (go_at_call 14; refine (few_any A2 n2 c2 500 l2 _ (by exact h21 _ qq) Hn2.out hcap2 (by omega) (by omega)).mono ?_; rintro e ww ⟨q3, A3, c3, rfl, hq3, hqc3, Hq3, o3, bw⟩; have qq : Below w1.heap.size w1.drew ww := qq.trans (bw.mono qq.size); obtain ⟨g0, g1, g2, g3⟩ := hce _ qq))
    all_goals (go_wp2_with fail; go_meet)
    all_goals (
      have bb : Below w.heap.size w (ww.alloc (.cells #[.slice Aa ma ca, .slice A3 q3 c3] 22)) := ((below_drewN b01 1).trans (qq.mono b01.size)).alloc (by have := qq.size; simp at this; omega) _
      have ba' : Below ww.heap.size ww (ww.alloc (.cells #[.slice Aa ma ca, .slice A3 q3 c3] 22)) := (Below.refl _ _).alloc (Nat.le_refl _) _
      exact ⟨_, _, _, rfl, rfl, rfl, Sees.laid ww _ _ _ _ rfl _ rfl, Str.on ⟨_, _, _, _, rfl, hma1, hma2, sa.on bw, Hma⟩ ba', Str.on ⟨_, _, _, _, rfl, hqc3, by omega, o3.sees, Hq3⟩ ba', bb⟩)
  case rest =>
    obtain ⟨g, u1, u2, rfl, rfl, rfl, sg, hu1, hu2, bc⟩ := hcut
    have hz0 := bc.size
    go_wp2_with fail
    go_loopw [28] (fun v28 wr => ∃ i : Nat, v28 = .int .i64 (i : Nat) ∧ i ≤ 2 ∧ Below wc.heap.size wc wr) (fun v28 _ => 2 - (intOf v28).toNat)
    case atStart => exact ⟨0, rfl, by omega, Below.refl _ _⟩
    case round =>
      obtain ⟨i, rfl, hi, br⟩ := hrel
      have hi0 : (0 : Int) ≤ (i : Int) := by omega
      by_cases hi2 : i < 2
      · have hi2' : (i : Int) < 2 := by omega
        obtain ⟨u, hu, hS⟩ : ∃ u, [u1, u2][i]? = some u ∧ Str wc u := by
          match i, hi2 with
          | 0, _ => exact ⟨u1, rfl, hu1⟩
          | 1, _ => exact ⟨u2, rfl, hu2⟩
        obtain ⟨bb, oo, hA, hbb, hcl⟩ := sg.at_ (k := i) (by simp; omega)
        have hu' : [u1, u2][i]'(by simp; omega) = u := by
          have := List.getElem?_eq_getElem (l := [u1, u2]) (i := i) (by simp; omega)
          rw [hu] at this; injection this with this; exact this.symm
        rw [hu'] at hcl
        injection hA with hA
        injection hA with hA1 hA2
        subst hA1 hA2
        obtain ⟨A, n, c, l, rfl, hnc, hn3, hs, Hl⟩ := hS.on br
        have hc1 := (bcell br).1 g (0 + i) hbb
        rw [hcl, Nat.zero_add] at hc1
        clear hcl hu hu' hS
        go_wp2_with fail
        refine (scan_any A n c l _ hs Hl.out hnc (by omega)).mono ?_
        rintro e w3 ⟨A3, k3, c3, good, vs, ls, rfl, hk3, hgn, Hs, Hg, ob, b3⟩
        go_wp2_with fail
        refine (rscan_any A n c l _ (hs.on b3) Hl.out hnc (by omega)).mono ?_
        rintro e w4 ⟨A4, k4, c4, ls', rfl, Hs', oi, b4⟩
        obtain rfl : ls' = ls := scanned_unique Hs'.out Hs.out
        obtain ⟨hl1, hl2⟩ := ob.len
        obtain rfl : k4 = k3 := by have := oi.len; simp [lens] at this; omega
        have ob4 := ob.on b4
        have b34 : Below wr.heap.size wr w4 := b3.trans (b4.mono b3.size)
        have hs4 := hs.on b34
        go_wp2_with fail
        have Hk := Lib.hid hl2; clear hl2
        have hz4 := b34.size
        have bw4 : Below wc.heap.size wc w4 := br.trans (b34.mono br.size)
        go_loopw [12, 46] (fun v12 v46 wr2 => ∃ r : Nat, v46 = .int .i64 (r : Nat) ∧ v12 = .int .i64 ((endAt ls' r : Nat)) ∧ r ≤ k4 ∧ Below w4.heap.size w4 wr2) (fun _ v46 _ => k4 - (intOf v46).toNat)
        case atStart => exact ⟨0, rfl, rfl, by omega, Below.refl _ _⟩
        case round =>
          obtain ⟨r, rfl, rfl, hr, b5⟩ := hrel
          have hr0 : (0 : Int) ≤ (r : Int) := by omega
          by_cases hrk : r < k4
          · have hrk' : (r : Int) < (k4 : Int) := by omega
            have hrl : r < ls'.length := by rw [Hk.out]; exact hrk
            have hrv : r < vs.length := by omega
            obtain ⟨e1, e2, e3⟩ := scanned_pay Hs.out (List.getElem?_eq_getElem hrl)
            obtain ⟨Av, nv, cv, hv, ov⟩ := ob4.2.2 r vs[r] ls'[r] (List.getElem?_eq_getElem hrv) (List.getElem?_eq_getElem hrl)
            have hz := oi.sees.int (k := r) (by simp [lens]; exact hrl)
            rw [show (lens ls')[r]? = some ((8 + ls'[r].length : Nat) : Int) by simp [lens, List.getElem?_eq_getElem hrl]] at hz
            have hvc := (Sees.own ob4.1 (by omega)).at_ (k := r) hrv
            rw [hv] at hvc ov
            obtain ⟨E, hE⟩ : ∃ E, E = endAt ls' r := ⟨_, rfl⟩
            obtain ⟨p, hp⟩ : ∃ p, p = ls'[r] := ⟨_, rfl⟩
            rw [← hE] at e2 e3 ⊢
            rw [← hp] at e2 e3 hz ov
            obtain ⟨m, hm⟩ : ∃ m, m = p.length := ⟨_, rfl⟩
            rw [← hm] at e2 e3 hz
            obtain ⟨b', o', z, hA4, hb4, Hz, hcz⟩ := hz
            subst hA4
            have hzz : z = ((8 + m : Nat) : Int) := by have := Hz.out; injection this with this; exact this.symm
            subst hzz
            obtain ⟨b'', o'', hA3, hb3, hcv⟩ := hvc
            subst hA3
            have h4z := (bcell b5).1 b' (o' + r) hb4
            have h4v := (bcell b5).1 b'' (o'' + r) hb3
            rw [hcz] at h4z
            rw [hcv] at h4v
            clear hcz hcv Hz
            obtain rfl : nv = m := by rw [← ov.len, hm]
            rw [e2, Hl.out] at e1
            have E1 := Lib.hid e2; have E3 := Lib.hid e3; have HE := Lib.hid hE; have Hp := Lib.hid hp; have Hm := Lib.hid hm; clear e2 e3 hE hp hm hv
            have hw1 : IntKind.i64.wrap ((E : Int) + 8) = ((E + 8 : Nat) : Int) := by rw [IntKind.wrap_i64]; omega
            have hw2 : IntKind.i64.wrap ((E : Int) + (8 + (nv : Int))) = ((E + (8 + nv) : Nat) : Int) := by rw [IntKind.wrap_i64]; omega
            have ov5 := ov.sees.on b5
            have hs5 := hs4.on b5
            have hle1 : ((E + 8 : Nat) : Int) ≤ ((E + (8 + nv) : Nat) : Int) := by omega
            have hle2 : ((E + (8 + nv) : Nat) : Int) ≤ (c : Int) := by omega
            have sd : Sees wr wr.heap.size (if c = E + 8 then A else A.map (·.add (E + 8))) (((l.drop (E + 8)).take nv).map bv) := by
              rw [List.map_take, List.map_drop]; exact (hs5.drop_ (by simp [Hl.out]; omega) (by simp [Hl.out]; omega)).take_ _
            rw [E3.out] at sd
            by_cases hcE : c = E + 8
            · rw [if_pos hcE] at sd
              obtain rfl : nv = 0 := by omega
              obtain rfl : n = E + 8 := by omega
              subst hcE
              go_wp2_with fail
              go_quiet (first | (go_at_call 20; exact quiet_drew1 (equal_same _ _ _ _ _ _ p _ (ov5.dn _) (sd.dn _) Hm.out.symm Hm.out.symm (by omega))))
              go_wp2_with fail
              go_roundw
              case rel => exact ⟨r + 1, by go_num, by rw [E1.out]; go_num, by omega, below_drewN b5 _⟩
              case measure => simp [intOf]; omega
            · rw [if_neg hcE] at sd
              go_wp2_with fail
              go_quiet (first | (go_at_call 20; exact quiet_drew1 (equal_same _ _ _ _ _ _ p _ (ov5.dn _) (sd.dn _) Hm.out.symm (by rw [← Hm.out]; omega) (by omega))))
              go_wp2_with fail
              go_roundw
              case rel => exact ⟨r + 1, by go_num, by rw [E1.out]; go_num, by omega, below_drewN b5 _⟩
              case measure => simp [intOf]; omega
          · obtain rfl : r = k4 := by omega
            have Hgood := Lib.hid (show endAt ls' r = good by rw [← Hg.out, ← endAt_all, Hk.out])
            rw [Hgood.out]
            have hs5 := hs4.on b5
            have b05 : Below wc.heap.size wc wr := bw4.trans (b5.mono bw4.size)
            match ls', Hs, Hg, Hs', oi, ob, ob4, Hk with
            | [], Hs, Hg, Hs', oi, ob, ob4, Hk =>
              obtain rfl : r = 0 := by have := Hk.out; simp at this; omega
              go_wp2_with fail
              refine (next_no A n c l _ hs5 Hl.out hnc (by omega) (scanned_nil Hs.out)).mono ?_
              rintro e w6 ⟨rfl, q6, rfl⟩
              go_wp2_with fail
              exact ⟨⟨i + 1, by go_num, by omega, below_drewN b05 q6⟩, by simp [intOf]; omega⟩
            | p :: rest, Hs, Hg, Hs', oi, ob, ob4, Hk =>
              have hr1 : 0 < r := by have := Hk.out; simp at this; omega
              have hr1' : (0 : Int) < (r : Int) := by omega
              obtain ⟨f1, f2, f3⟩ := scanned_cons Hs.out
              obtain ⟨m, hm⟩ : ∃ m, m = p.length := ⟨_, rfl⟩
              have hrv : 0 < vs.length := by omega
              obtain ⟨Av, nv, cv, hv, ov⟩ := ob4.2.2 0 vs[0] p (List.getElem?_eq_getElem hrv) rfl
              have hz := oi.sees.int (k := 0) (by simp [lens])
              rw [show (lens (p :: rest))[0]? = some ((8 + p.length : Nat) : Int) by rfl] at hz
              have hvc := (Sees.own ob4.1 (by omega)).at_ (k := 0) hrv
              rw [hv] at hvc ov
              rw [← hm] at f2 f3 hz
              obtain ⟨b', o', z, hA4, hb4, Hz, hcz⟩ := hz
              subst hA4
              have hzz : z = ((8 + m : Nat) : Int) := by have := Hz.out; injection this with this; exact this.symm
              subst hzz
              obtain ⟨b'', o'', hA3, hb3, hcv⟩ := hvc
              subst hA3
              have F2 := Lib.hid f2; have F3 := Lib.hid f3; have Hm := Lib.hid hm; clear f2 f3 hm hv
              go_wp2_with fail
              refine (next_yes A n c l _ hs5 Hl.out hnc (by omega) f1 m F2.out).mono ?_
              rintro e w6 ⟨A6, c6, rfl, o6, b6⟩
              rw [F3.out] at o6
              have b46 := b5.trans (b6.mono b5.size)
              have h4z := (bcell b46).1 b' (o' + 0) hb4
              have h4v := (bcell b46).1 b'' (o'' + 0) hb3
              rw [hcz, Nat.add_zero] at h4z
              rw [hcv, Nat.add_zero] at h4v
              clear hcz hcv Hz
              have ov6 := ov.sees.on b46
              obtain rfl : nv = m := by rw [← ov.len, Hm.out]
              go_wp2_with fail
              refine (equal_same _ _ _ _ _ _ p _ o6.sees ov6 Hm.out.symm Hm.out.symm (by have := f1.2.1; rw [F2.out] at this; omega)).mono ?_
              rintro e w7 ⟨rfl, q7, rfl⟩
              go_wp2_with fail
              exact ⟨⟨i + 1, by go_num, by omega, below_drewN (b05.trans (b6.mono b05.size)) q7⟩, by simp [intOf]; omega⟩
      · obtain rfl : i = 2 := by omega
        go_wp2_with fail
        go_ret
        exact ⟨rfl, bc.trans (br.mono hz0)⟩
end Go.Proofs.Ytppkimlalceleaa.crcScans
