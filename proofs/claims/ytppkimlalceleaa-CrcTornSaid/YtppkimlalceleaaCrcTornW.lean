/- The walk of the law CrcTorn: of frames whose end was cut off exactly those before the cut are found. -/
import Derived.Test.YtppkimlalceleaaCrcG
import Derived.Test.YtppkimlalceleaaCrcTornP
import Derived.Test.YtppkimlalceleaaArgsBB
namespace Go.Proofs.Ytppkimlalceleaa.crcTorn
open Go.RowKit CrcLaw
set_option linter.unusedVariables false
set_option linter.unusedSimpArgs false

/-- The ends of the first i frames. -/
def endsTo (ps : List (List UInt8)) (i : Nat) : List Int := (List.range i).map fun j => ((endAt ps (j + 1) : Nat) : Int)
theorem endsTo_succ (ps : List (List UInt8)) (i : Nat) : endsTo ps (i + 1) = endsTo ps i ++ [((endAt ps (i + 1) : Nat) : Int)] := by
  unfold endsTo; rw [List.range_succ, List.map_append]; rfl
/-- The payloads. -/
def pays (ls : List (List UInt8)) (m : Nat) : List (List UInt8) := (ls.take m).map (List.take 300)
theorem ArgB.on {w w' : World} {A : Option Addr} {n c : Nat} {l : List UInt8} (h : ArgB w A n c l) (hb : Below w.heap.size w w') : ArgB w' A n c l := ⟨h.sees.on hb, h.len, h.cap, h.max⟩

theorem walk (A0 : Option Addr) (n0 c0 : Nat) (vs0 : List Value) (ls0 : List (List UInt8)) (a1 : Int) (w : World) (w0 : ArgBB w A0 n0 c0 vs0 ls0) (w1 : (Lit.int .u16 a1).wf = true) :
    Calls Try.prog 7 #[.slice A0 n0 c0, .int .u16 a1] w fun e w' => e = .returned (.bool true) ∧ Below w.heap.size w w' := by
  obtain ⟨z1, z2⟩ := wf_u16 w1
  obtain ⟨a, rfl⟩ := Int.eq_ofNat_of_zero_le z1
  obtain ⟨s0, hn0, hn0', hcap, hmax, hrow⟩ := w0
  unfold maxLen at hmax
  obtain ⟨m, hm⟩ : ∃ m, m = min n0 8 := ⟨_, rfl⟩
  have hm1 : m ≤ n0 := by omega
  have hm2 : m ≤ 8 := by omega
  have Hm := Lib.hid hm; have Hn0 := Lib.hid hn0; have Hn0' := Lib.hid hn0'; have Hrow := Lib.hid hrow; clear hm hn0 hn0' hrow w1
  obtain ⟨ps, hps⟩ : ∃ ps, ps = pays ls0 m := ⟨_, rfl⟩
  have Hps := Lib.hid hps; clear hps
  have Hpl := Lib.hid (show ps.length = m by rw [Hps.out]; simp [pays, Hn0'.out]; omega)
  have Hp9 := Lib.hid (show ∀ p ∈ ps, p.length ≤ 300 by
    rw [Hps.out]; unfold pays; intro p hp
    obtain ⟨q, _, rfl⟩ := List.mem_map.1 hp
    simp; omega)
  have Hpk := Lib.hid (show ∀ (i : Nat) (l : List UInt8), i < m → ls0[i]? = some l → ps[i]? = some (l.take 300) by
    intro i l hi hl
    rw [Hps.out]; unfold pays
    rw [List.getElem?_map, List.getElem?_take, if_pos hi, hl]; rfl)
  have sv : Sees w w.heap.size A0 (vs0.take m) := s0.take_ m
  go_enter Try.func7, Try.ntmps7
  go_wp2_with fail
  refine (awake_any _).mono ?_
  rintro e w1 ⟨rfl, b1⟩
  go_wp2_with (with_reducible refine wpL_min2 _ rfl (.tmp 24) (.const (.int .i64 8)) _ rfl _ _ rfl rfl (m : Int) (by have := Hm.out; omega) ?_)
  have hz1 := b1.size
  go_loopw [5, 6, 28] (fun v5 v6 v28 wr => ∃ (A5 : Option Addr) (k5 c5 : Nat) (A6 : Option Addr) (i c6 : Nat), v5 = .slice A5 k5 c5 ∧ v6 = .slice A6 i c6 ∧ v28 = .int .i64 (i : Nat) ∧ i ≤ m ∧ k5 ≤ 308 * i ∧
      OwnB wr w.heap.size (.slice A5 k5 c5) k5 (flat (ps.take i)) ∧ OwnI wr w.heap.size (.slice A6 i c6) i (endsTo ps i) ∧ Below w.heap.size w wr) (fun _ _ v28 _ => m - (intOf v28).toNat)
  case atStart => exact ⟨none, 0, 0, none, 0, 0, rfl, rfl, rfl, by omega, by omega, OwnB.nil _ _, OwnI.nil _ _, b1⟩
  case round =>
    obtain ⟨A5, k5, c5, A6, i, c6, rfl, rfl, rfl, hi, hk, ob, oi, hB⟩ := hrel
    have hzr := hB.size
    by_cases him : i < m
    · have him' : (i : Int) < (m : Int) := by omega
      have hi0 : (0 : Int) ≤ (i : Int) := by omega
      have hvl : vs0.length = n0 := Hn0.out
      have hll : ls0.length = n0 := Hn0'.out
      obtain ⟨b, o, hA0, hb, hcl⟩ := sv.at_ (k := i) (by simp; omega)
      subst hA0
      rw [List.getElem_take] at hcl
      have hiv : i < vs0.length := by omega
      have hil : i < ls0.length := by omega
      obtain ⟨Ai, ni, ci, hu, hrow⟩ := Hrow.out i vs0[i] ls0[i] (List.getElem?_eq_getElem hiv) (List.getElem?_eq_getElem hil)
      obtain ⟨l, hl⟩ : ∃ l, l = ls0[i] := ⟨_, rfl⟩
      rw [← hl] at hrow
      have Hpi := Lib.hid (Hpk.out i l him (by rw [hl]; exact List.getElem?_eq_getElem _))
      clear hl
      have hcl2 := (bcell hB).1 b (o + i) hb
      rw [hcl, hu] at hcl2
      have sr := (hrow.sees.on hB)
      have hrm := hrow.max; unfold maxLen at hrm
      have hrc := hrow.cap
      go_wp2_with fail
      refine (few_any Ai ni ci 300 l _ sr hrow.len hrow.cap (by omega) (by omega)).mono ?_
      rintro e w2 ⟨q, A2, c2, rfl, hq, hqc, Hq, o2, b2⟩
      go_wp2_with fail
      refine (frame_yes A2 q c2 _ w2 o2.sees Hq.out (by omega)).mono ?_
      rintro e w3 ⟨A3, c3, rfl, o3, b3⟩
      have b13 : Below wr.heap.size wr w3 := b2.trans (b3.mono b2.size)
      have b03 : Below w.heap.size w w3 := hB.trans (b13.mono hzr)
      have ob3 := ob.on b13
      have oi3 := oi.on b13
      have hz3 := b03.size
      have He := Lib.hid (endAt_succ Hpi.out)
      have Hfl := Lib.hid (show flat (ps.take i) ++ frameOf (l.take 300) = flat (ps.take (i + 1)) by
        rw [show ps.take (i + 1) = ps.take i ++ [l.take 300] by rw [List.take_add_one, Hpi.out]; rfl]; exact (flat_snoc _ _).symm)
      have op4 : ∀ A5' c5' w4, OwnB w4 w.heap.size (.slice A5' (k5 + (8 + q)) c5') (k5 + (8 + q)) (flat (ps.take (i + 1))) → w3.grownBy w4 (Value.slice A5 k5 c5).ownBlock → Below w.heap.size w3 w4 ∧ OwnI w4 w.heap.size (.slice A6 i c6) i (endsTo ps i) ∧ w.heap.size ≤ w4.heap.size := by
        intro A5' c5' w4 o4 g4
        have b4 : Below w.heap.size w3 w4 := below_app (Below.refl _ _) hz3 ob3 g4
        exact ⟨b4, oi3.kept g4 (own_ne ob3 oi3 (by decide)), (b03.trans b4).size⟩
      go_wp2_with (first
        | (at_builtin; refine wpL_appB _ rfl (.tmp 40) (.tmp 41) rfl w.heap.size _ k5 _ rfl ob3 w3.heap.size A3 (8 + q) c3 _ rfl o3.len o3.sees (by omega) hz3 (k5 + (8 + q)) rfl _ Hfl.out ?_; intro A5' c5' w4 o4 g4 _; obtain ⟨b4, oi4, hz4⟩ := op4 _ _ _ o4 g4)
        | (at_builtin; refine wpL_appI1 _ rfl (.tmp 43) (.tmp 46) rfl w4 w.heap.size _ i _ rfl oi4 _ rfl _ rfl rfl (by omega) hz4 (i + 1) rfl ?_; intro A6' c6' w5 o6 g6 b5))
      go_roundw
      case rel =>
        refine ⟨A5', _, c5', A6', i + 1, c6', rfl, rfl, by go_num, by omega, by omega, ?_, ?_, (b03.trans b4).trans b5⟩
        · exact o4.kept g6 (own_ne oi4 o4 (by decide))
        · rw [endsTo_succ, He.out, show endAt ps i = k5 from ob.len, Hq.out]
          have e : (k5 : Int) + (8 + (q : Int)) = ((k5 + (8 + q) : Nat) : Int) := by omega
          rw [e] at o6
          exact o6
      case measure => simp [intOf]; omega
    · obtain rfl : i = m := by omega
      rw [List.take_of_length_le (by have := Hpl.out; omega)] at ob
      obtain ⟨k, hk0⟩ : ∃ k : Nat, (a : Int) % ((k5 : Int) + 1) = (k : Int) := ⟨a % (k5 + 1), (Int.natCast_emod a (k5 + 1)).symm⟩
      have hkk : k ≤ k5 := by have := Int.emod_lt_of_pos (a : Int) (b := (k5 : Int) + 1) (by omega); omega
      have hkk' : (k : Int) ≤ (k5 : Int) := by omega
      have hkz : (0 : Int) ≤ (k : Int) := by omega
      have hk5l := ob.len
      have hc5 := ob.room
      have hc5' : (k : Int) ≤ (c5 : Int) := by omega
      obtain ⟨j, hj, hcut⟩ := cut_index ps k
      have Hcut := Lib.hid hcut
      obtain ⟨hT, hE⟩ := torn_scanned (fun p hp => Nat.le_trans (Hp9.out p hp) (by omega)) (by rw [hk5l]; exact hkk) hj hcut
      have HT := Lib.hid hT; have HE := Lib.hid hE; have Hk5l := Lib.hid hk5l
      rw [Hpl.out] at hj
      clear hcut hT hE hk5l
      have hse : Sees wr wr.heap.size A5 (((flat ps).take k).map bv) := by rw [List.map_take]; exact ob.sees.take_ k
      have Htk := Lib.hid (show ((flat ps).take k).length = k by simp [Hk5l.out]; omega)
      go_wp2_with fail
      refine (scan_any A5 k c5 _ _ hse Htk.out (by omega) (by omega)).mono ?_
      rintro e w2 ⟨A', kk, c', g, vs, gs, rfl, hk1, hg1, Hs, Hg, og, b2⟩
      obtain rfl : gs = ps.take j := scanned_unique Hs.out HT.out
      obtain ⟨hl1, hl2⟩ := og.len
      obtain rfl : kk = j := by rw [← hl2]; simp [Hpl.out]; omega
      have Hge := Lib.hid (show g = endAt ps kk by rw [← Hg.out, HE.out])
      have oi2 := oi.on b2
      have Hoi := Lib.hid (show (endsTo ps i).length = i by simp [endsTo])
      have Hoe := Lib.hid (show ∀ q, q < i → (endsTo ps i)[q]? = some ((endAt ps (q + 1) : Nat) : Int) by
        intro q hq; unfold endsTo; rw [List.getElem?_map, List.getElem?_range hq]; rfl)
      go_wp2_with fail
      go_loop [14, 15, 64] (fun v14 v15 v64 => ∃ q : Nat, v64 = .int .i64 (q : Nat) ∧ q ≤ i ∧ v14 = .int .i64 ((min q kk : Nat)) ∧ v15 = .int .i64 ((endAt ps (min q kk) : Nat))) (fun _ _ v64 => i - (intOf v64).toNat)
      case atStart => exact ⟨0, rfl, by omega, by simp, by simp [endAt_zero]⟩
      case round =>
        obtain ⟨q, rfl, hq, rfl, rfl⟩ := hrel
        by_cases hqi : q < i
        · have hqi' : (q : Int) < (i : Int) := by omega
          have hq0 : (0 : Int) ≤ (q : Int) := by omega
          obtain ⟨b, o, z, hA6, hb, Hz, hcell⟩ := oi2.sees.int (k := q) (by rw [Hoi.out]; exact hqi)
          subst hA6
          have hzz : z = ((endAt ps (q + 1) : Nat) : Int) := by
            have := Hz.out; rw [Hoe.out q hqi] at this; injection this with this; exact this.symm
          subst hzz
          obtain ⟨E, hE⟩ : ∃ E : Nat, E = endAt ps (q + 1) := ⟨_, rfl⟩
          rw [← hE] at hcell
          have hc1 := Hcut.out (q + 1) (by rw [Hpl.out]; omega)
          by_cases hle : E ≤ k
          · have hle' : (E : Int) ≤ (k : Int) := by omega
            have hqk : q + 1 ≤ kk := hc1.1 (by omega)
            rw [show min q kk = q by omega]
            go_wp2_with fail
            go_round
            case rel => exact ⟨q + 1, by go_num, by omega, by rw [show min (q + 1) kk = q + 1 by omega]; go_num, by rw [show min (q + 1) kk = q + 1 by omega, ← hE]⟩
            case measure => simp [intOf]; omega
          · have hle' : (k : Int) < (E : Int) := by omega
            have hqk : ¬ q + 1 ≤ kk := fun h => by have := hc1.2 h; omega
            go_wp2_with fail
            go_round
            case rel => exact ⟨q + 1, by go_num, by omega, by rw [show min (q + 1) kk = min q kk by omega], by rw [show min (q + 1) kk = min q kk by omega]⟩
            case measure => simp [intOf]; omega
        · obtain rfl : q = i := by omega
          rw [show min q kk = kk by omega, ← Hge.out]
          go_wp2_with fail
          have b02 : Below w.heap.size w w2 := hB.trans (b2.mono hzr)
          have hwr2 := b2.size
          go_loopw [86] (fun v86 w5 => ∃ r : Nat, v86 = .int .i64 (r : Nat) ∧ r ≤ kk ∧ Below w2.heap.size w2 w5) (fun v86 _ => kk - (intOf v86).toNat)
          case atStart => exact ⟨0, rfl, by omega, Below.refl _ _⟩
          case round =>
            obtain ⟨r, rfl, hr, b5⟩ := hrel
            by_cases hrk : r < kk
            · have hrk' : (r : Int) < (kk : Int) := by omega
              have hr0 : (0 : Int) ≤ (r : Int) := by omega
              have hrn : (r : Int) < (n0 : Int) := by omega
              have hvl : vs0.length = n0 := Hn0.out
              have hll : ls0.length = n0 := Hn0'.out
              have hrv : r < vs.length := by omega
              have hiv : r < vs0.length := by omega
              have hil : r < ls0.length := by omega
              obtain ⟨b, o, hA', hb, hcl⟩ := (Sees.own og.1 (by omega)).at_ (k := r) hrv
              subst hA'
              obtain ⟨b', o', hA0, hb', hcl'⟩ := s0.at_ (k := r) hiv
              subst hA0
              obtain ⟨Ai, ni, ci, hu, hrow⟩ := Hrow.out r vs0[r] ls0[r] (List.getElem?_eq_getElem hiv) (List.getElem?_eq_getElem hil)
              obtain ⟨l, hl⟩ : ∃ l, l = ls0[r] := ⟨_, rfl⟩
              rw [← hl] at hrow
              have hpr := Hpk.out r l (by omega) (by rw [hl]; exact List.getElem?_eq_getElem _)
              clear hl
              obtain ⟨Av, nv, cv, hv, ov⟩ := og.2.2 r vs[r] (l.take 300) (List.getElem?_eq_getElem hrv) (by rw [List.getElem?_take, if_pos hrk]; exact hpr)
              rw [hv] at hcl ov
              rw [hu] at hcl'
              have b05 : Below w.heap.size w wr := b02.trans (b5.mono b02.size)
              have hc1 := (bcell b5).1 b (o + r) hb
              have hc2 := (bcell b05).1 b' (o' + r) hb'
              rw [hcl] at hc1
              rw [hcl'] at hc2
              have sr := hrow.sees.on b05
              have hrm := hrow.max; unfold maxLen at hrm
              have hrc := hrow.cap
              have ov5 := ov.on b5
              have hvl5 := ov.len
              have Hvl := Lib.hid hvl5
              clear hvl5
              go_wp2_with fail
              refine (few_any Ai ni ci 300 l _ sr hrow.len hrow.cap (by omega) (by omega)).mono ?_
              rintro e w6 ⟨q2, A2, c2, rfl, hq2, hqc2, Hq2, o2, b6⟩
              have ov6 := ov5.on b6
              go_wp2_with fail
              refine (equal_any Av A2 nv cv q2 c2 _ _ w6 ov6.sees o2.sees Hvl.out Hq2.out (by have := Hvl.out; simp at this; omega)).mono ?_
              rintro e w7 ⟨rfl, q7, rfl⟩
              rw [beq_self_eq_true]
              go_wp2_with fail
              go_roundw
              case rel => exact ⟨r + 1, by go_num, by omega, below_drewN (b5.trans (b6.mono b5.size)) q7⟩
              case measure => simp [intOf]; omega
            · obtain rfl : r = kk := by omega
              go_wp2_with fail
              go_ret
              exact ⟨rfl, b02.trans (b5.mono b02.size)⟩
end Go.Proofs.Ytppkimlalceleaa.crcTorn
