/- The walk of the law WireCanonical: whatever is read from any bytes, writing it again gives the bytes that were taken. -/
import Derived.Test.YtfbdfpnmopgkoaaLawD
import Derived.Test.YtfbdfpnmopgkoaaArgs
import Derived.Deep.RegionHeld3
namespace Go.Proofs.Ytfbdfpnmopgkoaa.wireCanonical
open Go.RowKit
set_option linter.unusedVariables false
set_option linter.unusedSimpArgs false

set_option maxHeartbeats 4000000 in
set_option maxRecDepth 100000 in
theorem walk (A0 : Option Addr) (n0 c0 : Nat) (l0 : List UInt8) (A1 : Option Addr) (n1 c1 : Nat) (l1 : List UInt8) (w : World) (w0 : ArgB w A0 n0 c0 l0) (w1 : ArgB w A1 n1 c1 l1) :
    Calls Try.prog 7 #[.slice A0 n0 c0, .slice A1 n1 c1] w fun e w' => e = .returned (.bool true) ∧ Below w.heap.size w w' := by
  obtain ⟨s0, hn0, hcap0, hmax0⟩ := w0
  obtain ⟨s1, hn1, hcap1, hmax1⟩ := w1
  unfold maxLen at hmax0 hmax1
  obtain ⟨m, hm⟩ : ∃ m, m = min n0 300 := ⟨_, rfl⟩
  have hm1 : m ≤ n0 := by omega
  have hm2 : m ≤ 300 := by omega
  have hsh := fun W => short_any A0 n0 c0 W hcap0 hmax0
  rw [← hm] at hsh
  obtain ⟨P, hP⟩ : ∃ P, Hid (P = l0.take 300) := ⟨_, Lib.hid rfl⟩
  have hPl := Lib.hid (show P.length = m by rw [hP.out, List.length_take, hn0, hm]; omega)
  have sP : Sees w w.heap.size A0 (P.map bv) := by rw [hP.out, List.map_take]; exact s0.take_ 300
  obtain ⟨mm, hmm⟩ : ∃ mm, mm = min n1 40 := ⟨_, rfl⟩
  have HM := Lib.hid (show ∀ k : Nat, k < mm ↔ k < n1 ∧ k < 40 by omega)
  have Hn1 := Lib.hid hn1
  have hmc : (m : Int) ≤ (c0 : Int) := by omega
  clear hn0 hm hn1 hmm
  go_enter Try.func7, Try.ntmps7
  go_wp2_with fail
  refine (awake_any w).mono ?_
  rintro e u1 ⟨rfl, b1⟩
  go_wp2_with fail
  refine (hsh u1).mono ?_
  rintro e u1' ⟨rfl, rfl⟩
  go_wp2_with fail
  refine (newReader_any A0 m c0 P u1 (sP.on b1) hPl.out (by omega)).mono ?_
  rintro e u2 ⟨gr, rfl, hgr, hr2, b2⟩
  have hgrl : gr < u2.heap.size := by
    obtain ⟨_, _, _, hI⟩ := hr2
    exact hI.blk.lt
  go_wp2_with fail
  refine (newWriter_any u2).mono ?_
  rintro e u3 ⟨rfl, h3, b3⟩
  have hz1 := b1.size
  have hz2 := b2.size
  have b13 : Below u1.heap.size u1 u3 := b2.trans (b3.mono hz2)
  go_wp2_with fail
  go_loopw [7] (fun v7 wr => ∃ (i : Nat) (v : Value) (L p : List UInt8) (er : Int), v7 = .int .i64 (i : Nat) ∧ i ≤ mm ∧ Hid (L ++ p = P) ∧ RdAt wr gr p er ∧ WrAt wr u2.heap.size u2.heap.size v L ∧ Below u1.heap.size u1 wr) (fun v7 _ => mm - (intOf v7).toNat)
  case atStart => exact ⟨0, .slice none 0 0, [], P, 0, rfl, Nat.zero_le _, Lib.hid rfl, hr2.on b3, h3, b13⟩
  case round =>
    obtain ⟨i, v, L, p, er, rfl, hi, HLP, hr, hw, hB⟩ := hrel
    have hzr := hB.size
    have hLP := congrArg List.length HLP.out
    rw [List.length_append, hPl.out] at hLP
    by_cases hlt : i < mm
    · obtain ⟨hin, hi40⟩ := (HM.out i).1 hlt
      have hin' : (i : Int) < (n1 : Int) := by omega
      have hi40' : (i : Int) < 40 := by omega
      have hBw := b1.trans (hB.mono hz1)
      obtain ⟨b, o, x, rfl, hbb, hx, hx256, hcx⟩ := Sees.byte (k := i) (s1.on hBw) (by rw [Hn1.out]; exact hin)
      have HLp := Lib.hid hLP
      clear hLP
      go_wp2_with fail
      refine (ltake_any gr u2.heap.size u2.heap.size v L p er x.toNat wr hr hw hgrl (Nat.le_refl _) (by have := HLp.out; omega) hx256).mono ?_
      rintro e w4 ⟨rfl, v4, L4, p4, e4, hLP4, hr4, hw4, b4⟩
      have HL4 := Lib.hid (hLP4.trans HLP.out)
      have hb4 : Below u1.heap.size u1 w4 := hB.trans (b4.mono hgr)
      clear hLP4
      go_wp2_with fail
      go_roundw
      case rel => exact ⟨i + 1, v4, L4, p4, e4, by go_num, by omega, HL4, hr4, hw4, hb4⟩
      case measure => simp [intOf]; omega
    · have him : i = mm := by omega
      subst him
      have hend : ¬ ((i : Int) < (n1 : Int) ∧ (i : Int) < 40) := fun ⟨h1, h2⟩ => hlt ((HM.out i).2 ⟨by omega, by omega⟩)
      obtain ⟨nL, hnL⟩ : ∃ nL, nL = L.length := ⟨_, rfl⟩
      obtain ⟨np, hnp⟩ : ∃ np, np = p.length := ⟨_, rfl⟩
      rw [← hnL, ← hnp] at hLP
      have hOut := fun W (h : Below wr.heap.size wr W) => out_any u2.heap.size u2.heap.size v L W (hw.on h) (by omega)
      rw [← hnL] at hOut
      have hLe := left_any gr p er wr hr
      rw [← hnp] at hLe
      have HnL := Lib.hid hnL.symm
      have hd : (m : Int) - (np : Int) = (nL : Int) := by omega
      have hd0 : (0 : Int) ≤ (nL : Int) := by omega
      have hd1 : (nL : Int) ≤ (c0 : Int) := by omega
      have hd2 : nL ≤ c0 := by omega
      have hd3 : nL ≤ m := by omega
      have hdm : (nL : Int) ≤ (m : Int) := by omega
      have bwr := b1.trans (hB.mono hz1)
      have hT : P.take nL = L := by rw [← HLP.out, ← HnL.out, List.take_left' rfl]
      have sL : ∀ W, Below wr.heap.size wr W → Sees W W.heap.size A0 (L.map bv) := fun W h => by
        have := ((sP.on bwr).on h).take_ nL
        rw [← List.map_take, hT] at this
        exact this
      have hq0 : Below wr.heap.size wr wr.drew := (Below.refl _ _).drew
      clear hnL hnp hT
      by_cases h1 : (i : Int) < (n1 : Int)
      · have h2 : ¬ (i : Int) < 40 := fun h2 => hend ⟨h1, h2⟩
        clear hend hLP
        go_wp2_with fail
        refine hLe.mono ?_
        rintro e wq ⟨rfl, rfl⟩
        go_wp2_with fail
        go_region_held3 (fun w' => Below wr.heap.size wr w')
          (first | exact hq1 | exact hq0)
          (first
            | (go_at_call 16; have mm := hq1; refine (same_yes A6 A0 nL c6 nL c0 L w6 o6.sees (sL _ hq1) HnL.out HnL.out).mono ?_; rintro e w7 ⟨rfl, rfl⟩)
            | (go_at_call 13; refine (hOut _ hq0).mono ?_; rintro e w6 ⟨A6, c6, rfl, o6, b6⟩; have hq1 : Below wr.heap.size wr w6 := hq0.trans (b6.mono hq0.size)))
        all_goals (
          go_wp2_with fail
          go_ret
          exact ⟨rfl, bwr.trans (hq1.mono bwr.size)⟩)
      · clear hend hLP
        go_wp2_with fail
        refine hLe.mono ?_
        rintro e wq ⟨rfl, rfl⟩
        go_wp2_with fail
        go_region_held3 (fun w' => Below wr.heap.size wr w')
          (first | exact hq1 | exact hq0)
          (first
            | (go_at_call 16; have mm := hq1; refine (same_yes A6 A0 nL c6 nL c0 L w6 o6.sees (sL _ hq1) HnL.out HnL.out).mono ?_; rintro e w7 ⟨rfl, rfl⟩)
            | (go_at_call 13; refine (hOut _ hq0).mono ?_; rintro e w6 ⟨A6, c6, rfl, o6, b6⟩; have hq1 : Below wr.heap.size wr w6 := hq0.trans (b6.mono hq0.size)))
        all_goals (
          go_wp2_with fail
          go_ret
          exact ⟨rfl, bwr.trans (hq1.mono bwr.size)⟩)
end Go.Proofs.Ytfbdfpnmopgkoaa.wireCanonical
