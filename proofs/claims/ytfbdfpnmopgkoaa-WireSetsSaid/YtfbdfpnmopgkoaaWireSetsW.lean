/- The walk of the law WireSets: sets are written by their bytes, and refused if a member is above the limit. -/
import Derived.Test.YtfbdfpnmopgkoaaLawA
import Derived.Test.YtfbdfpnmopgkoaaWireH
import Derived.Test.YtfbdfpnmopgkoaaArgs
import Derived.Deep.CutRange
import Derived.Deep.RegionHeld3
namespace Go.Proofs.Ytfbdfpnmopgkoaa.wireSets
open Go.RowKit
set_option linter.unusedVariables false
set_option linter.unusedSimpArgs false

theorem rdS_over {M : Nat} {most : Int} (h : len2 64 M ≤ 64) (h0 : M ≠ 0) (hm : most < ((M.log2 : Nat) : Int)) : rdS most (srec M) = (0, srec M, 2) := by
  have h1 := sbytes_le h
  have hB : rdB 512 (srec M) = (sbytes M, [], 0) := by
    have hn := num_enc (V := (sbytes M).length) (by omega) (sbytes M)
    unfold rdB srec
    rw [hn, if_neg (by omega), if_neg (by have := enc_pos (sbytes M).length; show ¬ (enc (sbytes M).length).length = 0; omega)]
    rw [if_neg (by show ¬ (512 : Int) < ((sbytes M).length : Nat); omega), if_neg (by simp), List.drop_left' rfl, List.take_of_length_le (Nat.le_refl _), List.drop_of_length_le (Nat.le_refl _)]
  have hc : canon (sbytes M) = true := by
    unfold canon
    rw [decide_eq_true h1]
    have := sbytes_last M
    simpa using this
  unfold rdS
  rw [hB, if_neg (by simp), if_neg (by rw [hc]; simp), bval_sbytes, if_pos ⟨h0, hm⟩]

set_option maxHeartbeats 4000000 in
set_option maxRecDepth 100000 in
theorem walk (A0 : Option Addr) (n0 c0 : Nat) (l0 : List UInt8) (a1 : Int) (w : World) (w0 : ArgB w A0 n0 c0 l0) (w1 : (Lit.int .u16 a1).wf = true) :
    Calls Try.prog 6 #[.slice A0 n0 c0, .int .u16 a1] w fun e w' => e = .returned (.bool true) ∧ Below w.heap.size w w' := by
  obtain ⟨z1, z2⟩ := wf_u16 w1
  obtain ⟨s0, hn0, hcap, hmax⟩ := w0
  unfold maxLen at hmax
  have Hn0 := Lib.hid hn0
  clear hn0 w1
  obtain ⟨l, hl⟩ : ∃ l, Hid (l = mems l0) := ⟨_, Lib.hid rfl⟩
  have hl4 := Lib.hid (show ∀ i ∈ l, i < 4096 by rw [hl.out]; exact mems_lt l0)
  obtain ⟨M, hM⟩ : ∃ M, Hid (M = ofL l) := ⟨_, Lib.hid rfl⟩
  have hM64 : len2 64 M ≤ 64 := by
    have hlt := ofL_lt l (64 * 64) (fun i hi => by have := hl4.out i hi; omega)
    rw [hM.out, len2_le (t := 64) (n := 64) (by omega)]
    exact hlt
  have hsl := srec_len hM64
  obtain ⟨nL, hnL⟩ : ∃ nL, nL = (srec M).length := ⟨_, rfl⟩
  have hOut : ∀ (W : World) (base g : Nat) (v : Value), WrAt W base g v (srec M) → Calls Try.prog 13 #[.pointer (some ⟨g, 0, none⟩)] W fun e w' => ∃ A c, e = .returned (.slice A nL c) ∧ OwnB w' W.heap.size (.slice A nL c) nL (srec M) ∧ Below W.heap.size W w' := fun W base g v h => by
    rw [hnL]; exact out_any base g v (srec M) W h (by omega)
  rw [← hnL] at hsl
  have HnL := Lib.hid hnL.symm
  clear hnL
  go_enter Try.func6, Try.ntmps6
  go_wp2_with fail
  refine (awake_any _).mono ?_
  rintro e u1 ⟨rfl, b1⟩
  go_wp2_with fail
  refine (members_any A0 n0 c0 l0 u1 (s0.on b1) Hn0.out).mono ?_
  rintro e u2 ⟨Am, nm, cm, rfl, hm20, om, b2⟩
  rw [← hl.out] at om
  have Hml := Lib.hid (show l.length = nm by have := om.len; simpa [cst] using this)
  have sm : Sees u2 u2.heap.size Am (niv l) := om.sees
  go_wp2_with fail
  refine (of_any Am nm cm l u2 sm Hml.out hl4.out (by omega)).mono ?_
  rintro e u3 ⟨v3, rfl, hs3, b3⟩
  rw [← hM.out] at hs3
  obtain ⟨A3, n3, c3, rfl, _⟩ := id hs3
  have ba := (Below.refl u3.heap.size u3).alloc (Nat.le_refl _) (.cells #[.slice A3 n3 c3] 54)
  have bS := Blk.new u3 54 #[.slice A3 n3 c3]
  have hz2 := b2.size
  have hz3 := b3.size
  go_wp2_with fail
  refine (newWriter_any _).mono ?_
  rintro e u4 ⟨rfl, h4, b4⟩
  have b34 := ba.trans (b4.mono (by simp))
  have xS := (bS.on b4).cell 0
  have bS4 := bS.on b4
  simp at xS
  have hgl := h4.blk.lt
  generalize hW4 : (u3.alloc (.cells #[.slice A3 n3 c3] 54)).heap.size = g4 at h4 b4 hgl ⊢
  have hg4 : u3.heap.size < g4 := by rw [← hW4]; simp
  go_wp2_with fail
  refine (wSet_any g4 g4 _ _ [] M u4 h4 (hs3.on b34) (by simp)).mono ?_
  rintro e u5 ⟨rfl, v5, h5, m5, r5⟩
  rw [List.nil_append] at h5
  have h5 : WrAt u5 g4 g4 v5 (srec M) := h5
  have b45 : Below g4 u4 u5 := m5.below h4.base (Nat.le_refl _) (fun k hk => by cases hk)
  have b35 : Below u3.heap.size u3 u5 := b34.trans (b45.mono (by omega))
  have xS5 := (bcell b45).1 u3.heap.size 0 (by omega)
  rw [xS] at xS5
  go_wp2_with fail
  refine (hOut u5 g4 g4 v5 h5).mono ?_
  rintro e u6 ⟨A6, c6, rfl, o6, b6⟩
  have b36 := b35.trans (b6.mono b35.size)
  go_wp2_with fail
  refine (newReader_any A6 nL c6 (srec M) u6 o6.sees HnL.out (by omega)).mono ?_
  rintro e u7 ⟨gr, rfl, hgr, hr7, b7⟩
  have b37 := b36.trans (b7.mono b36.size)
  have h7 := (h5.on b6).on b7
  have xS7 := (bcell (b6.trans (b7.mono b6.size))).1 u3.heap.size 0 (by have := h5.base; omega)
  rw [xS5] at xS7
  have hmi : a1 ≤ 9223372036854775807 := by omega
  go_wp2_with fail
  refine (rSet_any gr (srec M) a1 u7 hr7).mono ?_
  rintro e u8 ⟨v8, rfl, hs8, hr8, m8⟩
  obtain ⟨A8, n8, c8, rfl, _⟩ := id hs8
  rcases hR : rdS a1 (srec M) with ⟨R1, R2, R3⟩
  rw [hR] at hs8 hr8
  have HR := Lib.hid hR
  clear hR
  have hgz : gr ≥ u5.heap.size := Nat.le_trans b6.size hgr
  have h8 := h7.only m8 (by have := h5.blk.lt; omega) (fun e => by have := (h5.own.lt gr e).2; omega)
  have b38 : Below u3.heap.size u3 u8 := b37.trans (m8.below b37.size (by have := b35.size; omega) (fun k hk => by cases hk))
  have b78 : Below u5.heap.size u7 u8 := m8.below (Nat.le_trans b6.size b7.size) hgz (fun k hk => by cases hk)
  have xS8 := (bcell b78).1 u3.heap.size 0 (by have := h5.base; omega)
  rw [xS7] at xS8
  have bc := (Below.refl u8.heap.size u8).alloc (Nat.le_refl _) (.cells #[.slice A8 n8 c8] 54)
  have bG := Blk.new u8 54 #[.slice A8 n8 c8]
  have hz38 := b38.size
  have hz4 := b3.size
  have hlt8 : u3.heap.size < u8.heap.size := by
    have h1 := b35.size
    have h2 := h5.base
    have h3 := (b6.trans (b7.mono b6.size)).size
    have h4 := b78.size
    omega
  have xSc := (World.cell?_alloc_lt u8 (.cells #[.slice A8 n8 c8] 54) ⟨u3.heap.size, 0, none⟩ hlt8).trans xS8
  go_wp2_with fail
  have hs8c := (hs3.on b38).on bc
  refine (greatest_any _ M _ hs8c).mono ?_
  rintro e u9 ⟨rfl, b9⟩
  have b89 : Below u8.heap.size u8 u9 := bc.trans (b9.mono (by simp))
  have xS9 := (bcell b89).1 u3.heap.size 0 hlt8
  rw [xS8] at xS9
  have xG9 := (bG.on b9).cell 0
  simp at xG9
  have h9 := h8.on b89
  have hr9 := hr8.on b89
  have hs9 := hs8.on b89
  have hS9 := (hs3.on b38).on b89
  have b29 : Below u2.heap.size u2 u9 := b3.trans ((b38.trans (b89.mono hz38)).mono hz3)
  have sm9 : Sees u9 u9.heap.size Am (niv l) := sm.on b29
  have fW : ∀ W, Below u9.heap.size u9 W → WrAt W g4 g4 v5 (srec M) := fun W h => h9.on h
  have fS : ∀ W, Below u9.heap.size u9 W → SetAt W W.heap.size (.agg #[.slice A3 n3 c3]) M := fun W h => hS9.on h
  have fM : ∀ W, Below u9.heap.size u9 W → Sees W W.heap.size Am (niv l) := fun W h => sm9.on h
  have hlt9 : u3.heap.size < u9.heap.size := by have := b89.size; omega
  have hSa : ∀ W, Below u9.heap.size u9 W → W.cell? ⟨u3.heap.size, 0, none⟩ = some (.slice A3 n3 c3) ∧ Below u9.heap.size u9 W := fun W h => ⟨by rw [(bcell h).1 u3.heap.size 0 hlt9]; exact xS9, h⟩
  have q0 : Below u9.heap.size u9 u9.drew := (Below.refl _ _).drew
  have bw9 : Below w.heap.size w u9 := (b1.trans (b2.mono b1.size)).trans (b29.mono (Nat.le_trans b1.size hz2))
  go_wp2_with fail
  go_cut [48] from 34 to 48 (fun v48 wx => v48 = .bool false ∧ Below u9.heap.size u9 wx)
  case first =>
    go_region_held3 (fun w' => w'.cell? ⟨u3.heap.size, 0, none⟩ = some (.slice A3 n3 c3) ∧ Below u9.heap.size u9 w')
      (first | exact hSa _ qF | exact hSa _ qE | exact hSa _ qC | exact hSa _ qB | exact hSa _ qA | exact hSa _ q0)
      (first
        | (go_at_call 16; have mm := qF; refine (same_yes AE AF nL cE nF cF (srec M) wF (oE.on bF).sees oF.sees HnL.out oF.len).mono ?_; rintro e wG ⟨rfl, rfl⟩)
        | (go_at_call 32; have mm := qE; refine (putSet_any Am nm cm l wE (fM _ qE) Hml.out hl4.out (by omega)).mono ?_; rintro e wF ⟨AF, nF, cF, rfl, oF, bF⟩; rw [← hM.out] at oF; have qF : Below u9.heap.size u9 wF := qE.trans (bF.mono qE.size))
        | (go_at_call 13; have mm := qC; refine (hOut wC g4 g4 v5 (fW _ qC)).mono ?_; rintro e wE ⟨AE, cE, rfl, oE, bE⟩; have qE : Below u9.heap.size u9 wE := qC.trans (bE.mono qC.size))
        | (go_at_call 16; have mm := qC; refine (same_yes AA AC nL cA nC cC (srec M) wC ((oA.on bB).on bC).sees oC.sees HnL.out oC.len).mono ?_; rintro e wD ⟨rfl, rfl⟩)
        | (go_at_call 30; have mm := qB; refine (putBytes_any AB nB cB (sbytes M) wB oB.sees oB.len (by have := oB.len; have := sbytes_le hM64; omega)).mono ?_; rintro e wC ⟨AC, nC, cC, rfl, oC, bC⟩; rw [← oB.len] at oC; have oC : OwnB wC wB.heap.size (.slice AC nC cC) nC (srec M) := oC; have qC : Below u9.heap.size u9 wC := qB.trans (bC.mono qB.size))
        | (go_at_call 31; have mm := qA; refine (setBytes_any _ M wA (fS _ qA)).mono ?_; rintro e wB ⟨AB, nB, cB, rfl, oB, bB⟩; have qB : Below u9.heap.size u9 wB := qA.trans (bB.mono qA.size))
        | (go_at_call 13; refine (hOut _ g4 g4 v5 (fW _ q0)).mono ?_; rintro e wA ⟨AA, cA, rfl, oA, bA⟩; have qA : Below u9.heap.size u9 wA := q0.trans (bA.mono q0.size)))
    all_goals (go_wp2_with fail; go_meet)
    all_goals exact ⟨rfl, qF⟩
  case rest =>
    obtain ⟨rfl, qc⟩ := hcut
    have hrc := hr9.on qc
    have hsc := hs9.on qc
    have hSc := hS9.on qc
    have hwc := fW _ qc
    have xSc := (hSa _ qc).1
    have xGc := (bcell qc).1 u8.heap.size 0 (by have := b9.size; simp at this; omega)
    rw [xG9] at xGc
    have bwc : Below w.heap.size w wc := bw9.trans (qc.mono bw9.size)
    have hzc := bwc.size
    clear fW fS fM hSa hOut
    by_cases hov : M ≠ 0 ∧ a1 < ((M.log2 : Nat) : Int)
    · have E := rdS_over hM64 hov.1 hov.2
      rw [HR.out] at E
      injection E with E1 E
      injection E with E3 E4
      subst E1 E3 E4
      have hM0 := hov.1
      have hlt := hov.2
      have hdt : decide (M = 0) = false := decide_eq_false hM0
      have hle := Lib.hid fun W (h : Below wc.heap.size wc W) => left_any gr _ 2 W (hrc.on h)
      clear HR hov hM0
      go_wp2_with fail
      refine (empty_any _ 0 wc hsc).mono ?_
      rintro e x1 ⟨rfl, y1⟩
      rw [decide_eq_true rfl]
      go_wp2_with fail
      refine (err_any gr _ 2 x1 (hrc.on y1)).mono ?_
      rintro e x2 ⟨rfl, rfl⟩
      go_wp2_with fail
      refine (hle.out x1 y1).mono ?_
      rintro e x2 ⟨rfl, rfl⟩
      rw [HnL.out]
      go_wp2_with fail
      refine (out_any g4 g4 v5 (srec M) x1 (hwc.on y1) (by rw [HnL.out]; omega)).mono ?_
      rintro e x3 ⟨A9, c9, rfl, o9, y3⟩
      rw [HnL.out]
      go_wp2_with fail
      go_ret
      exact ⟨rfl, (bwc.trans (y1.mono hzc)).trans (y3.mono (Nat.le_trans hzc y1.size))⟩
    · have hmo : M ≠ 0 → ((M.log2 : Nat) : Int) ≤ a1 := fun h0 => by
        have : ¬ a1 < ((M.log2 : Nat) : Int) := fun h => hov ⟨h0, h⟩
        omega
      have E := rdS_rec hM64 hmo []
      rw [List.append_nil, HR.out] at E
      injection E with E1 E
      injection E with E3 E4
      subst E3 E4
      rw [E1] at hsc
      have Hmo := Lib.hid hmo
      clear HR hov hmo E1
      have fin : ∀ (W : World), Below wc.heap.size wc W → SetAt W W.heap.size (.agg #[.slice A8 n8 c8]) M ∧ SetAt W W.heap.size (.agg #[.slice A3 n3 c3]) M := fun W h => ⟨hsc.on h, hSc.on h⟩
      have heq : Calls Try.prog 34 #[.agg #[.slice A8 n8 c8], .agg #[.slice A3 n3 c3]] wc fun e w' => e = .returned (.bool true) ∧ Below wc.heap.size wc w' := by
        refine (setEqual_any _ _ M M wc hsc hSc).mono ?_
        rintro e w' ⟨rfl, hb⟩
        rw [decide_eq_true rfl]
        exact ⟨rfl, hb⟩
      by_cases hM0 : M = 0
      · have hdt : decide (M = 0) = true := decide_eq_true hM0
        clear hM0
        go_wp2_with fail
        refine heq.mono ?_
        rintro e x1 ⟨rfl, y1⟩
        go_wp2_with fail
        refine (end_ok gr x1 (hrc.on y1)).mono ?_
        rintro e x2 ⟨rfl, rfl⟩
        go_wp2_with fail
        go_ret
        exact ⟨rfl, bwc.trans (y1.mono hzc)⟩
      · have hdt : decide (M = 0) = false := decide_eq_false hM0
        have hlt : ¬ a1 < ((M.log2 : Nat) : Int) := by have := Hmo.out hM0; omega
        clear hM0
        go_wp2_with fail
        refine heq.mono ?_
        rintro e x1 ⟨rfl, y1⟩
        go_wp2_with fail
        refine (end_ok gr x1 (hrc.on y1)).mono ?_
        rintro e x2 ⟨rfl, rfl⟩
        go_wp2_with fail
        go_ret
        exact ⟨rfl, bwc.trans (y1.mono hzc)⟩
end Go.Proofs.Ytfbdfpnmopgkoaa.wireSets
