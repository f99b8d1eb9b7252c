/- The reference's claim. -/
import Derived.Test.YtcdgmdhfaniciaaDoorPn
import Derived.Test.YtcdgmdhfaniciaaDoorPm
import Derived.Deep.RegionWith
import Derived.Deep.RegionHeld3
import Derived.Deep.QuietTactic
import Derived.BigQuiet
namespace Go.Proofs.YtcdgmdhfaniciaaDoor
open Go.RowKit
set_option linter.unusedVariables false
set_option linter.unusedSimpArgs false

theorem eligA_nat (P : Pr) (m : Nat) : eligA P (m : Int) = (P.elig[m]?).getD 0 := rfl
set_option maxHeartbeats 16000000 in
set_option maxRecDepth 100000 in
/-- claim. -/
theorem rclaim_any (p : PrV) (P : Pr) (x : Nd) (C S : Sl) (A : Option Addr) (n c : Nat) (st : List Int) (w : World) (h : RPrAt w w.heap.size p P) (hx : NdL w w.heap.size C S x) (hl : Sees w w.heap.size A (st.map iv)) (hn : st.length = n) (hb : n ≤ 1000000) (hlS : st.length = P.elig.length) :
    Calls Tryd.prog 58 #[p.v, .agg #[.int .i64 (x.kind : Int), .int .i64 x.step, C.v, S.v], .slice A n c] w fun e w' => e = .returned (.int .i64 (claimR P x st)) ∧ Below w.heap.size w w' := by
  have hbr := fun W (hW : Below w.heap.size w W) => rbroken_any p P A n c st W (h.on hW) (hl.on hW) hn hb
  have hha := fun W (hW : Below w.heap.size w W) => rhall_any p P S.a A S.n S.c n c x.st st W (h.on hW) (hx.st.on hW) hx.ls hx.bs hx.cs (hl.on hW) hn hlS
  obtain ⟨r, hr⟩ : ∃ r, Hid (r = claimR P x st) := ⟨_, Lib.hid rfl⟩
  rw [← hr.out]
  obtain ⟨⟨A1, n1, c1⟩, ⟨A2, n2, c2⟩, ⟨A3, n3, c3⟩, ⟨A4, n4, c4⟩, ⟨A5, n5, c5⟩⟩ := p
  obtain ⟨l1, l2, l3, l4, l5, e1, e2, e3, e4, e5, s1, s2, s3, s4, s5, _, w1, w4⟩ := h
  simp only at l1 l2 l3 l4 l5 e1 e2 e3 e4 e5 s1 s2 s3 s4 s5
  obtain ⟨Ac, nc, cc⟩ := C
  obtain ⟨As, ns, cs⟩ := S
  obtain ⟨kd, stp, ch, sp⟩ := x
  obtain ⟨hk8, hch, hst, hlc, hls, hcc, hcs, hbc, hbs⟩ := hx
  simp only [] at hk8 hch hst hlc hls hcc hcs hbc hbs hha
  have hbc' : (nc : Int) ≤ 1000000 := by omega
  have hb' : (n : Int) ≤ 1000000 := by omega
  obtain rfl : n = n1 := by omega
  have Hn := Lib.hid hn
  have L1 := Lib.hid l1
  have Hlc := Lib.hid hlc
  have W1' := Lib.hid w1
  unfold PrV.v Sl.v at hbr hha ⊢
  simp only [] at hbr hha ⊢
  obtain ⟨ki, hki⟩ : ∃ ki : Int, ki = (kd : Int) := ⟨_, rfl⟩
  rw [← hki]
  have b1 : Below w.heap.size w (w.alloc (.cells #[.slice A1 n c1, .slice A2 n2 c2, .slice A3 n3 c3, .slice A4 n4 c4, .slice A5 n5 c5] 39)) := (Below.refl _ _).alloc (Nat.le_refl _) _
  have b2 := bAl b1 (.cells #[.int .i64 ki, .int .i64 stp, .slice Ac nc cc, .slice As ns cs] 72)
  have bP := (Blk.new w 39 #[.slice A1 n c1, .slice A2 n2 c2, .slice A3 n3 c3, .slice A4 n4 c4, .slice A5 n5 c5]).alloc (.cells #[.int .i64 ki, .int .i64 stp, .slice Ac nc cc, .slice As ns cs] 72)
  have bN := Blk.new (w.alloc (.cells #[.slice A1 n c1, .slice A2 n2 c2, .slice A3 n3 c3, .slice A4 n4 c4, .slice A5 n5 c5] 39)) 72 #[.int .i64 ki, .int .i64 stp, .slice Ac nc cc, .slice As ns cs]
  rw [World.size_alloc] at bN
  clear hn l1 hlc w1 hlS
  by_cases q1 : ki = 1
  · subst q1
    obtain rfl : kd = 1 := by omega
    have Hr : Hid (r = if branchB P ⟨1, stp, ch, sp⟩ st then 1 else 3) := Lib.hid (by rw [hr.out]; rfl)
    have Hb : Hid (branchB P ⟨1, stp, ch, sp⟩ st = (decide (0 ≤ stp) && decide (stp < n) && decide (atZ st stp = 0) && decide ((memZ (eligA P stp)).length = nc))) := Lib.hid (by unfold branchB; simp only []; rw [Hn.out, Hlc.out])
    clear hr hki hbr hha
    by_cases z0 : stp < 0
    · have H0 : Hid (r = 3) := Lib.hid (by rw [Hr.out, Hb.out, decide_eq_false (by omega)]; rfl)
      go_enter Tryd.func58, Tryd.ntmps58
      go_wp2_with fail
      generalize hv0 : ((w.alloc (.cells #[.slice A1 n c1, .slice A2 n2 c2, .slice A3 n3 c3, .slice A4 n4 c4, .slice A5 n5 c5] 39)).alloc (.cells #[.int .i64 1, .int .i64 stp, .slice Ac nc cc, .slice As ns cs] 72)) = v0 at b2 bP bN ⊢
      clear hv0
      have t0 := (bP.cell 0).trans rfl
      have u0 := (bN.cell 0).trans rfl
      have u1 := (bN.cell 1).trans rfl
      have u2 := (bN.cell 2).trans rfl
      go_quiet (fail)
      go_wp2_with fail
      go_ret
      exact ⟨ret_int H0.out.symm, below_drewN b2 nq⟩
    · by_cases z1 : (n : Int) ≤ stp
      · have H0 : Hid (r = 3) := Lib.hid (by rw [Hr.out, Hb.out, decide_eq_false (p := stp < _) (by omega), Bool.and_false]; rfl)
        have d0 : decide (stp < 0) = false := decide_eq_false z0
        have d1 : decide ((n : Int) ≤ stp) = true := decide_eq_true z1
        clear z0 z1
        go_enter Tryd.func58, Tryd.ntmps58
        go_wp2_with fail
        generalize hv0 : ((w.alloc (.cells #[.slice A1 n c1, .slice A2 n2 c2, .slice A3 n3 c3, .slice A4 n4 c4, .slice A5 n5 c5] 39)).alloc (.cells #[.int .i64 1, .int .i64 stp, .slice Ac nc cc, .slice As ns cs] 72)) = v0 at b2 bP bN ⊢
        clear hv0
        have t0 := (bP.cell 0).trans rfl
        have u0 := (bN.cell 0).trans rfl
        have u1 := (bN.cell 1).trans rfl
        have u2 := (bN.cell 2).trans rfl
        go_quiet (fail)
        go_wp2_with fail
        go_ret
        exact ⟨ret_int H0.out.symm, below_drewN b2 nq⟩
      · obtain ⟨m, rfl⟩ : ∃ m : Nat, stp = (m : Int) := ⟨stp.toNat, by omega⟩
        have hm : m < n := by omega
        have hm' : (m : Int) < (n : Int) := by omega
        obtain ⟨b, o, v, rfl, hbs1, Hv, hcv⟩ := Sees.int (k := m) hl (by rw [Hn.out]; exact hm)
        have Hv2 : Hid (atZ st (m : Int) = v) := Lib.hid (by unfold atZ atI; rw [Int.toNat_natCast, Hv.out]; rfl)
        by_cases v0 : v = 0
        · subst v0
          obtain ⟨M, hM⟩ : ∃ M, P.elig[m]? = some M := ⟨_, List.getElem?_eq_getElem (by rw [L1.out]; exact hm)⟩
          have hMb := W1'.out M (List.mem_of_getElem? hM)
          have hM1 : (P.elig.map wv)[m]? = some (.int .u64 (M : Int)) := by rw [List.getElem?_map, hM]; rfl
          obtain ⟨be, oe, rfl, hbe, hce⟩ := e1 (by intro e; rw [e] at hM1; simp at hM1)
          have hcM := hce m _ hM1
          have Hlen : Hid ((memZ (eligA P (m : Int))).length = (memT 64 M).length) := Lib.hid (by
            rw [eligA_nat, hM, Option.getD_some]
            unfold memZ
            rw [List.length_map, memM_memT hMb])
          have Hr2 : Hid (r = if (memT 64 M).length = nc then 1 else 3) := Lib.hid (by
            rw [Hr.out, Hb.out, decide_eq_true (by omega), decide_eq_true hm', decide_eq_true Hv2.out, Hlen.out]
            simp)
          clear hce hM1 hM
          have hmem := fun W => mem41_any M W hMb
          have hml := Lib.hid (memT_len 64 M)
          obtain ⟨bq, hbq⟩ : ∃ bq, Hid (bq = ((nc : Int) != ((memT 64 M).length : Int))) := ⟨_, Lib.hid rfl⟩
          cases bq
          · have H3 : Hid (r = 1) := Lib.hid (by
              have h9 := hbq.out
              rw [Hr2.out, if_pos (by simp at h9; omega)])
            have d0 : decide ((m : Int) < 0) = false := decide_eq_false (by omega)
            have d1 : decide ((n : Int) ≤ (m : Int)) = false := decide_eq_false (by omega)
            have d2 : decide (n ≤ m) = false := decide_eq_false (by omega)
            clear z0 z1
            go_enter Tryd.func58, Tryd.ntmps58
            go_wp2_with fail
            have wb2 := b2
            generalize ((w.alloc (.cells #[.slice (some ⟨be, oe, none⟩) n c1, .slice A2 n2 c2, .slice A3 n3 c3, .slice A4 n4 c4, .slice A5 n5 c5] 39)).alloc (.cells #[.int .i64 1, .int .i64 (m : Int), .slice Ac nc cc, .slice As ns cs] 72)) = v0 at b2 bP bN wb2 ⊢
            have sB : ∀ W, Below v0.heap.size v0 W → W.cell? ⟨w.heap.size, 0, none⟩ = some (.slice (some ⟨be, oe, none⟩) n c1) ∧ W.cell? ⟨w.heap.size + 1, 1, none⟩ = some (.int .i64 (m : Int)) ∧ W.cell? ⟨w.heap.size + 1, 2, none⟩ = some (.slice Ac nc cc) ∧ W.cell? ⟨b, o + m, none⟩ = some (.int .i64 0) ∧ W.cell? ⟨be, oe + m, none⟩ = some (.int .u64 (M : Int)) := fun W hW => ⟨((bP.on hW).cell 0).trans rfl, ((bN.on hW).cell 1).trans rfl, ((bN.on hW).cell 2).trans rfl, ((b2.trans (hW.mono b2.size)).cell (p := ⟨b, o + m, none⟩) hbs1).trans hcv, ((b2.trans (hW.mono b2.size)).cell (p := ⟨be, oe + m, none⟩) hbe).trans hcM⟩
            have qq : Below v0.heap.size v0 v0 := Below.refl _ _
            clear hcv hcM
            go_region_held3 (fun W => W.cell? ⟨w.heap.size, 0, none⟩ = some (.slice (some ⟨be, oe, none⟩) n c1) ∧ W.cell? ⟨w.heap.size + 1, 1, none⟩ = some (.int .i64 (m : Int)) ∧ W.cell? ⟨w.heap.size + 1, 2, none⟩ = some (.slice Ac nc cc) ∧ W.cell? ⟨b, o + m, none⟩ = some (.int .i64 0) ∧ W.cell? ⟨be, oe + m, none⟩ = some (.int .u64 (M : Int)))
              ((refine sB _ ?_; first | with_reducible exact qq | with_reducible exact qq.drew | with_reducible exact q9))
              (first | (go_at_call 55; refine (hmem _).mono ?_; rintro e w9 ⟨A', n', c', rfl, ho, hn', bw9⟩; have q9 : Below v0.heap.size v0 w9 := (qq.drew.trans bw9); obtain ⟨x1, x2, x3, x4, x5⟩ := sB _ q9; have hl9 := ho.len; rw [List.length_map] at hl9; have hn9 : (n' : Int) ≤ 64 := (by omega); have e9 : ((nc : Int) != (n' : Int)) = false := (by have h9 := hbq.out; rw [hl9] at h9; exact h9.symm)))
            all_goals (
              go_wp2_with fail
              go_ret
              exact ⟨ret_int H3.out.symm, b2.trans (q9.mono b2.size)⟩)
          · have H3 : Hid (r = 3) := Lib.hid (by
              have h9 := hbq.out
              rw [Hr2.out, if_neg (by simp at h9; omega)])
            have d0 : decide ((m : Int) < 0) = false := decide_eq_false (by omega)
            have d1 : decide ((n : Int) ≤ (m : Int)) = false := decide_eq_false (by omega)
            have d2 : decide (n ≤ m) = false := decide_eq_false (by omega)
            clear z0 z1
            go_enter Tryd.func58, Tryd.ntmps58
            go_wp2_with fail
            have wb2 := b2
            generalize ((w.alloc (.cells #[.slice (some ⟨be, oe, none⟩) n c1, .slice A2 n2 c2, .slice A3 n3 c3, .slice A4 n4 c4, .slice A5 n5 c5] 39)).alloc (.cells #[.int .i64 1, .int .i64 (m : Int), .slice Ac nc cc, .slice As ns cs] 72)) = v0 at b2 bP bN wb2 ⊢
            have sB : ∀ W, Below v0.heap.size v0 W → W.cell? ⟨w.heap.size, 0, none⟩ = some (.slice (some ⟨be, oe, none⟩) n c1) ∧ W.cell? ⟨w.heap.size + 1, 1, none⟩ = some (.int .i64 (m : Int)) ∧ W.cell? ⟨w.heap.size + 1, 2, none⟩ = some (.slice Ac nc cc) ∧ W.cell? ⟨b, o + m, none⟩ = some (.int .i64 0) ∧ W.cell? ⟨be, oe + m, none⟩ = some (.int .u64 (M : Int)) := fun W hW => ⟨((bP.on hW).cell 0).trans rfl, ((bN.on hW).cell 1).trans rfl, ((bN.on hW).cell 2).trans rfl, ((b2.trans (hW.mono b2.size)).cell (p := ⟨b, o + m, none⟩) hbs1).trans hcv, ((b2.trans (hW.mono b2.size)).cell (p := ⟨be, oe + m, none⟩) hbe).trans hcM⟩
            have qq : Below v0.heap.size v0 v0 := Below.refl _ _
            clear hcv hcM
            go_region_held3 (fun W => W.cell? ⟨w.heap.size, 0, none⟩ = some (.slice (some ⟨be, oe, none⟩) n c1) ∧ W.cell? ⟨w.heap.size + 1, 1, none⟩ = some (.int .i64 (m : Int)) ∧ W.cell? ⟨w.heap.size + 1, 2, none⟩ = some (.slice Ac nc cc) ∧ W.cell? ⟨b, o + m, none⟩ = some (.int .i64 0) ∧ W.cell? ⟨be, oe + m, none⟩ = some (.int .u64 (M : Int)))
              ((refine sB _ ?_; first | with_reducible exact qq | with_reducible exact qq.drew | with_reducible exact q9))
              (first | (go_at_call 55; refine (hmem _).mono ?_; rintro e w9 ⟨A', n', c', rfl, ho, hn', bw9⟩; have q9 : Below v0.heap.size v0 w9 := (qq.drew.trans bw9); obtain ⟨x1, x2, x3, x4, x5⟩ := sB _ q9; have hl9 := ho.len; rw [List.length_map] at hl9; have hn9 : (n' : Int) ≤ 64 := (by omega); have e9 : ((nc : Int) != (n' : Int)) = true := (by have h9 := hbq.out; rw [hl9] at h9; exact h9.symm)))
            all_goals (
              go_wp2_with fail
              go_ret
              exact ⟨ret_int H3.out.symm, b2.trans (q9.mono b2.size)⟩)
        · have v0b : (v != 0) = true := by simpa using v0
          have H0 : Hid (r = 3) := Lib.hid (by rw [Hr.out, Hb.out, decide_eq_false (p := atZ st _ = 0) (by rw [Hv2.out]; exact v0), Bool.and_false]; rfl)
          have d0 : decide ((m : Int) < 0) = false := decide_eq_false (by omega)
          have d1 : decide ((n : Int) ≤ (m : Int)) = false := decide_eq_false (by omega)
          have d2 : decide (n ≤ m) = false := decide_eq_false (by omega)
          clear v0 z0 z1
          go_enter Tryd.func58, Tryd.ntmps58
          go_wp2_with fail
          generalize ((w.alloc (.cells #[.slice A1 n c1, .slice A2 n2 c2, .slice A3 n3 c3, .slice A4 n4 c4, .slice A5 n5 c5] 39)).alloc (.cells #[.int .i64 1, .int .i64 (m : Int), .slice Ac nc cc, .slice As ns cs] 72)) = v0 at b2 bP bN ⊢
          have u1 : v0.cell? ⟨w.heap.size + 1, 1, none⟩ = some (.int .i64 (m : Int)) := (bN.cell 1).trans rfl
          have cv : v0.cell? ⟨b, o + m, none⟩ = some (.int .i64 v) := (b2.cell (p := ⟨b, o + m, none⟩) hbs1).trans hcv
          clear hcv
          go_quiet (fail)
          go_wp2_with fail
          go_ret
          exact ⟨ret_int H0.out.symm, below_drewN b2 nq⟩
  · have k1 : (ki == 1) = false := by simpa using q1
    have bP := (Blk.new w 39 #[.slice A1 n c1, .slice A2 n2 c2, .slice A3 n3 c3, .slice A4 n4 c4, .slice A5 n5 c5]).alloc (.cells #[.int .i64 ki, .int .i64 stp, .slice Ac nc cc, .slice As ns cs] 72)
    by_cases q2 : ki = 2
    · subst q2
      obtain rfl : kd = 2 := by omega
      have Hr : Hid (r = if BrokenB P st then 1 else 4) := Lib.hid (by rw [hr.out]; rfl)
      clear hr hki hha
      have hq := hbr _ b2
      cases hB : BrokenB P st
      · rw [hB] at hq Hr
        go_enter Tryd.func58, Tryd.ntmps58
        go_wp2_with fail
        refine hq.mono ?_
        rintro e w9 ⟨rfl, bw9⟩
        go_wp2_with fail
        go_ret
        exact ⟨ret_int (by rw [Hr.out]; rfl), b2.trans (bw9.mono b2.size)⟩
      · rw [hB] at hq Hr
        go_enter Tryd.func58, Tryd.ntmps58
        go_wp2_with fail
        refine hq.mono ?_
        rintro e w9 ⟨rfl, bw9⟩
        go_wp2_with fail
        go_ret
        exact ⟨ret_int (by rw [Hr.out]; rfl), b2.trans (bw9.mono b2.size)⟩
    · have k2 : (ki == 2) = false := by simpa using q2
      by_cases q3 : ki = 3
      · subst q3
        obtain rfl : kd = 3 := by omega
        have Hr : Hid (r = if hallB P sp st then 1 else 5) := Lib.hid (by rw [hr.out]; rfl)
        clear hr hki hbr
        have hq := hha _ b2
        cases hB : hallB P sp st
        · rw [hB] at hq Hr
          go_enter Tryd.func58, Tryd.ntmps58
          go_wp2_with fail
          refine hq.mono ?_
          rintro e w9 ⟨rfl, bw9⟩
          go_wp2_with fail
          go_ret
          exact ⟨ret_int (by rw [Hr.out]; rfl), b2.trans (bw9.mono b2.size)⟩
        · rw [hB] at hq Hr
          go_enter Tryd.func58, Tryd.ntmps58
          go_wp2_with fail
          refine hq.mono ?_
          rintro e w9 ⟨rfl, bw9⟩
          go_wp2_with fail
          go_ret
          exact ⟨ret_int (by rw [Hr.out]; rfl), b2.trans (bw9.mono b2.size)⟩
      · have k3 : (ki == 3) = false := by simpa using q3
        have Hr : Hid (r = 1) := Lib.hid (by
          rw [hr.out]; unfold claimR
          rw [if_neg (show ¬ kd = 1 by omega), if_neg (show ¬ kd = 2 by omega), if_neg (show ¬ kd = 3 by omega)])
        clear hr hki q1 q2 q3 hbr hha
        go_enter Tryd.func58, Tryd.ntmps58
        go_wp2_with fail
        go_ret
        exact ⟨ret_int Hr.out.symm, b2⟩
end Go.Proofs.YtcdgmdhfaniciaaDoor
