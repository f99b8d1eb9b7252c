/- The reference's Check. -/
import Derived.Test.YtcdgmdhfaniciaaDoorRClaim
import Derived.Test.YtcdgmdhfaniciaaDoorPm
import Derived.Test.YtcdgmdhfaniciaaDoorCheck
import Derived.Deep.CutRange
import Derived.Deep.CutBlock
namespace Go.Proofs.YtcdgmdhfaniciaaDoor
open Go.RowKit
set_option linter.unusedVariables false
set_option linter.unusedSimpArgs false

set_option maxHeartbeats 64000000 in
set_option maxRecDepth 100000 in
/-- Check, the reference's. -/
theorem rcheck_any (p : PrV) (P : Pr) (An : Option Addr) (n cn : Nat) (l : List Nd) (w : World) (h : RPrAt w w.heap.size p P) (hN : RNodesAt w w.heap.size An l) (hn : l.length = n) (hb : n ≤ 1000000) :
    Calls Tryd.prog 24 #[p.v, .slice An n cn] w fun e w' => e = .returned (.tuple #[.int .i64 ((chkR P l).1 : Int), .int .i64 (chkR P l).2]) ∧ Below w.heap.size w w' := by
  obtain ⟨z, hz⟩ : ∃ z, Hid (z = chkP P) := ⟨_, Lib.hid rfl⟩
  have hchk := fun W (hW : Below w.heap.size w W) => rchk_any p P W (h.on hW)
  have hform := fun W (hW : Below w.heap.size w W) k x (hx : l[k]? = some x) => rform_any An n cn k l x W (hN.on hW) hn hb hx
  have hpar := fun W (hW : Below w.heap.size w W) hk => rparents_any An n cn l W (hN.on hW) hn hb hk
  rw [← hz.out] at hchk
  obtain ⟨r1, hr1⟩ : ∃ r, Hid (r = (chkR P l).1) := ⟨_, Lib.hid rfl⟩
  obtain ⟨r2, hr2⟩ : ∃ r, Hid (r = (chkR P l).2) := ⟨_, Lib.hid rfl⟩
  rw [← hr1.out, ← hr2.out]
  have Hn := Lib.hid hn
  have hh := Lib.hid h
  obtain ⟨⟨A1, n1, c1⟩, ⟨A2, n2, c2⟩, ⟨A3, n3, c3⟩, ⟨A4, n4, c4⟩, ⟨A5, n5, c5⟩⟩ := p
  have b1 : Below w.heap.size w (w.alloc (.cells #[.slice A1 n1 c1, .slice A2 n2 c2, .slice A3 n3 c3, .slice A4 n4 c4, .slice A5 n5 c5] 39)) := (Below.refl _ _).alloc (Nat.le_refl _) _
  have bP := Blk.new w 39 #[.slice A1 n1 c1, .slice A2 n2 c2, .slice A3 n3 c3, .slice A4 n4 c4, .slice A5 n5 c5]
  have box : ∀ W, Blk W w.heap.size 39 #[.slice A1 n1 c1, .slice A2 n2 c2, .slice A3 n3 c3, .slice A4 n4 c4, .slice A5 n5 c5] → W.cell? ⟨w.heap.size, 0, none⟩ = some (.slice A1 n1 c1) ∧ W.cell? ⟨w.heap.size, 1, none⟩ = some (.slice A2 n2 c2) ∧ W.cell? ⟨w.heap.size, 2, none⟩ = some (.slice A3 n3 c3) ∧ W.cell? ⟨w.heap.size, 3, none⟩ = some (.slice A4 n4 c4) ∧ W.cell? ⟨w.heap.size, 4, none⟩ = some (.slice A5 n5 c5) := fun W hb => ⟨(hb.cell 0).trans rfl, (hb.cell 1).trans rfl, (hb.cell 2).trans rfl, (hb.cell 3).trans rfl, (hb.cell 4).trans rfl⟩
  unfold PrV.v Sl.v at hchk ⊢
  simp only [] at hchk ⊢
  have hnb : (n : Int) ≤ 1000000 := by omega
  clear h hn
  by_cases z0 : z = 0
  · subst z0
    by_cases n0 : n = 0
    · subst n0
      have hl0 : l = [] := List.eq_nil_of_length_eq_zero Hn.out
      have e0 : chkR P l = (2, 0) := by
        subst hl0
        unfold chkR
        rw [← hz.out]; rfl
      have e1 : Hid (r1 = 2) := Lib.hid (by rw [hr1.out, e0])
      have e2 : Hid (r2 = 0) := Lib.hid (by rw [hr2.out, e0])
      clear e0 hl0
      go_enter Tryd.func24, Tryd.ntmps24
      go_wp2_with fail
      refine (hchk _ b1).mono ?_
      rintro e w2 ⟨rfl, bw2⟩
      go_wp2_with fail
      go_ret2
      exact ⟨by rw [e1.out, e2.out]; rfl, b1.trans (bw2.mono b1.size)⟩
    · have n0b : ((n : Int) == 0) = false := by simpa using n0
      have hn0 : 0 < n := by omega
      have hn0' : (0 : Int) < (n : Int) := by omega
      have ok := chkP_ok hz.out.symm
      have Hok := Lib.hid ok
      clear ok n0
      go_enter Tryd.func24, Tryd.ntmps24
      go_wp2_with fail
      generalize (w.alloc (.cells #[.slice A1 n1 c1, .slice A2 n2 c2, .slice A3 n3 c3, .slice A4 n4 c4, .slice A5 n5 c5] 39)) = W1 at b1 bP ⊢
      refine (hchk W1 b1).mono ?_
      rintro e w2 ⟨rfl, bw2⟩
      have b2 := b1.trans (bw2.mono b1.size)
      have bP2 := bP.on bw2
      clear hchk b1 bP bw2
      go_wp2_with fail
      go_loopw [26] (fun v26 wr => ∃ k : Nat, k ≤ n ∧ v26 = .int .i64 k ∧ Hid (∀ j, j < k → formAt l j = false) ∧ Below w.heap.size w wr ∧ Blk wr w.heap.size 39 #[.slice A1 n1 c1, .slice A2 n2 c2, .slice A3 n3 c3, .slice A4 n4 c4, .slice A5 n5 c5]) (fun v26 _ => n - (intOf v26).toNat)
      case atStart => exact ⟨0, Nat.zero_le _, rfl, Lib.hid (fun j hj => absurd hj (Nat.not_lt_zero _)), b2, bP2⟩
      case round =>
        clear b2 bP2
        obtain ⟨k, hk, rfl, HF, hB, hP⟩ := hrel
        by_cases hlt : k < n
        · have hlt' : (k : Int) < (n : Int) := by omega
          obtain ⟨x, hx⟩ : ∃ x, l[k]? = some x := ⟨_, List.getElem?_eq_getElem (by rw [Hn.out]; exact hlt)⟩
          have hf := hform wr hB k x hx
          cases hfb : formB k n x
          · rw [hfb] at hf
            have ht := tree_form hx HF.out (by rw [Hn.out]; exact hfb)
            have e0 : chkR P l = (2, (k : Int)) := by
              unfold chkR
              rw [← hz.out, ht]; rfl
            have e1 : Hid (r1 = 2) := Lib.hid (by rw [hr1.out, e0])
            have e2 : Hid (r2 = (k : Int)) := Lib.hid (by rw [hr2.out, e0])
            clear e0 ht hx hfb
            go_wp2_with fail
            refine hf.mono ?_
            rintro e w3 ⟨rfl, bw3⟩
            go_wp2_with fail
            go_ret2
            exact ⟨by rw [e1.out, e2.out]; rfl, hB.trans (bw3.mono hB.size)⟩
          · rw [hfb] at hf
            have HF2 : Hid (∀ j, j < k + 1 → formAt l j = false) := Lib.hid fun j hj => by
              rcases Nat.lt_succ_iff_lt_or_eq.1 hj with h1 | rfl
              · exact HF.out j h1
              · rw [formAt_get hx, Hn.out, hfb]; rfl
            clear hx hfb HF
            go_wp2_with fail
            refine hf.mono ?_
            rintro e w3 ⟨rfl, bw3⟩
            go_wp2_with fail
            go_roundw
            case rel => exact ⟨k + 1, by omega, by go_num, HF2, hB.trans (bw3.mono hB.size), hP.on bw3⟩
            case measure => simp [intOf]; omega
        · have hlt' : ¬ (k : Int) < (n : Int) := by omega
          obtain rfl : k = n := by omega
          have hkid := hpar wr hB fun i x hx c hc => by
            have h1 := form_kids (kid_of_form (fun j hj => HF.out j (by rw [← Hn.out]; exact hj)) hx) c hc
            rw [Hn.out] at h1
            omega
          clear hform hpar hlt hk
          go_wp2_with fail
          refine hkid.mono ?_
          rintro e w3 ⟨gp, rfl, hgp, hpb, bw3⟩
          have hB3 := hB.trans (bw3.mono hB.size)
          have hP3 := hP.on bw3
          have hpb0 := Lib.hid hpb
          have hgl := hpb.lt
          clear hkid hpb
          go_wp2_with fail
          go_loopw [38] (fun v38 wr => ∃ j : Nat, j ≤ k ∧ v38 = .int .i64 j ∧ Hid (∀ i, i < j → parAt l i = false) ∧ w3 = wr) (fun v38 _ => k - (intOf v38).toNat)
          case atStart => exact ⟨0, Nat.zero_le _, rfl, Lib.hid (fun j hj => absurd hj (Nat.not_lt_zero _)), rfl⟩
          case round =>
            obtain ⟨j, hj, rfl, HQ, rfl⟩ := hrel
            by_cases hltj : j < k
            · have hltj' : (j : Int) < (k : Int) := by omega
              have hcell := hpb0.out.icell (parL_get (kids l) hltj)
              obtain ⟨ct, hct⟩ : ∃ ct, Hid (ct = cntC (kids l) j) := ⟨_, Lib.hid rfl⟩
              rw [← hct.out] at hcell
              have Bad : Hid (parAt l j = true → r1 = 2 ∧ r2 = (j : Int)) := Lib.hid fun hp => by
                have ht := tree_par (by rw [Hn.out]; exact hltj) (fun i hi => HF.out i (by rw [← Hn.out]; exact hi)) HQ.out hp
                have e0 : chkR P l = (2, (j : Int)) := by
                  unfold chkR
                  rw [← hz.out, ht]; rfl
                rw [hr1.out, hr2.out, e0]; exact ⟨rfl, rfl⟩
              have Good : Hid (parAt l j = false → ∀ i, i < j + 1 → parAt l i = false) := Lib.hid fun hp i hi => by
                rcases Nat.lt_succ_iff_lt_or_eq.1 hi with h1 | rfl
                · exact HQ.out i h1
                · exact hp
              by_cases j0 : j = 0
              · subst j0
                by_cases v0 : ct = 0
                · subst v0
                  have HQ2 := Lib.hid (Good.out (by unfold parAt; rw [← hct.out]; simp))
                  clear hct Bad Good
                  go_wp2_with fail
                  go_roundw
                  case rel => exact ⟨1, by omega, by go_num, HQ2, trivial⟩
                  case measure => simp [intOf]; omega
                · have v0' : (0 : Int) < (ct : Int) := by omega
                  have e9 := Bad.out (by unfold parAt; rw [← hct.out]; simpa using v0)
                  have e1 := Lib.hid e9.1
                  have e2 := Lib.hid e9.2
                  clear hct Bad Good v0 e9
                  go_wp2_with fail
                  go_ret2
                  exact ⟨by rw [e1.out, e2.out]; rfl, hB3⟩
              · have j0b : ((j : Int) == 0) = false := by simpa using j0
                have j0p : (0 : Int) < (j : Int) := by omega
                by_cases v1 : ct = 1
                · subst v1
                  have HQ2 := Lib.hid (Good.out (by unfold parAt; rw [← hct.out, if_neg j0]; simp))
                  clear hct Bad Good j0
                  go_wp2_with fail
                  go_roundw
                  case rel => exact ⟨j + 1, by omega, by go_num, HQ2, trivial⟩
                  case measure => simp [intOf]; omega
                · have v1b : ((ct : Int) != 1) = true := by simp; omega
                  have e9 := Bad.out (by unfold parAt; rw [← hct.out, if_neg j0]; simpa using v1)
                  have e1 := Lib.hid e9.1
                  have e2 := Lib.hid e9.2
                  clear hct Bad Good v1 e9 j0
                  go_wp2_with fail
                  go_ret2
                  exact ⟨by rw [e1.out, e2.out]; rfl, hB3⟩
            · have hltj' : ¬ (j : Int) < (k : Int) := by omega
              obtain rfl : j = k := by omega
              have ht : treeR l = (0, true) := tree_all (by rw [Hn.out]; exact hn0) (fun i hi => HF.out i (by rw [← Hn.out]; exact hi)) (fun i hi => HQ.out i (by rw [← Hn.out]; exact hi))
              have Hrest : Hid (chkR P l = walkN P l 0 ((List.replicate j []).set 0 P.fix)) := Lib.hid (by
                unfold chkR
                rw [← hz.out, ht, Hn.out]; rfl)
              have Htok := Lib.hid (tree_ok (l := l) (by rw [ht]))
              clear ht HF HQ hpb0 hgl hgp hltj hj
              have hM5 : Hid (P.fix.length = n5) := Lib.hid hh.out.l5
              have hb5 := hh.out.b5
              simp only [] at hb5
              have hP5 := (box w3 hP3).2.2.2.2
              have hwl : w.heap.size < w3.heap.size := hP3.lt
              go_wp2_with (first
                | (refine wpL_mkS _ rfl _ _ rfl _ _ j rfl rfl rfl rfl (by omega) ?_; intro w4 hS4 bw4 hsz4; have hP4 := hP3.on bw4; have b4 := hB3.trans (bw4.mono hB3.size); have hM4 : OwnI (w4.alloc (.cells #[] 3)) w4.heap.size (.slice (some ⟨w4.heap.size, 0, none⟩) 0 0) 0 [] := World.ownsRow_made _ _ _ (Nat.le_refl _) (by unfold maxLen; omega) rfl; have ba4 := bAl (Below.refl w4.heap.size w4) (.cells #[] 3); have hs4 := hh.out.e5.below (b4.trans (ba4.mono b4.size)); have hz4 : w4.heap.size ≤ (w4.alloc (.cells #[] 3)).heap.size := ba4.size; have x4 : (w4.alloc (.cells #[] 3)).cell? ⟨w.heap.size, 4, none⟩ = some (.slice A5 n5 c5) := ((hP4.alloc _).cell 4).trans rfl)
                | (at_builtin; have mm := x4; refine wpL_appI _ rfl (.tmp 63) (.tmp 65) rfl w4.heap.size _ 0 [] rfl hM4 _ A5 n5 c5 P.fix rfl hM5.out hs4 (by omega) hz4 n5 (by omega) P.fix rfl ?_; intro A' c' w5 how g5 _; have bw5 : Below w4.heap.size w4 w5 := below_app ba4 hz4 hM4 g5; have hS5 := hS4.out.below bw5; obtain ⟨vs5, hblk5, hvl5, hsl5, _⟩ := id hS5; have hf5 := hblk5.frozen 0; obtain ⟨st9, A9, c9, _, hcell9, _⟩ := hS5.get hn0))
              have b5 := b4.trans (bw5.mono b4.size)
              have hS6 : StA (w5.setCell ⟨w3.heap.size, 0, none⟩ (.slice A' n5 c')) w3.heap.size j ((List.replicate j []).set 0 P.fix) := by
                have h1 := hS5.put (c := c') (OwnI.sees how) hn0
                rw [hM5.out] at h1
                exact h1
              have b6 : Below w.heap.size w (w5.setCell ⟨w3.heap.size, 0, none⟩ (.slice A' n5 c')) := b5.setCell (p := ⟨w3.heap.size, 0, none⟩) (by simp; omega) _
              have bP6 : Blk (w5.setCell ⟨w3.heap.size, 0, none⟩ (.slice A' n5 c')) w.heap.size 39 #[.slice A1 n1 c1, .slice A2 n2 c2, .slice A3 n3 c3, .slice A4 n4 c4, .slice A5 n5 c5] := (hP4.on bw5).far (p := ⟨w3.heap.size, 0, none⟩) (by simp; omega) _
              have hok0 : StsOk P l 0 ((List.replicate j []).set 0 P.fix) := by
                intro i st hi hm
                by_cases e : i = 0
                · subst e
                  rw [List.getElem?_set_self (by simpa using hn0)] at hi
                  injection hi with hi
                  subst hi
                  exact ⟨Hok.out.fixl, Hok.out.fixu⟩
                · rcases hm with h1 | h1
                  · exact absurd h1 e
                  · simp [kids] at h1
              obtain ⟨sts0, hsts0⟩ : ∃ s, s = (List.replicate j []).set 0 P.fix := ⟨_, rfl⟩
              have hR0 := Hrest.out
              rw [← hsts0] at hS6 hok0 hR0
              have HR0 := Lib.hid hR0
              have HS6 := Lib.hid hS6
              have Hok0 := Lib.hid hok0
              have hgS : w.heap.size < w3.heap.size := hwl
              clear hS6 hok0 hsts0 hS5 hblk5 hvl5 hsl5 how hS4 hR0 Hrest hf5 hcell9 x4 hP4 b4 b5 bw5 g5 bw4 hsz4 hP5 hwl hM4 ba4 hs4 hz4
              generalize (w5.setCell ⟨w3.heap.size, 0, none⟩ (.slice A' n5 c')) = w6 at HS6 b6 bP6 ⊢
              obtain ⟨gS, hgSe⟩ : ∃ gS, Hid (gS = w3.heap.size) := ⟨_, Lib.hid rfl⟩
              rw [← hgSe.out] at HS6 hgS ⊢
              clear hgSe hP3 hB3
              go_loopw [70] (fun v70 wr => ∃ (k : Nat) (sts : List (List Int)), k ≤ j ∧ v70 = .int .i64 k ∧ Hid (walkN P (l.drop k) k sts = walkN P l 0 sts0) ∧ Hid (StA wr gS j sts) ∧ Hid (StsOk P l k sts) ∧ Below w.heap.size w wr ∧ Blk wr w.heap.size 39 #[.slice A1 n1 c1, .slice A2 n2 c2, .slice A3 n3 c3, .slice A4 n4 c4, .slice A5 n5 c5]) (fun v70 _ => j - (intOf v70).toNat)
              case atStart => exact ⟨0, sts0, Nat.zero_le _, rfl, Lib.hid rfl, HS6, Hok0, b6, bP6⟩
              case round =>
                clear HS6 Hok0 b6 bP6
                obtain ⟨W0, rfl⟩ : ∃ W0, W0 = wr := ⟨_, rfl⟩
                obtain ⟨k, sts, hk, rfl, HW, HS, HO, bw, bPk⟩ := hrel
                by_cases hlt : k < j
                · have hlt' : (k : Int) < (j : Int) := by omega
                  obtain ⟨x, hx⟩ : ∃ x, l[k]? = some x := ⟨_, List.getElem?_eq_getElem (by rw [Hn.out]; exact hlt)⟩
                  obtain ⟨b, o, ⟨Ac, nc, cc⟩, ⟨As, ns, cs⟩, rfl, hb2, hc0, hc1, hc2, hc3, hNd⟩ := hN k x hx
                  replace hc0 := (bw.cell (p := ⟨b, o + k * 4, none⟩) hb2).trans hc0
                  replace hc1 := (bw.cell (p := ⟨b, o + k * 4 + 1, none⟩) hb2).trans hc1
                  replace hc2 := (bw.cell (p := ⟨b, o + k * 4 + 2, none⟩) hb2).trans hc2
                  replace hc3 := (bw.cell (p := ⟨b, o + k * 4 + 3, none⟩) hb2).trans hc3
                  unfold Sl.v at hc2 hc3
                  simp only [] at hc2 hc3
                  have hform := Htok.out.form k x hx
                  have hpar : k = 0 ∨ (k : Int) ∈ kids (l.take k) := by
                    by_cases e : k = 0
                    · exact .inl e
                    · exact .inr (Htok.out.par k (by rw [Hn.out]; exact hlt) e)
                  have hkl : sts.length = j := HS.out.choose_spec.2.2.1
                  obtain ⟨st, hst⟩ : ∃ st, sts[k]? = some st := ⟨_, List.getElem?_eq_getElem (by rw [hkl]; exact hlt)⟩
                  obtain ⟨hsl, hsu⟩ := HO.out k st hst hpar
                  have hprop := proper_of hz.out.symm hsl hsu
                  have hcw := claim_walk hx hst (form_kind hform) hprop
                  have hfill := fun h1 => HO.out.fill Hok.out hx h1 hpar (by rw [hkl]; exact hlt)
                  rw [hst, Option.getD_some] at hfill
                  have hnext := fun h1 : x.kind ≠ 1 => HO.out.next hx (form_nokids hform h1)
                  have Hchn : Hid (∀ c ∈ x.ch, (k : Int) < c ∧ c < (j : Int)) := Lib.hid fun c hc => by
                    have h1 := form_kids hform c hc
                    rw [Hn.out] at h1
                    exact h1
                  have hsl1 : st.length = n1 := by rw [hsl]; exact hh.out.l1
                  have bx := bAl (Below.refl W0.heap.size W0) (.cells #[.int .i64 (x.kind : Int), .int .i64 x.step, .slice Ac nc cc, .slice As ns cs] 72)
                  have bXk := Blk.new W0 72 #[.int .i64 (x.kind : Int), .int .i64 x.step, .slice Ac nc cc, .slice As ns cs]
                  have szx : (W0.alloc (.cells #[.int .i64 (x.kind : Int), .int .i64 x.step, .slice Ac nc cc, .slice As ns cs] 72)).heap.size = W0.heap.size + 1 := by simp
                  obtain ⟨st', As', cs', hst', hcS, hSees⟩ := HS.out.get hlt
                  obtain rfl : st' = st := by
                    have e := hst'.out.symm.trans hst
                    injection e
                  rw [hsl1] at hcS
                  have hgW : gS < W0.heap.size := HS.out.choose_spec.1.lt
                  obtain ⟨cz, hcz⟩ : ∃ cz, Hid (cz = claimR P x st') := ⟨_, Lib.hid rfl⟩
                  rw [← hcz.out] at hcw
                  have hcl := fun W (hW : Below W0.heap.size W0 W) => rclaim_any ⟨⟨A1, n1, c1⟩, ⟨A2, n2, c2⟩, ⟨A3, n3, c3⟩, ⟨A4, n4, c4⟩, ⟨A5, n5, c5⟩⟩ P x ⟨Ac, nc, cc⟩ ⟨As, ns, cs⟩ As' n1 cs' st' W ((hh.out.below (bw.trans (hW.mono bw.size))).more (Nat.le_trans bw.size hW.size)) ((hNd.below (bw.trans (hW.mono bw.size))).more (Nat.le_trans bw.size hW.size)) (hSees.on hW) hsl1 (by have := hh.out.b1; simp only [] at this; omega) hsl
                  rw [← hcz.out] at hcl
                  unfold PrV.v Sl.v at hcl
                  simp only [] at hcl
                  have Hcw := Lib.hid hcw
                  have Hst := Lib.hid hst
                  have Hsl1 := Lib.hid hsl1
                  have Hfill := Lib.hid hfill
                  have Hnext := Lib.hid hnext
                  have Hx := Lib.hid hx
                  have Hlc := Lib.hid hNd.lc
                  have hbc := hNd.bc
                  have hchs := hNd.ch
                  simp only [] at hbc hchs
                  have hbc' : (nc : Int) ≤ 1000000 := by omega
                  clear hform hpar hkl hst hsl hsu hcw hfill hnext hx hNd hst' hprop hsl1
                  go_wp2_with fail
                  generalize (W0.alloc (.cells #[.int .i64 (x.kind : Int), .int .i64 x.step, .slice Ac nc cc, .slice As ns cs] 72)) = u0 at bx bXk szx ⊢
                  have bPx := bPk.on bx
                  have bwx := bw.trans (bx.mono bw.size)
                  have hcSx := (bx.cell (p := ⟨gS, k, none⟩) hgW).trans hcS
                  have sB : ∀ W, Below u0.heap.size u0 W → (W.cell? ⟨w.heap.size, 0, none⟩ = some (.slice A1 n1 c1) ∧ W.cell? ⟨w.heap.size, 1, none⟩ = some (.slice A2 n2 c2) ∧ W.cell? ⟨w.heap.size, 2, none⟩ = some (.slice A3 n3 c3) ∧ W.cell? ⟨w.heap.size, 3, none⟩ = some (.slice A4 n4 c4) ∧ W.cell? ⟨w.heap.size, 4, none⟩ = some (.slice A5 n5 c5) ∧ W.cell? ⟨W0.heap.size, 0, none⟩ = some (.int .i64 (x.kind : Int)) ∧ W.cell? ⟨W0.heap.size, 1, none⟩ = some (.int .i64 x.step) ∧ W.cell? ⟨W0.heap.size, 2, none⟩ = some (.slice Ac nc cc) ∧ W.cell? ⟨W0.heap.size, 3, none⟩ = some (.slice As ns cs) ∧ W.cell? ⟨gS, k, none⟩ = some (.slice As' n1 cs')) := fun W hW => by
                    obtain ⟨p0, p1, p2, p3, p4⟩ := box W (bPx.on hW)
                    have bX := bXk.on hW
                    exact ⟨p0, p1, p2, p3, p4, (bX.cell 0).trans rfl, (bX.cell 1).trans rfl, (bX.cell 2).trans rfl, (bX.cell 3).trans rfl, (hW.cell (p := ⟨gS, k, none⟩) (by show gS < _; omega)).trans hcSx⟩
                  have qq := (Below.refl u0.heap.size u0).drew
                  go_region_held3 (fun W => W.cell? ⟨w.heap.size, 0, none⟩ = some (.slice A1 n1 c1) ∧ W.cell? ⟨w.heap.size, 1, none⟩ = some (.slice A2 n2 c2) ∧ W.cell? ⟨w.heap.size, 2, none⟩ = some (.slice A3 n3 c3) ∧ W.cell? ⟨w.heap.size, 3, none⟩ = some (.slice A4 n4 c4) ∧ W.cell? ⟨w.heap.size, 4, none⟩ = some (.slice A5 n5 c5) ∧ W.cell? ⟨W0.heap.size, 0, none⟩ = some (.int .i64 (x.kind : Int)) ∧ W.cell? ⟨W0.heap.size, 1, none⟩ = some (.int .i64 x.step) ∧ W.cell? ⟨W0.heap.size, 2, none⟩ = some (.slice Ac nc cc) ∧ W.cell? ⟨W0.heap.size, 3, none⟩ = some (.slice As ns cs) ∧ W.cell? ⟨gS, k, none⟩ = some (.slice As' n1 cs'))
                    ((refine sB _ ?_; first | with_reducible exact qq | with_reducible exact q1))
                    (first | (go_at_call 58; refine (hcl _ bx.drew).mono ?_; rintro e u1 ⟨rfl, bu1⟩; have q1 : Below u0.heap.size u0 u1 := qq.trans (bu1.mono qq.size)))
                  have bw1 := bwx.trans (q1.mono bwx.size)
                  have q0 := bx.trans (q1.mono bx.size)
                  have bP1 := bPx.on q1
                  have bX1 := bXk.on q1
                  have HS1 : Hid (StA u1 gS j sts) := Lib.hid (HS.out.below q0)
                  have hs1 := hSees.on q0
                  have u1z : W0.heap.size < u1.heap.size := bX1.lt
                  clear HS hSees qq sB q1 q0 bu1 bXk bx szx bPx bwx hcSx hcS bw bPk hcl
                  by_cases cq1 : cz = 1
                  · by_cases q1 : x.kind = 1
                    · obtain ⟨hbb, hwk⟩ := Hcw.out.2.2 cq1 q1
                      have hfl := Hfill.out hbb
                      have hd := hbb
                      unfold branchB at hd
                      simp only [Bool.and_eq_true, decide_eq_true_eq] at hd
                      obtain ⟨⟨⟨d1, d2⟩, d3⟩, d4⟩ := hd
                      rw [Hsl1.out] at d2
                      obtain ⟨kd, stp, ch, sp⟩ := x
                      simp only [] at d1 d2 d3 d4 q1 hwk hfl hchs
                      obtain rfl : kd = 1 := q1
                      obtain ⟨m, rfl⟩ : ∃ m : Nat, stp = (m : Int) := ⟨stp.toNat, by omega⟩
                      have hm : m < n1 := by omega
                      have hm' : (m : Int) < (n1 : Int) := by omega
                      obtain ⟨M, hM⟩ : ∃ M, P.elig[m]? = some M := ⟨_, List.getElem?_eq_getElem (by rw [hh.out.l1]; exact hm)⟩
                      have hMb := hh.out.w1 M (List.mem_of_getElem? hM)
                      obtain ⟨us, hus⟩ : ∃ us, Hid (us = (memT 64 M).map fun x : Nat => (x : Int)) := ⟨_, Lib.hid rfl⟩
                      rw [memZ_64 hM hMb, ← hus.out] at hwk hfl d4
                      rw [Int.toNat_natCast] at hwk hfl
                      have hM1 : (P.elig.map wv)[m]? = some (.int .u64 (M : Int)) := by rw [List.getElem?_map, hM]; rfl
                      obtain ⟨be, oe, hA1, hbe, hce⟩ := (hh.out.e1.below bw1) (by intro e; rw [e] at hM1; simp at hM1)
                      simp only [] at hA1
                      subst hA1
                      have hcM := hce m _ hM1
                      have hmem := mem41_any M u1 hMb
                      rw [← hus.out] at hmem
                      have z0 : u1.cell? ⟨W0.heap.size, 0, none⟩ = some (.int .i64 1) := (bX1.cell 0).trans rfl
                      have z1 : u1.cell? ⟨W0.heap.size, 1, none⟩ = some (.int .i64 (m : Int)) := (bX1.cell 1).trans rfl
                      have zp : u1.cell? ⟨w.heap.size, 0, none⟩ = some (.slice (some ⟨be, oe, none⟩) n1 c1) := (bP1.cell 0).trans rfl
                      have e9 : Hid (walkN P (l.drop (k + 1)) (k + 1) (fillS st' m sts (ch.zip us)) = walkN P l 0 sts0) := Lib.hid (by rw [← HW.out, hwk])
                      have HO1 := Lib.hid hfl
                      have hv0 : st'[m]? = some 0 := by
                        unfold atZ atI at d3
                        rw [Int.toNat_natCast] at d3
                        rw [List.getElem?_eq_getElem (by rw [Hsl1.out]; exact hm)] at d3 ⊢
                        simpa using d3
                      have Hv0 := Lib.hid hv0
                      have Hd4 := Lib.hid d4
                      have Hfk := Lib.hid (fun i => (fillS_keep (st := st') (z := m) (sts := sts) (us := us) Hchn.out i).trans Hst.out)
                      obtain ⟨zs, hzs⟩ : ∃ zs, Hid (zs = ch.zip us) := ⟨_, Lib.hid rfl⟩
                      rw [← hzs.out] at e9 HO1 Hfk
                      subst cq1
                      have hnn : n1 ≤ 1000 := hh.out.b1
                      clear Hcw Hfill Hnext hbb hwk hfl d1 d2 d3 d4 hce hM1 hM hv0
                      go_wp2_with fail
                      refine hmem.mono ?_
                      rintro e w7 ⟨Au, nu, cu, rfl, hou, hnu, bw7⟩
                      have hnul := OwnI.len hou
                      obtain rfl : nu = nc := by rw [← hnul, Hd4.out]; exact Hlc.out
                      have hsu7 := OwnI.sees hou
                      have bw8 := bw1.trans (bw7.mono bw1.size)
                      have bP7 := bP1.on bw7
                      have bX7 := bX1.on bw7
                      have HS7 : Hid (StA w7 gS j (fillS st' m sts (zs.take 0))) := Lib.hid (HS1.out.below bw7)
                      have hz7 : W0.heap.size < w7.heap.size := bX7.lt
                      have Hnul := Lib.hid hnul
                      clear hou hmem HS1 bw7 bw1 bP1 bX1 z0 z1 zp hcM hnul u1z hs1
                      have hz8 : w7.heap.size ≤ w7.heap.size := Nat.le_refl _
                      generalize hN2 : w7.heap.size = N2 at hsu7 hz7 hz8
                      have hz9 : N2 ≤ w7.heap.size := by omega
                      clear hN2 hz8
                      go_wp2_with fail
                      go_loopw [97] (fun v97 wr => ∃ i : Nat, i ≤ nu ∧ v97 = .int .i64 i ∧ Hid (StA wr gS j (fillS st' m sts (zs.take i))) ∧ Below w.heap.size w wr ∧ Blk wr w.heap.size 39 #[.slice (some ⟨be, oe, none⟩) n1 c1, .slice A2 n2 c2, .slice A3 n3 c3, .slice A4 n4 c4, .slice A5 n5 c5] ∧ Blk wr W0.heap.size 72 #[.int .i64 1, .int .i64 (m : Int), .slice Ac nu cc, .slice As ns cs] ∧ Sees wr N2 Au (us.map iv) ∧ N2 ≤ wr.heap.size) (fun v97 _ => nu - (intOf v97).toNat)
                      case atStart => exact ⟨0, Nat.zero_le _, rfl, HS7, bw8, bP7, bX7, hsu7, hz9⟩
                      case round =>
                        clear HS7 bw8 bP7 bX7 hsu7 hz9
                        obtain ⟨i, hi, rfl, HS7, bw8, bP7, bX7, hsu7, hz9⟩ := hrel
                        by_cases hlti : i < nu
                        · have hlti' : (i : Int) < (nu : Int) := by omega
                          obtain ⟨b9, o9, u, rfl, hb9, Hu, hcu⟩ := Sees.int (k := i) hsu7 (by rw [Hnul.out]; exact hlti)
                          obtain ⟨bc, oc, v, rfl, hbc9, Hv, hcv⟩ := Sees.int (k := i) (hchs.below bw8) (by rw [Hlc.out]; exact hlti)
                          obtain ⟨cv1, cv2⟩ := Hchn.out v (List.mem_of_getElem? Hv.out)
                          obtain ⟨ci, rfl⟩ : ∃ ci : Nat, v = (ci : Int) := ⟨v.toNat, by omega⟩
                          have hci : ci < j := by omega
                          obtain ⟨st2, A2', c2', hst2, hcS2, hS2⟩ := HS7.out.get hlt
                          obtain rfl : st2 = st' := by
                            have e := hst2.out.symm.trans (Hfk.out i)
                            injection e
                          rw [Hsl1.out] at hcS2
                          have ba := bAl (Below.refl wr.heap.size wr) (.cells #[] 3)
                          have hM4 : OwnI (wr.alloc (.cells #[] 3)) wr.heap.size (.slice (some ⟨wr.heap.size, 0, none⟩) 0 0) 0 [] := World.ownsRow_made _ _ _ (Nat.le_refl _) (by unfold maxLen; omega) rfl
                          have hz4 : wr.heap.size ≤ (wr.alloc (.cells #[] 3)).heap.size := ba.size
                          have x9 : (wr.alloc (.cells #[] 3)).cell? ⟨gS, k, none⟩ = some (.slice A2' n1 c2') := (ba.cell (p := ⟨gS, k, none⟩) (by show gS < _; omega)).trans hcS2
                          have hs9 := hS2.on ba
                          have hgn : gS < wr.heap.size := by omega
                          clear hcS2 hst2
                          go_upto_region 28 with (at_builtin; refine wpL_appI _ rfl (.tmp 102) (.tmp 106) rfl wr.heap.size _ 0 [] rfl hM4 _ A2' n1 c2' st2 rfl Hsl1.out hs9 (by omega) hz4 n1 (by omega) st2 rfl ?_; intro A8 c8 w8 o8 g8 _)
                          have bw9 : Below wr.heap.size wr w8 := below_app ba hz4 hM4 g8
                          obtain ⟨g, cs8, rfl, hg, hbg, hcs8⟩ := OwnI.blk o8 (by omega)
                          have hfg := hbg.frozen m
                          have hcg : w8.cell? ⟨g, m, none⟩ = some (.int .i64 0) := by rw [hbg.cell]; exact hcs8 m (iv 0) (by rw [List.getElem?_map, Hv0.out]; rfl)
                          have z1 : w8.cell? ⟨W0.heap.size, 1, none⟩ = some (.int .i64 (m : Int)) := ((bX7.on bw9).cell 1).trans rfl
                          clear hM4 x9 hs9 hS2 ba hz4 hcs8 g8
                          go_upto_region 29 with (fail)
                          have o9 : OwnI (w8.setCell ⟨g, m, none⟩ (.int .i64 u)) wr.heap.size (.slice (some ⟨g, 0, none⟩) n1 c8) n1 (st2.set m u) := by
                            have h1 := (World.ownsRow.stored o8 m (.int .i64 u)).1
                            show World.ownsRow _ _ _ _ _ _ _
                            rw [List.map_set]
                            exact h1
                          have b9' : Below wr.heap.size wr (w8.setCell ⟨g, m, none⟩ (.int .i64 u)) := bw9.setCell (p := ⟨g, m, none⟩) hg _
                          generalize (w8.setCell ⟨g, m, none⟩ (.int .i64 u)) = w9 at o9 b9' ⊢
                          clear o8 hbg hfg hcg z1 bw9
                          have HS9 := HS7.out.below b9'
                          have bX9 := bX7.on b9'
                          have bP9 := bP7.on b9'
                          have bw10 := bw8.trans (b9'.mono bw8.size)
                          have z2 : w9.cell? ⟨W0.heap.size, 2, none⟩ = some (.slice (some ⟨bc, oc, none⟩) nu cc) := (bX9.cell 2).trans rfl
                          have hcv9 : w9.cell? ⟨bc, oc + i, none⟩ = some (.int .i64 (ci : Int)) := (b9'.cell (p := ⟨bc, oc + i, none⟩) (Nat.lt_of_lt_of_le hbc9 bw8.size)).trans hcv
                          obtain ⟨vs9, hblk9, hvl9, hsl9, _⟩ := id HS9
                          have hf9 := hblk9.frozen ci
                          obtain ⟨st8, A8', c8', _, hcell9, _⟩ := HS9.get hci
                          have hsu9 := hsu7.below (b9'.mono hz9)
                          have HS10 : Hid (StA (w9.setCell ⟨gS, ci, none⟩ (.slice (some ⟨g, 0, none⟩) n1 c8)) gS j (fillS st2 m sts (zs.take (i + 1)))) := Lib.hid (by
                            have h1 := HS9.put (c := c8) (OwnI.sees o9) hci
                            rw [List.length_set, Hsl1.out] at h1
                            have hzi : zs[i]? = some ((ci : Int), u) := by rw [hzs.out, List.getElem?_zip_eq_some]; exact ⟨Hv.out, Hu.out⟩
                            have hnx : fillS st2 m sts (zs.take (i + 1)) = (fillS st2 m sts (zs.take i)).set ci (st2.set m u) := by
                              rw [List.take_add_one, hzi]
                              show fillS st2 m sts (zs.take i ++ [((ci : Int), u)]) = _
                              rw [fillS_snoc]
                              simp
                            rw [hnx]
                            exact h1)
                          have bX10 := bX9.far (p := ⟨gS, ci, none⟩) (show W0.heap.size ≠ gS by omega) (.slice (some ⟨g, 0, none⟩) n1 c8)
                          have bP10 := bP9.far (p := ⟨gS, ci, none⟩) (show w.heap.size ≠ gS by omega) (.slice (some ⟨g, 0, none⟩) n1 c8)
                          have hsu10 := hsu9.offS HS9 (i := ci) (.slice (some ⟨g, 0, none⟩) n1 c8)
                          have bw11 := bw10.setCell (p := ⟨gS, ci, none⟩) (show w.heap.size ≤ gS by omega) (.slice (some ⟨g, 0, none⟩) n1 c8)
                          have hz10 : N2 ≤ (w9.setCell ⟨gS, ci, none⟩ (.slice (some ⟨g, 0, none⟩) n1 c8)).heap.size := by rw [setCell_size]; exact Nat.le_trans hz9 b9'.size
                          clear HS9 hblk9 hvl9 hsl9 bX9 bP9 bw10 hsu9 HS7 bX7 bP7 hsu7 o9
                          go_wp2_with fail
                          go_roundw
                          case rel => exact ⟨i + 1, by omega, by go_num, HS10, bw11, bP10, bX10, hsu10, hz10⟩
                          case measure => simp [intOf]; omega
                        · obtain rfl : i = nu := by omega
                          have hlti' : ¬ (i : Int) < (i : Int) := by omega
                          have hfin : zs.take i = zs := List.take_of_length_le (by rw [hzs.out, List.length_zip, Hnul.out]; omega)
                          have h6 := HS7.out
                          rw [hfin] at h6
                          have HS6 := Lib.hid h6
                          clear h6 hfin
                          go_wp2_with fail
                          go_roundw
                          case rel => exact ⟨k + 1, _, by omega, by go_num, e9, HS6, HO1, bw8, bP7⟩
                          case measure => simp [intOf]; omega
                    · have e9 : Hid (walkN P (l.drop (k + 1)) (k + 1) sts = walkN P l 0 sts0) := Lib.hid (by rw [← HW.out, Hcw.out.2.1 cq1 q1])
                      have HO1 := Lib.hid (Hnext.out q1)
                      have q1b : ((x.kind : Int) != 1) = true := by simp; omega
                      have z0 : u1.cell? ⟨W0.heap.size, 0, none⟩ = some (.int .i64 (x.kind : Int)) := (bX1.cell 0).trans rfl
                      subst cq1
                      clear Hcw Hfill Hnext q1
                      go_wp2_with fail
                      go_roundw
                      case rel => exact ⟨k + 1, _, by omega, by go_num, e9, HS1, HO1, bw1, bP1⟩
                      case measure => simp [intOf]; omega
                  · have hw0 := Hcw.out.1 cq1
                    have e1 : Hid ((r1 : Int) = cz) := Lib.hid (by
                      have h1 := hw0.1
                      rw [HW.out, ← HR0.out] at h1
                      rw [hr1.out, h1]
                      have := hw0.2
                      simp only []
                      omega)
                    have e2 : Hid (r2 = (k : Int)) := Lib.hid (by
                      have h1 := hw0.1
                      rw [HW.out, ← HR0.out] at h1
                      rw [hr2.out, h1])
                    have c1b : (cz != 1) = true := by simpa using cq1
                    clear Hcw Hfill Hnext hw0 cq1
                    go_wp2_with fail
                    go_ret2
                    exact ⟨by rw [e1.out, e2.out]; rfl, bw1⟩
                · obtain rfl : k = j := by omega
                  have hlt' : ¬ (k : Int) < (k : Int) := by omega
                  have hW := HW.out
                  rw [List.drop_eq_nil_of_le (by rw [Hn.out]; exact Nat.le_refl _), ← HR0.out, walkN] at hW
                  have e1 : Hid (r1 = 1) := Lib.hid (by rw [hr1.out, ← hW])
                  have e2 : Hid (r2 = 0) := Lib.hid (by rw [hr2.out, ← hW])
                  clear hW
                  go_wp2_with fail
                  go_ret2
                  exact ⟨by rw [e1.out, e2.out]; rfl, bw⟩
  · have e1 : Hid (r1 = 2) := Lib.hid (by rw [hr1.out]; unfold chkR; rw [← hz.out, if_pos z0])
    have e2 : Hid (r2 = 0) := Lib.hid (by rw [hr2.out]; unfold chkR; rw [← hz.out, if_pos z0])
    have z0b : (z != 0) = true := by simpa using z0
    clear z0
    go_enter Tryd.func24, Tryd.ntmps24
    go_wp2_with fail
    refine (hchk _ b1).mono ?_
    rintro e w2 ⟨rfl, bw2⟩
    go_wp2_with fail
    go_ret2
    exact ⟨by rw [e1.out, e2.out]; rfl, b1.trans (bw2.mono b1.size)⟩
end Go.Proofs.YtcdgmdhfaniciaaDoor
