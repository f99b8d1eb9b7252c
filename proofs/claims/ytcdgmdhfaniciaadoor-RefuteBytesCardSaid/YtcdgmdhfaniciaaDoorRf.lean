/- The reference's Refute. (genrf.py) -/
import Derived.Test.YtcdgmdhfaniciaaDoorRfA
import Derived.Test.YtcdgmdhfaniciaaDoorPm
import Derived.Test.YtcdgmdhfaniciaaDoorPn
import Derived.Test.YtcdgmdhfaniciaaDoorPj
import Derived.Deep.CutRange
import Derived.Deep.CutBlock
namespace Go.Proofs.YtcdgmdhfaniciaaDoor
open Go.RowKit
set_option linter.unusedVariables false
set_option linter.unusedSimpArgs false

/-- All places are met by going round. -/
theorem rot_all {n t : Nat} {p : Nat → Prop} (h : ∀ q, q < n → p ((q + t) % n)) (k : Nat) (hk : k < n) : p k := by
  have ht : t % n < n := Nat.mod_lt _ (by omega)
  have h1 := h ((k + (n - t % n)) % n) (Nat.mod_lt _ (by omega))
  have e : ((k + (n - t % n)) % n + t) % n = k := by
    rw [Nat.mod_add_mod]
    have h2 := Nat.div_add_mod t n
    rw [show k + (n - t % n) + t = k + n * (t / n + 1) by rw [Nat.mul_add]; omega, Nat.add_mul_mod_self_left]
    exact Nat.mod_eq_of_lt hk
  rwa [e] at h1
theorem map_set {ys : List NdS} {i : Nat} {y : NdS} : (ys.set i y).map (·.x) = (ys.map (·.x)).set i y.x := by rw [List.map_set]
/-- A leaf put in. -/
theorem RefIn.put {P : Pr} {ys : List NdS} {sts : List (List Int)} {i : Nat} {st : List Int} {y : NdS} (h : RefIn P (ys.map (·.x)) sts i) (hi : i < ys.length) (hst : sts[i]? = some st) (hN : NodeOk P sts i st y.x) (hc : y.x.ch = []) : RefIn P ((ys.set i y).map (·.x)) sts (i + 1) := by
  rw [map_set]
  exact h.leaf (by simpa using hi) hst hN hc

set_option maxHeartbeats 64000000 in
set_option maxRecDepth 100000 in
/-- Refute, the reference's. -/
theorem refute_any (p : PrV) (P : Pr) (turn : Nat) (hall : Bool) (w : World) (h : RPrAt w w.heap.size p P) (hc : chkP P = 0) (h5 : P.elig.length ≤ 5) (hm5 : ∀ z, (memZ (eligA P z)).length ≤ 5) (ht : turn ≤ 4) :
    Calls Tryd.prog 20 #[p.v, .int .i64 (turn : Int), .bool hall] w fun e w' => ∃ A n c, e = .returned (.slice A n c) ∧ (∃ ys, OwnNs .i64 72 w' w.heap.size (.slice A n c) n ys ∧ ApNs ys ∧ SmNs 64 ys ∧ ∃ sts, RefOk P (ys.map (·.x)) sts) ∧ n ≤ 10000 ∧ Below w.heap.size w w' := by
  have hbr := fun W (hW : Below w.heap.size w W) A n c st hl hn hb => rbroken_any p P A n c st W (h.on hW) hl hn hb
  have hha := fun W (hW : Below w.heap.size w W) A S n c nS cS l st hl hn hb hcap hs hnS hlS => rhall_any p P A S n c nS cS l st W (h.on hW) hl hn hb hcap hs hnS hlS
  have ok := chkP_ok hc
  have Hok := Lib.hid ok
  have hfl := ok.fixl
  obtain ⟨⟨A1, n1, c1⟩, ⟨A2, n2, c2⟩, ⟨A3, n3, c3⟩, ⟨A4, n4, c4⟩, ⟨A5, n5, c5⟩⟩ := p
  have hl1 := h.l1
  have hl5 := h.l5
  have he1 := h.e1
  have he5 := h.e5
  have hw1 := h.w1
  have hn0 := ok.n0
  simp only [] at hl1 hl5 he1 he5
  unfold PrV.v Sl.v at hbr hha ⊢
  simp only [] at hbr hha ⊢
  have L1 := Lib.hid hl1
  have W1' := Lib.hid hw1
  have Hc := Lib.hid hc
  have Hm5 := Lib.hid hm5
  have hn15 : n1 ≤ 5 := by omega
  have hn15' : (n1 : Int) ≤ 5 := by omega
  have hn10 : 0 < n1 := by omega
  have hn10' : (0 : Int) < (n1 : Int) := by omega
  have e51 : n5 = n1 := by omega
  subst e51
  have ht' : (turn : Int) ≤ 4 := by omega
  have HR0 := Lib.hid (RefIn.start ok h5)
  clear h hc ok hw1 hl1 hm5 hn0
  have b1 := bAl (Below.refl w.heap.size w) (.cells #[.slice A1 n5 c1, .slice A2 n2 c2, .slice A3 n3 c3, .slice A4 n4 c4, .slice A5 n5 c5] 39)
  have kP := Blk.new w 39 #[.slice A1 n5 c1, .slice A2 n2 c2, .slice A3 n3 c3, .slice A4 n4 c4, .slice A5 n5 c5]
  have box : ∀ W, Blk W w.heap.size 39 #[.slice A1 n5 c1, .slice A2 n2 c2, .slice A3 n3 c3, .slice A4 n4 c4, .slice A5 n5 c5] → W.cell? ⟨w.heap.size, 0, none⟩ = some (.slice A1 n5 c1) ∧ W.cell? ⟨w.heap.size, 1, none⟩ = some (.slice A2 n2 c2) ∧ W.cell? ⟨w.heap.size, 2, none⟩ = some (.slice A3 n3 c3) ∧ W.cell? ⟨w.heap.size, 3, none⟩ = some (.slice A4 n4 c4) ∧ W.cell? ⟨w.heap.size, 4, none⟩ = some (.slice A5 n5 c5) := fun W hb => ⟨(hb.cell 0).trans rfl, (hb.cell 1).trans rfl, (hb.cell 2).trans rfl, (hb.cell 3).trans rfl, (hb.cell 4).trans rfl⟩
  go_enter Tryd.func20, Tryd.ntmps20
  go_upto_region 2 with fail
  have b2 := bAl b1 (.cells #[.int .i64 0, .int .i64 0, .slice none 0 0, .slice none 0 0] 72)
  have kP2 := kP.alloc (.cells #[.int .i64 0, .int .i64 0, .slice none 0 0, .slice none 0 0] 72)
  have row0 := World.ownsRow_lit (base := w.heap.size) (e := 72) (size := 4) (w.alloc (.cells #[.slice A1 n5 c1, .slice A2 n2 c2, .slice A3 n3 c3, .slice A4 n4 c4, .slice A5 n5 c5] 39)) #[.int .i64 0, .int .i64 0, .slice none 0 0, .slice none 0 0] 1 b1.size (by unfold maxLen; omega) rfl
  rw [World.size_alloc] at row0
  generalize ((w.alloc (.cells #[.slice A1 n5 c1, .slice A2 n2 c2, .slice A3 n3 c3, .slice A4 n4 c4, .slice A5 n5 c5] 39)).alloc (.cells #[.int .i64 0, .int .i64 0, .slice none 0 0, .slice none 0 0] 72)) = W2 at b2 kP2 row0 ⊢
  have N0 : OwnNs .i64 72 W2 w.heap.size (.slice (some ⟨w.heap.size + 1, 0, none⟩) 1 1) 1 [nd0S] := ⟨row0, fun y hy => by
    obtain rfl : y = nd0S := by simpa using hy
    exact ⟨by decide, OwnI.nil _ _, OwnI.nil _ _, by decide, by decide⟩⟩
  clear b1 kP row0
  have hM4 : OwnI (W2.alloc (.cells #[] 3)) W2.heap.size (.slice (some ⟨W2.heap.size, 0, none⟩) 0 0) 0 [] := World.ownsRow_made _ _ _ (Nat.le_refl _) (by unfold maxLen; omega) rfl
  have ba := bAl (Below.refl W2.heap.size W2) (.cells #[] 3)
  have hz4 : W2.heap.size ≤ (W2.alloc (.cells #[] 3)).heap.size := ba.size
  have x4 : (W2.alloc (.cells #[] 3)).cell? ⟨w.heap.size, 4, none⟩ = some (.slice A5 n5 c5) := ((kP2.alloc _).cell 4).trans rfl
  have hs4 := he5.below (b2.trans (ba.mono b2.size))
  go_wp2_with (at_builtin; refine wpL_appI _ rfl (.tmp 22) (.tmp 24) rfl W2.heap.size _ 0 [] rfl hM4 _ A5 n5 c5 P.fix rfl hl5 hs4 (by omega) hz4 n5 (by omega) P.fix rfl ?_; intro A' c' w5 how g5 _)
  have b5 : Below W2.heap.size W2 w5 := below_app ba hz4 hM4 g5
  have bL := bAl b5 (.cells #[.slice A' n5 c'] 33)
  have row1 := World.ownsRow_lit (base := w.heap.size) (e := 33) (size := 1) w5 #[.slice A' n5 c'] 1 (Nat.le_trans b2.size b5.size) (by unfold maxLen; omega) rfl
  have how2 := own_less (OwnI.alloc how (.cells #[.slice A' n5 c'] 33)) b2.size
  have E0 : OwnLL (w5.alloc (.cells #[.slice A' n5 c'] 33)) w.heap.size (.slice (some ⟨w5.heap.size, 0, none⟩) 1 1) 1 [P.fix] := ⟨[.slice A' n5 c'], row1, (RowsI.nil _ _).snoc how2⟩
  have N1 := N0.on bL
  have kP3 := kP2.on bL
  have b3 := b2.trans (bL.mono b2.size)
  generalize (w5.alloc (.cells #[.slice A' n5 c'] 33)) = W3 at E0 N1 kP3 b3 ⊢
  obtain ⟨As0, hAs0⟩ : ∃ a : Option Addr, a = some ⟨w5.heap.size, 0, none⟩ := ⟨_, rfl⟩
  obtain ⟨Al0, hAl0⟩ : ∃ a : Option Addr, a = some ⟨w.heap.size + 1, 0, none⟩ := ⟨_, rfl⟩
  rw [← hAs0] at E0 ⊢
  rw [← hAl0] at N1 ⊢
  have A0 : ApNs [nd0S] := ApNs.nil.app0 1
  have M0 : SmNs 64 [nd0S] := SmNs.app0 (ys := []) (fun y hy => by cases hy) 1
  clear hAs0 hAl0 hM4 ba hz4 x4 hs4 N0 b2 kP2 b5 bL row1 how2 how g5
  go_loopw [7, 8, 9] (fun v7 v8 v9 wr => ∃ (i n cl cs : Nat) (Al As : Option Addr) (ys : List NdS) (sts : List (List Int)), i ≤ n ∧ n ≤ 10000 ∧ v9 = .int .i64 (i : Int) ∧ v7 = .slice Al n cl ∧ v8 = .slice As n cs ∧ OwnNs .i64 72 wr w.heap.size (.slice Al n cl) n ys ∧ ApNs ys ∧ SmNs 64 ys ∧ OwnLL wr w.heap.size (.slice As n cs) n sts ∧ Hid (RefIn P (ys.map (·.x)) sts i) ∧ Below w.heap.size w wr ∧ Blk wr w.heap.size 39 #[.slice A1 n5 c1, .slice A2 n2 c2, .slice A3 n3 c3, .slice A4 n4 c4, .slice A5 n5 c5]) (fun _ _ v9 _ => 10001 - (intOf v9).toNat)
  case atStart => exact ⟨0, 1, _, _, _, _, _, _, by omega, by omega, rfl, rfl, rfl, N1, A0, M0, E0, HR0, b3, kP3⟩
  case round =>
    clear N1 A0 M0 E0 HR0 b3 kP3
    obtain ⟨W0, rfl⟩ : ∃ W0, W0 = wr := ⟨_, rfl⟩
    obtain ⟨i, n, cl, cs, Al, As, ys, sts, hi, hn, rfl, rfl, rfl, hN, hA, hSm, hL, HR, hB, hP⟩ := hrel
    have hnl := hN.len
    have hn' : (n : Int) ≤ 10000 := by omega
    by_cases hlt : i < n
    · have hlt' : (i : Int) < (n : Int) := by omega
      have hiy : i < ys.length := by omega
      obtain ⟨st, hst⟩ : ∃ st, sts[i]? = some st := ⟨_, List.getElem?_eq_getElem (by rw [hL.len]; exact hlt)⟩
      have hpart := HR.out.part i st hst
      have hprop := proper_of Hc.out hpart.len hpart.rng
      have hbb : BrokenB P st = brk P st := by unfold BrokenB; rw [hprop]; rfl
      have hsl : st.length = n5 := by rw [hpart.len]; exact L1.out
      obtain ⟨vs, hv1, hv2⟩ := hL.ex
      obtain ⟨u0, hu0⟩ : ∃ u, vs[i]? = some u := ⟨_, List.getElem?_eq_getElem (by rw [hv2.1]; exact (List.getElem?_eq_some_iff.1 hst).1)⟩
      obtain ⟨A', m', c', rfl, hso⟩ := hv2.2 i u0 st hu0 hst
      obtain rfl : n5 = m' := by rw [← hsl]; exact OwnI.len hso
      obtain ⟨bs, os, rfl, hbs, hcs⟩ := Sees.own hv1 (by omega) (by intro e; rw [e] at hu0; simp at hu0)
      have hcell := hcs i _ hu0
      obtain ⟨gl, cgl, rfl, hgl, hgb⟩ := own_blk hN.row (by omega)
      have hbr0 := hbr W0 hB A' n5 c' st (OwnI.sees hso) hsl (by omega)
      rw [hbb] at hbr0
      obtain ⟨p0, p1, p2, p3, p4⟩ := box W0 hP
      have Hst := Lib.hid hst
      have Hu0 := Lib.hid hu0
      have Hsl := Lib.hid hsl
      have Hv2 := Lib.hid hv2
      have Hpl := Lib.hid hpart.len
      clear hcs hbb hprop hpart hst hu0 hsl hv2 hL
      cases hbk : brk P st
      · rw [hbk] at hbr0
        go_wp2_with fail
        refine hbr0.mono ?_
        rintro e w1 ⟨rfl, bw1⟩
        have N1 := hN.on bw1
        have G1 := hgb.on bw1
        have V1 := own_on hv1 bw1
        have V2 := Lib.hid (Hv2.out.on bw1)
        have S1 := hso.on bw1
        have B1 := hB.trans (bw1.mono hB.size)
        have P1 := hP.on bw1
        clear hbr0 hN hgb hv1 Hv2 hso hB hP p0 p1 p2 p3 p4 hcell bw1
        go_wp2_with fail
        go_loop [11, 46] (fun v11 v46 => ∃ k : Nat, k ≤ n5 ∧ v46 = .int .i64 (k : Int) ∧ ((v11 = .int .i64 (-1) ∧ Hid (∀ q, q < k → atI st ((q + turn) % n5) ≠ 0)) ∨ (∃ z : Nat, z < n5 ∧ v11 = .int .i64 (z : Int) ∧ Hid (atI st z = 0)))) (fun _ v46 => n5 - (intOf v46).toNat)
        case atStart => exact ⟨0, Nat.zero_le _, rfl, .inl ⟨rfl, Lib.hid fun q hq => absurd hq (Nat.not_lt_zero _)⟩⟩
        case round =>
          obtain ⟨k, hk, rfl, hcase⟩ := hrel
          by_cases hltk : k < n5
          · have hltk' : (k : Int) < (n5 : Int) := by omega
            obtain ⟨z, hz⟩ : ∃ z : Nat, Hid (z = (k + turn) % n5) := ⟨_, Lib.hid rfl⟩
            have hzn : z < n5 := by rw [hz.out]; exact Nat.mod_lt _ hn10
            have hzn' : (z : Int) < (n5 : Int) := by omega
            have hzm : ((k : Int) + (turn : Int)) % (n5 : Int) = (z : Int) := by rw [hz.out]; simp
            obtain ⟨b9, o9, v, rfl, hb9, Hv, hcv⟩ := Sees.int (k := z) (OwnI.sees S1) (by rw [Hsl.out]; exact hzn)
            have Hat : Hid (atI st z = v) := Lib.hid (by unfold atI; rw [Hv.out]; rfl)
            rcases hcase with ⟨rfl, HQ⟩ | ⟨y, hy, rfl, HQ⟩
            · by_cases v0 : v = 0
              · subst v0
                go_wp2_with fail
                go_round
                case rel => exact ⟨k + 1, by omega, by go_num, .inr ⟨z, hzn, by rw [hzm], Hat⟩⟩
                case measure => simp [intOf]; omega
              · have v0b : (v == 0) = false := by simpa using v0
                have HQ2 : Hid (∀ q, q < k + 1 → atI st ((q + turn) % n5) ≠ 0) := Lib.hid fun q hq => by
                  rcases Nat.lt_succ_iff_lt_or_eq.1 hq with h1 | rfl
                  · exact HQ.out q h1
                  · rw [← hz.out, Hat.out]; exact v0
                clear v0
                go_wp2_with fail
                go_round
                case rel => exact ⟨k + 1, by omega, by go_num, .inl ⟨rfl, HQ2⟩⟩
                case measure => simp [intOf]; omega
            · have y0 : ¬ (y : Int) < 0 := by omega
              by_cases v0 : v = 0
              · subst v0
                go_wp2_with fail
                go_round
                case rel => exact ⟨k + 1, by omega, by go_num, .inr ⟨y, hy, rfl, HQ⟩⟩
                case measure => simp [intOf]; omega
              · have v0b : (v == 0) = false := by simpa using v0
                clear v0
                go_wp2_with fail
                go_round
                case rel => exact ⟨k + 1, by omega, by go_num, .inr ⟨y, hy, rfl, HQ⟩⟩
                case measure => simp [intOf]; omega
          · obtain rfl : k = n5 := by omega
            have hltk' : ¬ (k : Int) < (k : Int) := by omega
            rcases hcase with ⟨rfl, HQ⟩ | ⟨y, hy, rfl, HQ⟩
            · have HF : Hid (∀ q, q < st.length → atI st q ≠ 0) := Lib.hid fun q hq => rot_all (p := fun q => atI st q ≠ 0) HQ.out q (by rw [← Hsl.out]; exact hq)
              obtain ⟨yi, hyi⟩ : ∃ y, ys[i]? = some y := ⟨_, List.getElem?_eq_getElem hiy⟩
              obtain ⟨b9, o9, e9, _, q0, q1, q2, q3⟩ := N1.get hyi
              injection e9 with e9
              injection e9 with e91 e92 _
              subst e91 e92
              simp only [Nat.zero_add] at q0 q1 q2 q3
              have f0 := G1.frozen (i * 4)
              have f1 := G1.frozen (i * 4 + 1)
              have f2 := G1.frozen (i * 4 + 2)
              have f3 := G1.frozen (i * 4 + 3)
              clear hyi
              go_wp2_with fail
              have N9 := OwnNs.store (i := i) (y := ⟨⟨2, 0, [], []⟩, ⟨none, 0, 0⟩, ⟨none, 0, 0⟩⟩) N1 (by decide) hlt ⟨by show 2 < 256; omega, OwnI.nil _ _, OwnI.nil _ _, by show 0 ≤ 1000000; omega, by show 0 ≤ 1000000; omega⟩
              have A9 := hA.set (N := w1.heap.size) (i := i) (y := ⟨⟨2, 0, [], []⟩, ⟨none, 0, 0⟩, ⟨none, 0, 0⟩⟩) (fun j z _ hz => ⟨own_blt (N1.nd z (List.mem_of_getElem? hz)).ch, own_blt (N1.nd z (List.mem_of_getElem? hz)).st⟩) ⟨Bge.nil _, Bge.nil _⟩ ⟨Apt.nil _, Apt.nil _⟩
              have E9 : OwnLL (set4 w1 gl (i * 4) (.int .i64 ((2 : Nat) : Int)) (.int .i64 0) (.slice none 0 0) (.slice none 0 0)) w.heap.size (.slice (some ⟨bs, os, none⟩) n cs) n sts := OwnLL.set4 ⟨vs, V1, V2.out⟩ G1 (by decide) (by decide) _ _ _ _
              have B9 := below_set4 (g := gl) (o := i * 4) B1 hgl (.int .i64 ((2 : Nat) : Int)) (.int .i64 0) (.slice none 0 0) (.slice none 0 0)
              have P9 := far_set4 (o := i * 4) (g' := gl) P1 (P1.apart G1 (by decide)) (.int .i64 ((2 : Nat) : Int)) (.int .i64 0) (.slice none 0 0) (.slice none 0 0)
              have M9 := hSm.set (i := i) (y := ⟨⟨2, 0, [], []⟩, ⟨none, 0, 0⟩, ⟨none, 0, 0⟩⟩) ⟨Nat.zero_le _, Nat.zero_le _⟩
              have R9 := Lib.hid (HR.out.put (y := ⟨⟨2, 0, [], []⟩, ⟨none, 0, 0⟩, ⟨none, 0, 0⟩⟩) hiy Hst.out (.clash (.inr HF.out)) rfl)
              unfold set4 at N9 E9 B9 P9
              go_roundw
              case rel => exact ⟨i + 1, n, cl, cs, _, _, _, _, by omega, hn, by go_num, rfl, rfl, N9, A9, M9, E9, R9, B9, P9⟩
              case measure => simp [intOf]; omega
            · have y0 : ¬ (y : Int) < 0 := by omega
              have hy' : (y : Int) < (k : Int) := by omega
              cases hall
              · obtain ⟨M, hM⟩ : ∃ M, P.elig[y]? = some M := ⟨_, List.getElem?_eq_getElem (by rw [L1.out]; exact hy)⟩
                have hMb := W1'.out M (List.mem_of_getElem? hM)
                obtain ⟨us, hus⟩ : ∃ us, Hid (us = (memT 64 M).map fun x : Nat => (x : Int)) := ⟨_, Lib.hid rfl⟩
                have HZ : Hid (memZ (eligA P (y : Int)) = us) := Lib.hid (by rw [memZ_64 hM hMb, hus.out])
                have hus5 : us.length ≤ 5 := by rw [← HZ.out]; exact Hm5.out _
                have hM1 : (P.elig.map wv)[y]? = some (.int .u64 (M : Int)) := by rw [List.getElem?_map, hM]; rfl
                have bx := bAl (Below.refl w1.heap.size w1) (.cells #[.int .i64 1, .int .i64 (y : Int), .slice none 0 0, .slice none 0 0] 72)
                have kx := Blk.new w1 72 #[.int .i64 1, .int .i64 (y : Int), .slice none 0 0, .slice none 0 0]
                clear hM
                go_upto_region 30 with fail
                obtain ⟨gx, hgx⟩ : ∃ g, Hid (g = w1.heap.size) := ⟨_, Lib.hid rfl⟩
                rw [← hgx.out] at kx ⊢
                generalize (w1.alloc (.cells #[.int .i64 1, .int .i64 (y : Int), .slice none 0 0, .slice none 0 0] 72)) = wx at bx kx ⊢
                have nx : gl ≠ gx := by have := G1.lt; rw [hgx.out]; omega
                have hgxw : w.heap.size ≤ gx := by rw [hgx.out]; exact B1.size
                have N2 := N1.on bx
                have V12 := own_on V1 bx
                have V22 := (V2.out).on bx
                have B2 := B1.trans (bx.mono B1.size)
                have P2 := P1.on bx
                obtain ⟨be, oe, hA1, hbe, hce⟩ := (he1.below B2) (by intro e; rw [e] at hM1; simp at hM1)
                subst hA1
                have hcM := hce y _ hM1
                have zp : wx.cell? ⟨w.heap.size, 0, none⟩ = some (.slice (some ⟨be, oe, none⟩) k c1) := (P2.cell 0).trans rfl
                have hmem := mem41_any M wx hMb
                rw [← hus.out] at hmem
                clear hce hM1 bx
                go_wp2_with fail
                refine hmem.mono ?_
                rintro e wm ⟨Au, nu, cu, rfl, hou, hnu, bwm⟩
                have hnul := OwnI.len hou
                have mc0 : MC w.heap.size wm.heap.size gx w.heap.size #[.slice (some ⟨be, oe, none⟩) k c1, .slice A2 n2 c2, .slice A3 n3 c3, .slice A4 n4 c4, .slice A5 k c5] #[.int .i64 1, .int .i64 (y : Int), .slice none 0 0, .slice none 0 0] wx.heap.size (.slice Au nu cu) nu us wm (.slice (some ⟨gl, 0, none⟩) (n + 0) cl) (n + 0) (ys ++ List.replicate 0 nd0S) (.slice (some ⟨bs, os, none⟩) (n + 0) cs) (n + 0) vs (sts ++ (us.take 0).map (st.set y)) (.slice none 0 0) 0 ((List.range 0).map fun q => ((n + q : Nat) : Int)) := by
                  have N3 := N2.on bwm
                  rw [List.replicate_zero, List.append_nil, List.take_zero, List.map_nil, List.append_nil, List.range_zero, List.map_nil]
                  exact ⟨N3, fun z hz => ⟨own_blt (N3.nd z hz).ch, own_blt (N3.nd z hz).st⟩, own_on V12 bwm, V22.on bwm, OwnI.nil _ _, fun u _ => Apt.nil2 u, kx.on bwm, fun g hg => by
                    simp [Value.ownBlock] at hg
                    omega, P2.on bwm, hou, own_blt hou⟩
                have B3 := B2.trans (bwm.mono B2.size)
                have hu3 := Hu0.out
                have hus5' : nu ≤ 5 := by omega
                have Hnul := Lib.hid hnul
                obtain ⟨Nm, hNm⟩ : ∃ N, Hid (N = wm.heap.size) := ⟨_, Lib.hid rfl⟩
                have hNw : w.heap.size ≤ Nm := by rw [hNm.out]; exact B3.size
                have hNl : Nm ≤ wm.heap.size := Nat.le_of_eq hNm.out
                rw [← hNm.out] at mc0
                clear hou hmem bwm V12 V22 N2 P2 B2 kx zp hcM V1 V2 S1 B1 P1 N1 G1 hnul
                go_wp2_with fail
                go_loopw [7, 8, 111] (fun v7 v8 v111 wr => ∃ (kk cl' cs' cc : Nat) (Al' As' Ac : Option Addr) (vsk : List Value), kk ≤ nu ∧ v111 = .int .i64 (kk : Int) ∧ v7 = .slice Al' (n + kk) cl' ∧ v8 = .slice As' (n + kk) cs' ∧ MC w.heap.size Nm gx w.heap.size #[.slice (some ⟨be, oe, none⟩) k c1, .slice A2 n2 c2, .slice A3 n3 c3, .slice A4 n4 c4, .slice A5 k c5] #[.int .i64 1, .int .i64 (y : Int), .slice Ac kk cc, .slice none 0 0] wx.heap.size (.slice Au nu cu) nu us wr (.slice Al' (n + kk) cl') (n + kk) (ys ++ List.replicate kk nd0S) (.slice As' (n + kk) cs') (n + kk) vsk (sts ++ (us.take kk).map (st.set y)) (.slice Ac kk cc) kk ((List.range kk).map fun q => ((n + q : Nat) : Int)) ∧ vsk[i]? = some (.slice A' k c') ∧ Nm ≤ wr.heap.size ∧ Below w.heap.size w wr) (fun _ _ v111 _ => nu - (intOf v111).toNat)
                case atStart => exact ⟨0, _, _, _, _, _, _, _, Nat.zero_le _, rfl, rfl, rfl, mc0, hu3, hNl, B3⟩
                case round =>
                  clear mc0 hu3 hNl B3
                  obtain ⟨kk, cl', cs', cc, Al', As', Ac, vsk, hk, rfl, rfl, rfl, mc, hui, hNl, B3⟩ := hrel
                  by_cases hltk : kk < nu
                  · have hltk' : (kk : Int) < (nu : Int) := by omega
                    obtain ⟨b9, o9, u, rfl, hb9, Hu, hcu⟩ := Sees.int (k := kk) (OwnI.sees mc.mu) (by rw [Hnul.out]; exact hltk)
                    obtain ⟨A7, n7, c7, e7, S7⟩ := mc.rows.2 i _ st hui (by rw [List.getElem?_append_left (List.getElem?_eq_some_iff.1 Hst.out).1]; exact Hst.out)
                    injection e7 with e71 e72 e73
                    subst e71 e72 e73
                    have HTk : Hid ((us.take (kk + 1)).map (st.set y) = (us.take kk).map (st.set y) ++ [st.set y u]) := Lib.hid (by rw [List.take_add_one, Hu.out, List.map_append]; rfl)
                    have HTr : Hid ((List.range (kk + 1)).map (fun q => ((n + q : Nat) : Int)) = (List.range kk).map (fun q => ((n + q : Nat) : Int)) ++ [((n + kk : Nat) : Int)]) := Lib.hid (by rw [List.range_succ, List.map_append]; rfl)
                    have ba := bAl (Below.refl wr.heap.size wr) (.cells #[] 3)
                    have hM4 : OwnI (wr.alloc (.cells #[] 3)) wr.heap.size (.slice (some ⟨wr.heap.size, 0, none⟩) 0 0) 0 [] := World.ownsRow_made _ _ _ (Nat.le_refl _) (by unfold maxLen; omega) rfl
                    have hz4 : wr.heap.size ≤ (wr.alloc (.cells #[] 3)).heap.size := ba.size
                    have hs9 := OwnI.sees (OwnI.on S7 ba)
                    go_upto_region 34 with (at_builtin; refine wpL_appI _ rfl (.tmp 115) (.tmp 116) rfl wr.heap.size _ 0 [] rfl hM4 _ A' k c' st rfl Hsl.out hs9 (by omega) hz4 k (by omega) st rfl ?_; intro A8 c8 w8 o8 g8 _)
                    have bw8 : Below wr.heap.size wr w8 := below_app ba hz4 hM4 g8
                    obtain ⟨g8', cs8, rfl, hg8, hbg, hcs8⟩ := OwnI.blk o8 (by omega)
                    have hfg := hbg.frozen y
                    have hcg : w8.cell? ⟨g8', y, none⟩ = some (.int .i64 0) := by
                      rw [hbg.cell]
                      refine hcs8 y (iv 0) ?_
                      have h0 := HQ.out
                      unfold atI at h0
                      rw [List.getElem?_map]
                      have h1 : y < st.length := by rw [Hsl.out]; exact hy
                      rw [List.getElem?_eq_getElem h1] at h0 ⊢
                      rw [show st[y] = 0 from h0]
                      rfl
                    clear hM4 hs9 ba hz4 hcs8 g8 S7
                    go_upto_region 35 with (fail)
                    have o9 : OwnI (w8.setCell ⟨g8', y, none⟩ (.int .i64 u)) wr.heap.size (.slice (some ⟨g8', 0, none⟩) k c8) k (st.set y u) := by
                      have h1 := (World.ownsRow.stored o8 y (.int .i64 u)).1
                      show World.ownsRow _ _ _ _ _ _ _
                      rw [List.map_set]
                      exact h1
                    have b9' : Below wr.heap.size wr (w8.setCell ⟨g8', y, none⟩ (.int .i64 u)) := bw8.setCell (p := ⟨g8', y, none⟩) hg8 _
                    generalize (w8.setCell ⟨g8', y, none⟩ (.int .i64 u)) = w9 at o9 b9' ⊢
                    clear o8 hbg hfg hcg bw8
                    have mc9 := mc.on b9'
                    have B9 := B3.trans (b9'.mono B3.size)
                    have hc9 : Blt wr.heap.size (.slice Ac kk cc) := own_blt mc.ch
                    have ap9 : Apt (.slice (some ⟨g8', 0, none⟩) k c8) (.slice Ac kk cc) := Apt.gt (own_bge o9) hc9
                    have hN9 : Nm ≤ w9.heap.size := Nat.le_trans hNl b9'.size
                    have y2 : w9.cell? ⟨gx, 2, none⟩ = some (.slice Ac kk cc) := (mc9.kx.cell 2).trans rfl
                    clear mc
                    go_upto_region 36 with (at_builtin; refine wpL_appI1k _ rfl (.tmp 123) (.tmp 126) rfl w9 Nm _ kk _ rfl mc9.ch ((n + kk : Nat) : Int) (by first | rfl | (congr 1; simp)) _ rfl rfl (by omega) hN9 (kk + 1) rfl ?_; intro A10 c10 w10 o10 g10 b10 k10; have kx10 := mc9.kx.grown g10 (own_off mc9.ch mc9.kx (by decide)); have y10 : w10.cell? ⟨gx, 2, none⟩ = some (.slice Ac kk cc) := (kx10.cell 2).trans rfl; have f10 := kx10.frozen 2)
                    have mc11 := mc9.child o10 g10 k10
                    have o11 : OwnI (w10.setCell ⟨gx, 2, none⟩ (.slice A10 (kk + 1) c10)) wr.heap.size (.slice (some ⟨g8', 0, none⟩) k c8) k (st.set y u) := by
                      have h1 := OwnI.kept o9 g10 ap9
                      exact ownsRow_setCell_other h1 (a := ⟨gx, 2, none⟩) (own_off h1 kx10 (by decide)) _
                    have ap11 : Apt (.slice (some ⟨g8', 0, none⟩) k c8) (.slice A10 (kk + 1) c10) := own_ap o9 ap9 k10 (Nat.le_succ _)
                    have B11 := (B9.trans (b10.mono hNw)).setCell (p := ⟨gx, 2, none⟩) hgxw (.slice A10 (kk + 1) c10)
                    have hN11 : Nm ≤ (w10.setCell ⟨gx, 2, none⟩ (.slice A10 (kk + 1) c10)).heap.size := by rw [setCell_size]; exact Nat.le_trans hN9 b10.size
                    rw [← HTr.out] at mc11
                    generalize (w10.setCell ⟨gx, 2, none⟩ (.slice A10 (kk + 1) c10)) = w11 at mc11 o11 B11 hN11 ⊢
                    clear kx10 y10 f10 y2 mc9 o9 o10 g10 b10 k10 ap9 hc9 B9 hN9 b9'
                    go_upto_region 37 with (at_builtin; refine wpL_row1 72 55 _ 4 64 rnode_info Tryd.underlying55 rfl (by omega) (by omega) _ rfl (.tmp 129) (.tmp 131) rfl w11 w.heap.size _ (n + kk) _ rfl mc11.nd.row #[.int .i64 0, .int .i64 0, .slice none 0 0, .slice none 0 0] rfl _ rfl rfl rfl (by simp [Value.oneCell']) (by omega) B11.size (n + (kk + 1)) rfl ?_; intro A12 c12 w12 o12 g12 b12 k12)
                    have o13 : OwnI w12 wr.heap.size (.slice (some ⟨g8', 0, none⟩) k c8) k (st.set y u) := OwnI.kept o11 g12 (own_apart o11 mc11.nd.row (by decide))
                    have mc12 := mc11.node o12 g12 k12
                    have B12 := B11.trans b12
                    have hN12 : Nm ≤ w12.heap.size := Nat.le_trans hN11 b12.size
                    have hz12 : wr.heap.size ≥ w.heap.size := B3.size
                    clear mc11 o11 o12 g12 b12 k12 B11 hN11
                    go_wp2_with (at_builtin; refine wpL_row1 33 57 _ 1 24 sl_info Tryd.underlying57 rfl (by omega) (by omega) _ rfl (.tmp 133) (.tmp 135) rfl w12 w.heap.size _ (n + kk) _ rfl mc12.row #[.slice (some ⟨g8', 0, none⟩) k c8] rfl _ rfl rfl rfl (by simp [Value.oneCell']) (by omega) B12.size (n + (kk + 1)) rfl ?_; intro A13 c13 w13 o14 g13 b13 k13)
                    have mc13 := mc12.state (own_less o13 hz12) ap11 o14 g13
                    rw [List.append_assoc, ← List.replicate_succ', List.append_assoc, ← HTk.out] at mc13
                    go_roundw
                    case rel => exact ⟨kk + 1, _, _, _, _, _, _, _, by omega, by go_num, rfl, rfl, mc13, by rw [List.getElem?_append_left (List.getElem?_eq_some_iff.1 hui).1]; exact hui, Nat.le_trans hN12 b13.size, B12.trans b13⟩
                    case measure => simp [intOf]; omega
                  · obtain rfl : kk = nu := by omega
                    have hltk' : ¬ (kk : Int) < (kk : Int) := by omega
                    have hfin : us.take kk = us := List.take_of_length_le (by rw [Hnul.out]; exact Nat.le_refl _)
                    rw [hfin] at mc
                    obtain ⟨gl2, cgl2, rfl, hgl2, hgb2⟩ := own_blk mc.nd.row (by omega)
                    have hi2 : i < (ys ++ List.replicate kk nd0S).length := by simp; omega
                    obtain ⟨yi, hyi⟩ : ∃ y, (ys ++ List.replicate kk nd0S)[i]? = some y := ⟨_, List.getElem?_eq_getElem hi2⟩
                    obtain ⟨b9, o9, e9, _, q0, q1, q2, q3⟩ := mc.nd.get hyi
                    injection e9 with e9
                    injection e9 with e91 e92 _
                    subst e91 e92
                    simp only [Nat.zero_add] at q0 q1 q2 q3
                    have f0 := hgb2.frozen (i * 4)
                    have f1 := hgb2.frozen (i * 4 + 1)
                    have f2 := hgb2.frozen (i * 4 + 2)
                    have f3 := hgb2.frozen (i * 4 + 3)
                    have s0 : wr.cell? ⟨gx, 0, none⟩ = some (.int .i64 1) := (mc.kx.cell 0).trans rfl
                    have s1 : wr.cell? ⟨gx, 1, none⟩ = some (.int .i64 (y : Int)) := (mc.kx.cell 1).trans rfl
                    have s2 : wr.cell? ⟨gx, 2, none⟩ = some (.slice Ac kk cc) := (mc.kx.cell 2).trans rfl
                    have s3 : wr.cell? ⟨gx, 3, none⟩ = some (.slice none 0 0) := (mc.kx.cell 3).trans rfl
                    have hltn : i < n + kk := by omega
                    have hltn' : (i : Int) < (n : Int) + (kk : Int) := by omega
                    clear hyi hfin
                    go_wp2_with fail
                    have N9 := OwnNs.store (i := i) (y := ⟨⟨1, (y : Int), (List.range kk).map (fun q => ((n + q : Nat) : Int)), []⟩, ⟨Ac, kk, cc⟩, ⟨none, 0, 0⟩⟩) mc.nd (by decide) hltn ⟨by show 1 < 256; omega, own_less mc.ch hNw, OwnI.nil _ _, by show kk ≤ 1000000; omega, by show 0 ≤ 1000000; omega⟩
                    have A9 := (hA.app0 kk).set (N := Nm) (i := i) (y := ⟨⟨1, (y : Int), (List.range kk).map (fun q => ((n + q : Nat) : Int)), []⟩, ⟨Ac, kk, cc⟩, ⟨none, 0, 0⟩⟩) (fun j z _ hz => mc.ndl z (List.mem_of_getElem? hz)) ⟨own_bge mc.ch, Bge.nil _⟩ ⟨Apt.nil2 _, Apt.nil _⟩
                    have E9 : OwnLL (set4 wr gl2 (i * 4) (.int .i64 ((1 : Nat) : Int)) (.int .i64 (y : Int)) (.slice Ac kk cc) (.slice none 0 0)) w.heap.size (.slice As' (n + kk) cs') (n + kk) (sts ++ us.map (st.set y)) := OwnLL.set4 ⟨vsk, mc.row, mc.rows⟩ hgb2 (by decide) (by decide) _ _ _ _
                    have B9 := below_set4 (g := gl2) (o := i * 4) B3 hgl2 (.int .i64 ((1 : Nat) : Int)) (.int .i64 (y : Int)) (.slice Ac kk cc) (.slice none 0 0)
                    have P9 := far_set4 (o := i * 4) (g' := gl2) mc.kp (mc.kp.apart hgb2 (by decide)) (.int .i64 ((1 : Nat) : Int)) (.int .i64 (y : Int)) (.slice Ac kk cc) (.slice none 0 0)
                    have M9 := (hSm.app0 kk).set (i := i) (y := ⟨⟨1, (y : Int), (List.range kk).map (fun q => ((n + q : Nat) : Int)), []⟩, ⟨Ac, kk, cc⟩, ⟨none, 0, 0⟩⟩) ⟨by show kk ≤ 64; omega, Nat.zero_le _⟩
                    have R9 : Hid (RefIn P (((ys ++ List.replicate kk nd0S).set i ⟨⟨1, (y : Int), (List.range kk).map (fun q => ((n + q : Nat) : Int)), []⟩, ⟨Ac, kk, cc⟩, ⟨none, 0, 0⟩⟩).map (·.x)) (sts ++ us.map (st.set y)) (i + 1)) := Lib.hid (by
                      have h1 := HR.out.branch Hok.out (by simpa using hiy) Hst.out (show y < st.length by rw [Hsl.out]; exact hy) HQ.out (Hm5.out _)
                      rw [HZ.out, Hnul.out, List.length_map, hnl] at h1
                      rw [map_set, List.map_append, List.map_replicate]
                      exact h1)
                    unfold set4 at N9 E9 B9 P9
                    have hsm := R9.out.small
                    have hln9 := N9.len
                    go_roundw
                    case rel => exact ⟨i + 1, n + kk, _, _, _, _, _, _, by omega, by rw [← hln9]; simpa using hsm, by go_num, rfl, rfl, N9, A9, M9, E9, R9, B9, P9⟩
                    case measure => simp [intOf]; omega
              · go_wp2_with fail
                go_loopw [14, 75] (fun v14 v75 wr => ∃ q : Nat, q ≤ k ∧ v75 = .int .i64 (q : Int) ∧ ((v14 = .bool false ∧ OwnNs .i64 72 wr w.heap.size (.slice (some ⟨gl, 0, none⟩) n cl) n ys ∧ wr.ownsRow w.heap.size 33 1 (.slice (some ⟨bs, os, none⟩) n cs) n vs ∧ Hid (RowsI wr w.heap.size vs sts) ∧ OwnI wr w.heap.size (.slice A' k c') k st ∧ Below w.heap.size w wr ∧ Blk wr w.heap.size 39 #[.slice A1 k c1, .slice A2 n2 c2, .slice A3 n3 c3, .slice A4 n4 c4, .slice A5 k c5]) ∨
                  (v14 = .bool true ∧ ∃ ys' : List NdS, OwnNs .i64 72 wr w.heap.size (.slice (some ⟨gl, 0, none⟩) n cl) n ys' ∧ ApNs ys' ∧ SmNs 64 ys' ∧ OwnLL wr w.heap.size (.slice (some ⟨bs, os, none⟩) n cs) n sts ∧ Hid (RefIn P (ys'.map (·.x)) sts (i + 1)) ∧ Below w.heap.size w wr ∧ Blk wr w.heap.size 39 #[.slice A1 k c1, .slice A2 n2 c2, .slice A3 n3 c3, .slice A4 n4 c4, .slice A5 k c5]))) (fun _ v75 _ => k - (intOf v75).toNat)
                case atStart => exact ⟨0, Nat.zero_le _, rfl, .inl ⟨rfl, N1, V1, V2, S1, B1, P1⟩⟩
                case round =>
                  clear N1 V1 V2 S1 B1 P1 G1
                  obtain ⟨q, hq, rfl, hcase⟩ := hrel
                  by_cases hltq : q < k
                  · have hltq' : (q : Int) < (k : Int) := by omega
                    rcases hcase with ⟨rfl, N1, V1, V2, S1, B1, P1⟩ | ⟨rfl, ys', N1, A1', M1', E1, R1, B1, P1⟩
                    · by_cases hqy : q = y
                      · subst hqy
                        go_wp2_with fail
                        go_roundw
                        case rel => exact ⟨q + 1, by omega, by go_num, .inl ⟨rfl, N1, V1, V2, S1, B1, P1⟩⟩
                        case measure => simp [intOf]; omega
                      · have hqb : ((q : Int) != (y : Int)) = true := by simp; omega
                        have bl := bAl (Below.refl wr.heap.size wr) (.cells #[.int .i64 (y : Int), .int .i64 (q : Int)] 3)
                        have oL : OwnI (wr.alloc (.cells #[.int .i64 (y : Int), .int .i64 (q : Int)] 3)) wr.heap.size (.slice (some ⟨wr.heap.size, 0, none⟩) 2 2) 2 [(y : Int), (q : Int)] := OwnI.lit wr #[.int .i64 (y : Int), .int .i64 (q : Int)] 2 _ (by unfold maxLen; omega) rfl rfl _ rfl
                        have Bl := B1.trans (bl.mono B1.size)
                        have hh := hha _ Bl (some ⟨wr.heap.size, 0, none⟩) A' 2 2 k c' [(y : Int), (q : Int)] st (OwnI.sees oL) rfl (by omega) (Nat.le_refl _) (OwnI.sees (OwnI.on S1 bl)) Hsl.out Hpl.out
                        obtain ⟨p0, p1, p2, p3, p4⟩ := box wr P1
                        clear hqy oL
                        cases hhb : hallB P [(y : Int), (q : Int)] st
                        · rw [hhb] at hh
                          go_wp2_with fail
                          refine hh.mono ?_
                          rintro e w2 ⟨rfl, bw2⟩
                          have bb := bl.trans (bw2.mono bl.size)
                          go_wp2_with fail
                          go_roundw
                          case rel => exact ⟨q + 1, by omega, by go_num, .inl ⟨rfl, N1.on bb, own_on V1 bb, Lib.hid (V2.out.on bb), S1.on bb, B1.trans (bb.mono B1.size), P1.on bb⟩⟩
                          case measure => simp [intOf]; omega
                        · rw [hhb] at hh
                          go_wp2_with fail
                          refine hh.mono ?_
                          rintro e w2 ⟨rfl, bw2⟩
                          have bb := bl.trans (bw2.mono bl.size)
                          have N2 := N1.on bb
                          obtain ⟨g3, cg3, e3, _, G2⟩ := own_blk N2.row (by omega)
                          injection e3 with e3
                          injection e3 with e3 _ _
                          subst e3
                          have V12 := own_on V1 bb
                          have V22 := Lib.hid (V2.out.on bb)
                          have B2 := B1.trans (bb.mono B1.size)
                          have P2 := P1.on bb
                          clear hh N1 V1 V2 S1 B1 P1 p0 p1 p2 p3 p4 bl Bl bb bw2
                          obtain ⟨yi, hyi⟩ : ∃ y, ys[i]? = some y := ⟨_, List.getElem?_eq_getElem hiy⟩
                          have bl := bAl (Below.refl w2.heap.size w2) (.cells #[.int .i64 (y : Int), .int .i64 (q : Int)] 3)
                          have N3 := N2.on bl
                          have G3 := G2.on bl
                          have oL : OwnI (w2.alloc (.cells #[.int .i64 (y : Int), .int .i64 (q : Int)] 3)) w2.heap.size (.slice (some ⟨w2.heap.size, 0, none⟩) 2 2) 2 [(y : Int), (q : Int)] := OwnI.lit w2 #[.int .i64 (y : Int), .int .i64 (q : Int)] 2 _ (by unfold maxLen; omega) rfl rfl _ rfl
                          obtain ⟨b9, o9, e9, _, q0, q1, q2, q3⟩ := N3.get hyi
                          injection e9 with e9
                          injection e9 with e91 e92 _
                          subst e91 e92
                          simp only [Nat.zero_add] at q0 q1 q2 q3
                          have f0 := G3.frozen (i * 4)
                          have f1 := G3.frozen (i * 4 + 1)
                          have f2 := G3.frozen (i * 4 + 2)
                          have f3 := G3.frozen (i * 4 + 3)
                          clear hyi
                          go_wp2_with fail
                          have V13 := own_on V12 bl
                          have V23 := V22.out.on bl
                          have B3 := B2.trans (bl.mono B2.size)
                          have P3 := P2.on bl
                          have hzw : w.heap.size ≤ w2.heap.size := B2.size
                          have N9 := OwnNs.store (i := i) (y := ⟨⟨3, 0, [], [(y : Int), (q : Int)]⟩, ⟨none, 0, 0⟩, ⟨some ⟨w2.heap.size, 0, none⟩, 2, 2⟩⟩) N3 (by decide) hlt ⟨by show 3 < 256; omega, OwnI.nil _ _, own_less oL hzw, by show 0 ≤ 1000000; omega, by show 2 ≤ 1000000; omega⟩
                          have A9 := hA.set (N := w2.heap.size) (i := i) (y := ⟨⟨3, 0, [], [(y : Int), (q : Int)]⟩, ⟨none, 0, 0⟩, ⟨some ⟨w2.heap.size, 0, none⟩, 2, 2⟩⟩) (fun j z _ hz => ⟨own_blt (N2.nd z (List.mem_of_getElem? hz)).ch, own_blt (N2.nd z (List.mem_of_getElem? hz)).st⟩) ⟨Bge.nil _, own_bge oL⟩ ⟨Apt.nil _, Apt.nil2 _⟩
                          have E9 : OwnLL (set4 (w2.alloc (.cells #[.int .i64 (y : Int), .int .i64 (q : Int)] 3)) gl (i * 4) (.int .i64 ((3 : Nat) : Int)) (.int .i64 0) (.slice none 0 0) (.slice (some ⟨w2.heap.size, 0, none⟩) 2 2)) w.heap.size (.slice (some ⟨bs, os, none⟩) n cs) n sts := OwnLL.set4 ⟨vs, V13, V23⟩ G3 (by decide) (by decide) _ _ _ _
                          have B9 := below_set4 (g := gl) (o := i * 4) B3 hgl (.int .i64 ((3 : Nat) : Int)) (.int .i64 0) (.slice none 0 0) (.slice (some ⟨w2.heap.size, 0, none⟩) 2 2)
                          have P9 := far_set4 (o := i * 4) (g' := gl) P3 (P3.apart G3 (by decide)) (.int .i64 ((3 : Nat) : Int)) (.int .i64 0) (.slice none 0 0) (.slice (some ⟨w2.heap.size, 0, none⟩) 2 2)
                          have M9 := hSm.set (i := i) (y := ⟨⟨3, 0, [], [(y : Int), (q : Int)]⟩, ⟨none, 0, 0⟩, ⟨some ⟨w2.heap.size, 0, none⟩, 2, 2⟩⟩) ⟨Nat.zero_le _, by show 2 ≤ 64; omega⟩
                          have R9 := Lib.hid (HR.out.put (y := ⟨⟨3, 0, [], [(y : Int), (q : Int)]⟩, ⟨none, 0, 0⟩, ⟨some ⟨w2.heap.size, 0, none⟩, 2, 2⟩⟩) hiy Hst.out (.hall _ hhb) rfl)
                          unfold set4 at N9 E9 B9 P9
                          go_roundw
                          case rel => exact ⟨q + 1, by omega, by go_num, .inr ⟨rfl, _, N9, A9, M9, E9, R9, B9, P9⟩⟩
                          case measure => simp [intOf]; omega
                    · go_wp2_with fail
                      go_roundw
                      case rel => exact ⟨q + 1, by omega, by go_num, .inr ⟨rfl, ys', N1, A1', M1', E1, R1, B1, P1⟩⟩
                      case measure => simp [intOf]; omega
                  · obtain rfl : q = k := by omega
                    have hltq' : ¬ (q : Int) < (q : Int) := by omega
                    rcases hcase with ⟨rfl, N1, V1, V2, S1, B1, P1⟩ | ⟨rfl, ys', N1, A1', M1', E1, R1, B1, P1⟩
                    · obtain ⟨g3, cg3, e3, _, G1⟩ := own_blk N1.row (by omega)
                      injection e3 with e3
                      injection e3 with e3 _ _
                      subst e3
                      obtain ⟨M, hM⟩ : ∃ M, P.elig[y]? = some M := ⟨_, List.getElem?_eq_getElem (by rw [L1.out]; exact hy)⟩
                      have hMb := W1'.out M (List.mem_of_getElem? hM)
                      obtain ⟨us, hus⟩ : ∃ us, Hid (us = (memT 64 M).map fun x : Nat => (x : Int)) := ⟨_, Lib.hid rfl⟩
                      have HZ : Hid (memZ (eligA P (y : Int)) = us) := Lib.hid (by rw [memZ_64 hM hMb, hus.out])
                      have hus5 : us.length ≤ 5 := by rw [← HZ.out]; exact Hm5.out _
                      have hM1 : (P.elig.map wv)[y]? = some (.int .u64 (M : Int)) := by rw [List.getElem?_map, hM]; rfl
                      have bx := bAl (Below.refl wr.heap.size wr) (.cells #[.int .i64 1, .int .i64 (y : Int), .slice none 0 0, .slice none 0 0] 72)
                      have kx := Blk.new wr 72 #[.int .i64 1, .int .i64 (y : Int), .slice none 0 0, .slice none 0 0]
                      clear hM
                      go_upto_region 30 with fail
                      obtain ⟨gx, hgx⟩ : ∃ g, Hid (g = wr.heap.size) := ⟨_, Lib.hid rfl⟩
                      rw [← hgx.out] at kx ⊢
                      generalize (wr.alloc (.cells #[.int .i64 1, .int .i64 (y : Int), .slice none 0 0, .slice none 0 0] 72)) = wx at bx kx ⊢
                      have nx : gl ≠ gx := by have := G1.lt; rw [hgx.out]; omega
                      have hgxw : w.heap.size ≤ gx := by rw [hgx.out]; exact B1.size
                      have N2 := N1.on bx
                      have V12 := own_on V1 bx
                      have V22 := (V2.out).on bx
                      have B2 := B1.trans (bx.mono B1.size)
                      have P2 := P1.on bx
                      obtain ⟨be, oe, hA1, hbe, hce⟩ := (he1.below B2) (by intro e; rw [e] at hM1; simp at hM1)
                      subst hA1
                      have hcM := hce y _ hM1
                      have zp : wx.cell? ⟨w.heap.size, 0, none⟩ = some (.slice (some ⟨be, oe, none⟩) q c1) := (P2.cell 0).trans rfl
                      have hmem := mem41_any M wx hMb
                      rw [← hus.out] at hmem
                      clear hce hM1 bx
                      go_wp2_with fail
                      refine hmem.mono ?_
                      rintro e wm ⟨Au, nu, cu, rfl, hou, hnu, bwm⟩
                      have hnul := OwnI.len hou
                      have mc0 : MC w.heap.size wm.heap.size gx w.heap.size #[.slice (some ⟨be, oe, none⟩) q c1, .slice A2 n2 c2, .slice A3 n3 c3, .slice A4 n4 c4, .slice A5 q c5] #[.int .i64 1, .int .i64 (y : Int), .slice none 0 0, .slice none 0 0] wx.heap.size (.slice Au nu cu) nu us wm (.slice (some ⟨gl, 0, none⟩) (n + 0) cl) (n + 0) (ys ++ List.replicate 0 nd0S) (.slice (some ⟨bs, os, none⟩) (n + 0) cs) (n + 0) vs (sts ++ (us.take 0).map (st.set y)) (.slice none 0 0) 0 ((List.range 0).map fun q => ((n + q : Nat) : Int)) := by
                        have N3 := N2.on bwm
                        rw [List.replicate_zero, List.append_nil, List.take_zero, List.map_nil, List.append_nil, List.range_zero, List.map_nil]
                        exact ⟨N3, fun z hz => ⟨own_blt (N3.nd z hz).ch, own_blt (N3.nd z hz).st⟩, own_on V12 bwm, V22.on bwm, OwnI.nil _ _, fun u _ => Apt.nil2 u, kx.on bwm, fun g hg => by
                          simp [Value.ownBlock] at hg
                          omega, P2.on bwm, hou, own_blt hou⟩
                      have B3 := B2.trans (bwm.mono B2.size)
                      have hu3 := Hu0.out
                      have hus5' : nu ≤ 5 := by omega
                      have Hnul := Lib.hid hnul
                      obtain ⟨Nm, hNm⟩ : ∃ N, Hid (N = wm.heap.size) := ⟨_, Lib.hid rfl⟩
                      have hNw : w.heap.size ≤ Nm := by rw [hNm.out]; exact B3.size
                      have hNl : Nm ≤ wm.heap.size := Nat.le_of_eq hNm.out
                      rw [← hNm.out] at mc0
                      clear hou hmem bwm V12 V22 N2 P2 B2 kx zp hcM V1 V2 S1 B1 P1 N1 G1 hnul
                      go_wp2_with fail
                      go_loopw [7, 8, 111] (fun v7 v8 v111 wr => ∃ (kk cl' cs' cc : Nat) (Al' As' Ac : Option Addr) (vsk : List Value), kk ≤ nu ∧ v111 = .int .i64 (kk : Int) ∧ v7 = .slice Al' (n + kk) cl' ∧ v8 = .slice As' (n + kk) cs' ∧ MC w.heap.size Nm gx w.heap.size #[.slice (some ⟨be, oe, none⟩) q c1, .slice A2 n2 c2, .slice A3 n3 c3, .slice A4 n4 c4, .slice A5 q c5] #[.int .i64 1, .int .i64 (y : Int), .slice Ac kk cc, .slice none 0 0] wx.heap.size (.slice Au nu cu) nu us wr (.slice Al' (n + kk) cl') (n + kk) (ys ++ List.replicate kk nd0S) (.slice As' (n + kk) cs') (n + kk) vsk (sts ++ (us.take kk).map (st.set y)) (.slice Ac kk cc) kk ((List.range kk).map fun q => ((n + q : Nat) : Int)) ∧ vsk[i]? = some (.slice A' q c') ∧ Nm ≤ wr.heap.size ∧ Below w.heap.size w wr) (fun _ _ v111 _ => nu - (intOf v111).toNat)
                      case atStart => exact ⟨0, _, _, _, _, _, _, _, Nat.zero_le _, rfl, rfl, rfl, mc0, hu3, hNl, B3⟩
                      case round =>
                        clear mc0 hu3 hNl B3
                        obtain ⟨kk, cl', cs', cc, Al', As', Ac, vsk, hk, rfl, rfl, rfl, mc, hui, hNl, B3⟩ := hrel
                        by_cases hltk : kk < nu
                        · have hltk' : (kk : Int) < (nu : Int) := by omega
                          obtain ⟨b9, o9, u, rfl, hb9, Hu, hcu⟩ := Sees.int (k := kk) (OwnI.sees mc.mu) (by rw [Hnul.out]; exact hltk)
                          obtain ⟨A7, n7, c7, e7, S7⟩ := mc.rows.2 i _ st hui (by rw [List.getElem?_append_left (List.getElem?_eq_some_iff.1 Hst.out).1]; exact Hst.out)
                          injection e7 with e71 e72 e73
                          subst e71 e72 e73
                          have HTk : Hid ((us.take (kk + 1)).map (st.set y) = (us.take kk).map (st.set y) ++ [st.set y u]) := Lib.hid (by rw [List.take_add_one, Hu.out, List.map_append]; rfl)
                          have HTr : Hid ((List.range (kk + 1)).map (fun q => ((n + q : Nat) : Int)) = (List.range kk).map (fun q => ((n + q : Nat) : Int)) ++ [((n + kk : Nat) : Int)]) := Lib.hid (by rw [List.range_succ, List.map_append]; rfl)
                          have ba := bAl (Below.refl wr.heap.size wr) (.cells #[] 3)
                          have hM4 : OwnI (wr.alloc (.cells #[] 3)) wr.heap.size (.slice (some ⟨wr.heap.size, 0, none⟩) 0 0) 0 [] := World.ownsRow_made _ _ _ (Nat.le_refl _) (by unfold maxLen; omega) rfl
                          have hz4 : wr.heap.size ≤ (wr.alloc (.cells #[] 3)).heap.size := ba.size
                          have hs9 := OwnI.sees (OwnI.on S7 ba)
                          go_upto_region 34 with (at_builtin; refine wpL_appI _ rfl (.tmp 115) (.tmp 116) rfl wr.heap.size _ 0 [] rfl hM4 _ A' q c' st rfl Hsl.out hs9 (by omega) hz4 q (by omega) st rfl ?_; intro A8 c8 w8 o8 g8 _)
                          have bw8 : Below wr.heap.size wr w8 := below_app ba hz4 hM4 g8
                          obtain ⟨g8', cs8, rfl, hg8, hbg, hcs8⟩ := OwnI.blk o8 (by omega)
                          have hfg := hbg.frozen y
                          have hcg : w8.cell? ⟨g8', y, none⟩ = some (.int .i64 0) := by
                            rw [hbg.cell]
                            refine hcs8 y (iv 0) ?_
                            have h0 := HQ.out
                            unfold atI at h0
                            rw [List.getElem?_map]
                            have h1 : y < st.length := by rw [Hsl.out]; exact hy
                            rw [List.getElem?_eq_getElem h1] at h0 ⊢
                            rw [show st[y] = 0 from h0]
                            rfl
                          clear hM4 hs9 ba hz4 hcs8 g8 S7
                          go_upto_region 35 with (fail)
                          have o9 : OwnI (w8.setCell ⟨g8', y, none⟩ (.int .i64 u)) wr.heap.size (.slice (some ⟨g8', 0, none⟩) q c8) q (st.set y u) := by
                            have h1 := (World.ownsRow.stored o8 y (.int .i64 u)).1
                            show World.ownsRow _ _ _ _ _ _ _
                            rw [List.map_set]
                            exact h1
                          have b9' : Below wr.heap.size wr (w8.setCell ⟨g8', y, none⟩ (.int .i64 u)) := bw8.setCell (p := ⟨g8', y, none⟩) hg8 _
                          generalize (w8.setCell ⟨g8', y, none⟩ (.int .i64 u)) = w9 at o9 b9' ⊢
                          clear o8 hbg hfg hcg bw8
                          have mc9 := mc.on b9'
                          have B9 := B3.trans (b9'.mono B3.size)
                          have hc9 : Blt wr.heap.size (.slice Ac kk cc) := own_blt mc.ch
                          have ap9 : Apt (.slice (some ⟨g8', 0, none⟩) q c8) (.slice Ac kk cc) := Apt.gt (own_bge o9) hc9
                          have hN9 : Nm ≤ w9.heap.size := Nat.le_trans hNl b9'.size
                          have y2 : w9.cell? ⟨gx, 2, none⟩ = some (.slice Ac kk cc) := (mc9.kx.cell 2).trans rfl
                          clear mc
                          go_upto_region 36 with (at_builtin; refine wpL_appI1k _ rfl (.tmp 123) (.tmp 126) rfl w9 Nm _ kk _ rfl mc9.ch ((n + kk : Nat) : Int) (by first | rfl | (congr 1; simp)) _ rfl rfl (by omega) hN9 (kk + 1) rfl ?_; intro A10 c10 w10 o10 g10 b10 k10; have kx10 := mc9.kx.grown g10 (own_off mc9.ch mc9.kx (by decide)); have y10 : w10.cell? ⟨gx, 2, none⟩ = some (.slice Ac kk cc) := (kx10.cell 2).trans rfl; have f10 := kx10.frozen 2)
                          have mc11 := mc9.child o10 g10 k10
                          have o11 : OwnI (w10.setCell ⟨gx, 2, none⟩ (.slice A10 (kk + 1) c10)) wr.heap.size (.slice (some ⟨g8', 0, none⟩) q c8) q (st.set y u) := by
                            have h1 := OwnI.kept o9 g10 ap9
                            exact ownsRow_setCell_other h1 (a := ⟨gx, 2, none⟩) (own_off h1 kx10 (by decide)) _
                          have ap11 : Apt (.slice (some ⟨g8', 0, none⟩) q c8) (.slice A10 (kk + 1) c10) := own_ap o9 ap9 k10 (Nat.le_succ _)
                          have B11 := (B9.trans (b10.mono hNw)).setCell (p := ⟨gx, 2, none⟩) hgxw (.slice A10 (kk + 1) c10)
                          have hN11 : Nm ≤ (w10.setCell ⟨gx, 2, none⟩ (.slice A10 (kk + 1) c10)).heap.size := by rw [setCell_size]; exact Nat.le_trans hN9 b10.size
                          rw [← HTr.out] at mc11
                          generalize (w10.setCell ⟨gx, 2, none⟩ (.slice A10 (kk + 1) c10)) = w11 at mc11 o11 B11 hN11 ⊢
                          clear kx10 y10 f10 y2 mc9 o9 o10 g10 b10 k10 ap9 hc9 B9 hN9 b9'
                          go_upto_region 37 with (at_builtin; refine wpL_row1 72 55 _ 4 64 rnode_info Tryd.underlying55 rfl (by omega) (by omega) _ rfl (.tmp 129) (.tmp 131) rfl w11 w.heap.size _ (n + kk) _ rfl mc11.nd.row #[.int .i64 0, .int .i64 0, .slice none 0 0, .slice none 0 0] rfl _ rfl rfl rfl (by simp [Value.oneCell']) (by omega) B11.size (n + (kk + 1)) rfl ?_; intro A12 c12 w12 o12 g12 b12 k12)
                          have o13 : OwnI w12 wr.heap.size (.slice (some ⟨g8', 0, none⟩) q c8) q (st.set y u) := OwnI.kept o11 g12 (own_apart o11 mc11.nd.row (by decide))
                          have mc12 := mc11.node o12 g12 k12
                          have B12 := B11.trans b12
                          have hN12 : Nm ≤ w12.heap.size := Nat.le_trans hN11 b12.size
                          have hz12 : wr.heap.size ≥ w.heap.size := B3.size
                          clear mc11 o11 o12 g12 b12 k12 B11 hN11
                          go_wp2_with (at_builtin; refine wpL_row1 33 57 _ 1 24 sl_info Tryd.underlying57 rfl (by omega) (by omega) _ rfl (.tmp 133) (.tmp 135) rfl w12 w.heap.size _ (n + kk) _ rfl mc12.row #[.slice (some ⟨g8', 0, none⟩) q c8] rfl _ rfl rfl rfl (by simp [Value.oneCell']) (by omega) B12.size (n + (kk + 1)) rfl ?_; intro A13 c13 w13 o14 g13 b13 k13)
                          have mc13 := mc12.state (own_less o13 hz12) ap11 o14 g13
                          rw [List.append_assoc, ← List.replicate_succ', List.append_assoc, ← HTk.out] at mc13
                          go_roundw
                          case rel => exact ⟨kk + 1, _, _, _, _, _, _, _, by omega, by go_num, rfl, rfl, mc13, by rw [List.getElem?_append_left (List.getElem?_eq_some_iff.1 hui).1]; exact hui, Nat.le_trans hN12 b13.size, B12.trans b13⟩
                          case measure => simp [intOf]; omega
                        · obtain rfl : kk = nu := by omega
                          have hltk' : ¬ (kk : Int) < (kk : Int) := by omega
                          have hfin : us.take kk = us := List.take_of_length_le (by rw [Hnul.out]; exact Nat.le_refl _)
                          rw [hfin] at mc
                          obtain ⟨gl2, cgl2, rfl, hgl2, hgb2⟩ := own_blk mc.nd.row (by omega)
                          have hi2 : i < (ys ++ List.replicate kk nd0S).length := by simp; omega
                          obtain ⟨yi, hyi⟩ : ∃ y, (ys ++ List.replicate kk nd0S)[i]? = some y := ⟨_, List.getElem?_eq_getElem hi2⟩
                          obtain ⟨b9, o9, e9, _, q0, q1, q2, q3⟩ := mc.nd.get hyi
                          injection e9 with e9
                          injection e9 with e91 e92 _
                          subst e91 e92
                          simp only [Nat.zero_add] at q0 q1 q2 q3
                          have f0 := hgb2.frozen (i * 4)
                          have f1 := hgb2.frozen (i * 4 + 1)
                          have f2 := hgb2.frozen (i * 4 + 2)
                          have f3 := hgb2.frozen (i * 4 + 3)
                          have s0 : wr.cell? ⟨gx, 0, none⟩ = some (.int .i64 1) := (mc.kx.cell 0).trans rfl
                          have s1 : wr.cell? ⟨gx, 1, none⟩ = some (.int .i64 (y : Int)) := (mc.kx.cell 1).trans rfl
                          have s2 : wr.cell? ⟨gx, 2, none⟩ = some (.slice Ac kk cc) := (mc.kx.cell 2).trans rfl
                          have s3 : wr.cell? ⟨gx, 3, none⟩ = some (.slice none 0 0) := (mc.kx.cell 3).trans rfl
                          have hltn : i < n + kk := by omega
                          have hltn' : (i : Int) < (n : Int) + (kk : Int) := by omega
                          clear hyi hfin
                          go_wp2_with fail
                          have N9 := OwnNs.store (i := i) (y := ⟨⟨1, (y : Int), (List.range kk).map (fun q => ((n + q : Nat) : Int)), []⟩, ⟨Ac, kk, cc⟩, ⟨none, 0, 0⟩⟩) mc.nd (by decide) hltn ⟨by show 1 < 256; omega, own_less mc.ch hNw, OwnI.nil _ _, by show kk ≤ 1000000; omega, by show 0 ≤ 1000000; omega⟩
                          have A9 := (hA.app0 kk).set (N := Nm) (i := i) (y := ⟨⟨1, (y : Int), (List.range kk).map (fun q => ((n + q : Nat) : Int)), []⟩, ⟨Ac, kk, cc⟩, ⟨none, 0, 0⟩⟩) (fun j z _ hz => mc.ndl z (List.mem_of_getElem? hz)) ⟨own_bge mc.ch, Bge.nil _⟩ ⟨Apt.nil2 _, Apt.nil _⟩
                          have E9 : OwnLL (set4 wr gl2 (i * 4) (.int .i64 ((1 : Nat) : Int)) (.int .i64 (y : Int)) (.slice Ac kk cc) (.slice none 0 0)) w.heap.size (.slice As' (n + kk) cs') (n + kk) (sts ++ us.map (st.set y)) := OwnLL.set4 ⟨vsk, mc.row, mc.rows⟩ hgb2 (by decide) (by decide) _ _ _ _
                          have B9 := below_set4 (g := gl2) (o := i * 4) B3 hgl2 (.int .i64 ((1 : Nat) : Int)) (.int .i64 (y : Int)) (.slice Ac kk cc) (.slice none 0 0)
                          have P9 := far_set4 (o := i * 4) (g' := gl2) mc.kp (mc.kp.apart hgb2 (by decide)) (.int .i64 ((1 : Nat) : Int)) (.int .i64 (y : Int)) (.slice Ac kk cc) (.slice none 0 0)
                          have M9 := (hSm.app0 kk).set (i := i) (y := ⟨⟨1, (y : Int), (List.range kk).map (fun q => ((n + q : Nat) : Int)), []⟩, ⟨Ac, kk, cc⟩, ⟨none, 0, 0⟩⟩) ⟨by show kk ≤ 64; omega, Nat.zero_le _⟩
                          have R9 : Hid (RefIn P (((ys ++ List.replicate kk nd0S).set i ⟨⟨1, (y : Int), (List.range kk).map (fun q => ((n + q : Nat) : Int)), []⟩, ⟨Ac, kk, cc⟩, ⟨none, 0, 0⟩⟩).map (·.x)) (sts ++ us.map (st.set y)) (i + 1)) := Lib.hid (by
                            have h1 := HR.out.branch Hok.out (by simpa using hiy) Hst.out (show y < st.length by rw [Hsl.out]; exact hy) HQ.out (Hm5.out _)
                            rw [HZ.out, Hnul.out, List.length_map, hnl] at h1
                            rw [map_set, List.map_append, List.map_replicate]
                            exact h1)
                          unfold set4 at N9 E9 B9 P9
                          have hsm := R9.out.small
                          have hln9 := N9.len
                          go_roundw
                          case rel => exact ⟨i + 1, n + kk, _, _, _, _, _, _, by omega, by rw [← hln9]; simpa using hsm, by go_num, rfl, rfl, N9, A9, M9, E9, R9, B9, P9⟩
                          case measure => simp [intOf]; omega
                    · go_wp2_with fail
                      go_roundw
                      case rel => exact ⟨i + 1, n, cl, cs, _, _, _, _, by omega, hn, by go_num, rfl, rfl, N1, A1', M1', E1, R1, B1, P1⟩
                      case measure => simp [intOf]; omega
      · rw [hbk] at hbr0
        go_wp2_with fail
        refine hbr0.mono ?_
        rintro e w1 ⟨rfl, bw1⟩
        have N1 := hN.on bw1
        have G1 := hgb.on bw1
        have V1 := own_on hv1 bw1
        have V2 := Hv2.out.on bw1
        have B1 := hB.trans (bw1.mono hB.size)
        have P1 := hP.on bw1
        clear hbr0 hN hgb hv1 Hv2 hso hB hP p0 p1 p2 p3 p4 hcell bw1
        obtain ⟨yi, hyi⟩ : ∃ y, ys[i]? = some y := ⟨_, List.getElem?_eq_getElem hiy⟩
        obtain ⟨b9, o9, e9, _, q0, q1, q2, q3⟩ := N1.get hyi
        injection e9 with e9
        injection e9 with e91 e92 _
        subst e91 e92
        simp only [Nat.zero_add] at q0 q1 q2 q3
        have f0 := G1.frozen (i * 4)
        have f1 := G1.frozen (i * 4 + 1)
        have f2 := G1.frozen (i * 4 + 2)
        have f3 := G1.frozen (i * 4 + 3)
        clear hyi
        go_wp2_with fail
        have N9 := OwnNs.store (i := i) (y := ⟨⟨2, 0, [], []⟩, ⟨none, 0, 0⟩, ⟨none, 0, 0⟩⟩) N1 (by decide) hlt ⟨by show 2 < 256; omega, OwnI.nil _ _, OwnI.nil _ _, by show 0 ≤ 1000000; omega, by show 0 ≤ 1000000; omega⟩
        have A9 := hA.set (N := w1.heap.size) (i := i) (y := ⟨⟨2, 0, [], []⟩, ⟨none, 0, 0⟩, ⟨none, 0, 0⟩⟩) (fun j z _ hz => ⟨own_blt (N1.nd z (List.mem_of_getElem? hz)).ch, own_blt (N1.nd z (List.mem_of_getElem? hz)).st⟩) ⟨Bge.nil _, Bge.nil _⟩ ⟨Apt.nil _, Apt.nil _⟩
        have E9 : OwnLL (set4 w1 gl (i * 4) (.int .i64 ((2 : Nat) : Int)) (.int .i64 0) (.slice none 0 0) (.slice none 0 0)) w.heap.size (.slice (some ⟨bs, os, none⟩) n cs) n sts := OwnLL.set4 ⟨vs, V1, V2⟩ G1 (by decide) (by decide) _ _ _ _
        have B9 := below_set4 (g := gl) (o := i * 4) B1 hgl (.int .i64 ((2 : Nat) : Int)) (.int .i64 0) (.slice none 0 0) (.slice none 0 0)
        have P9 := far_set4 (o := i * 4) (g' := gl) P1 (P1.apart G1 (by decide)) (.int .i64 ((2 : Nat) : Int)) (.int .i64 0) (.slice none 0 0) (.slice none 0 0)
        have M9 := hSm.set (i := i) (y := ⟨⟨2, 0, [], []⟩, ⟨none, 0, 0⟩, ⟨none, 0, 0⟩⟩) ⟨Nat.zero_le _, Nat.zero_le _⟩
        have R9 := Lib.hid (HR.out.put (y := ⟨⟨2, 0, [], []⟩, ⟨none, 0, 0⟩, ⟨none, 0, 0⟩⟩) hiy Hst.out (.clash (.inl hbk)) rfl)
        unfold set4 at N9 E9 B9 P9
        go_roundw
        case rel => exact ⟨i + 1, n, cl, cs, _, _, _, _, by omega, hn, by go_num, rfl, rfl, N9, A9, M9, E9, R9, B9, P9⟩
        case measure => simp [intOf]; omega
    · obtain rfl : i = n := by omega
      have hlt' : ¬ (i : Int) < (i : Int) := by omega
      have hR := HR.out
      have hk : (ys.map (·.x)).length = i := by simpa using hnl
      go_wp2_with fail
      go_ret
      refine ⟨Al, i, cl, rfl, ⟨ys, hN, hA, hSm, sts, ?_⟩, hn, hB⟩
      rw [← hk] at hR
      exact hR.end_
end Go.Proofs.YtcdgmdhfaniciaaDoor
