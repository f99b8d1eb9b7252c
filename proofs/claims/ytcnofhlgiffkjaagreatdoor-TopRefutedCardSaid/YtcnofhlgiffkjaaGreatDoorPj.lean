/- A pack of texts: RBrkP, RBrk, RVal, RAll. -/
import Derived.Test.YtcnofhlgiffkjaaGreatDoorPf
import Derived.Test.YtcnofhlgiffkjaaGreatDoorPh
import Derived.Deep.QuietTactic
import Derived.BigQuiet
import Derived.Test.YtcnofhlgiffkjaaGreatDoorPt
/- Plain: how the reference counts. -/
namespace Go.Proofs.YtcnofhlgiffkjaaGreatDoor
open Go.RowKit
set_option linter.unusedVariables false
set_option linter.unusedSimpArgs false

/-- How often the user u has one of the first k steps, of those in M. -/
def cntR (l : List Int) (M : Nat) (u : Int) (k : Nat) : Nat := ((List.range k).filter fun j => decide (0 < u) && decide (atI l j = u) && M.testBit j).length
theorem cntR_succ (l : List Int) (M : Nat) (u : Int) (k : Nat) : cntR l M u (k + 1) = cntR l M u k + if (decide (0 < u) && decide (atI l k = u) && M.testBit k) = true then 1 else 0 := by
  unfold cntR
  rw [List.range_succ, List.filter_append, List.length_append]
  cases h : (decide (0 < u) && decide (atI l k = u) && M.testBit k) <;> simp [List.filter, h]
theorem cntR_le (l : List Int) (M : Nat) (u : Int) (k : Nat) : cntR l M u k ≤ k := Nat.le_trans (List.length_filter_le _ _) (by simp)
theorem cntR_cntU {l : List Int} {M n : Nat} {u : Int} (hM : M < 2 ^ n) (hu : 0 < u) : cntR l M u n = cntU l (memM M) u := by
  rw [memM_memT hM]
  unfold cntR cntU memT
  rw [List.filter_filter]
  congr 1
  apply List.filter_congr
  intro x _
  simp [hu]
theorem cntR_zero {l : List Int} {M n : Nat} {u : Int} (hu : ¬ 0 < u) : cntR l M u n = 0 := by
  unfold cntR
  simp [hu]
theorem brkM_cntR {l : List Int} {n : Nat} {K : Int} {M : Nat} (hM : M < 2 ^ n) (hl : l.length = n) (h0 : ∀ u ∈ l, 0 ≤ u) (hK : 1 ≤ K) :
    brkM l (K, M) = (List.range n).any fun i => decide (K < (cntR l M (atI l i) n : Int)) := by
  have hat : ∀ i, i < n → 0 ≤ atI l i := fun i hi => by
    unfold atI
    rw [List.getElem?_eq_getElem (by omega)]
    exact h0 _ (List.getElem_mem _)
  rw [Bool.eq_iff_iff]
  constructor
  · intro h
    unfold brkM at h
    obtain ⟨k, hk, hb⟩ := List.any_eq_true.1 h
    simp only [Bool.and_eq_true, decide_eq_true_eq] at hb
    have hkn : k < n := by
      rw [memM_memT hM] at hk
      exact List.mem_range.1 (List.mem_filter.1 hk).1
    refine List.any_eq_true.2 ⟨k, List.mem_range.2 hkn, ?_⟩
    have := hat k hkn
    rw [cntR_cntU hM (by omega)]
    simpa using hb.2
  · intro h
    obtain ⟨i, hi, hb⟩ := List.any_eq_true.1 h
    have hi := List.mem_range.1 hi
    simp only [decide_eq_true_eq] at hb
    have hp := hat i hi
    by_cases hu : 0 < atI l i
    · have h1 : 0 < cntR l M (atI l i) n := by omega
      unfold cntR at h1
      obtain ⟨j, hj⟩ := List.exists_mem_of_length_pos h1
      obtain ⟨hj1, hj2⟩ := List.mem_filter.1 hj
      simp only [Bool.and_eq_true, decide_eq_true_eq] at hj2
      unfold brkM
      refine List.any_eq_true.2 ⟨j, ?_, ?_⟩
      · rw [memM_memT hM]
        exact List.mem_filter.2 ⟨hj1, hj2.2⟩
      · rw [cntR_cntU hM hu] at hb
        simp only [Bool.and_eq_true, decide_eq_true_eq]
        rw [hj2.1.2]
        exact ⟨by omega, hb⟩
    · rw [cntR_zero hu] at hb
      omega
end Go.Proofs.YtcnofhlgiffkjaaGreatDoor
/- The reference's Broken. -/
namespace Go.Proofs.YtcnofhlgiffkjaaGreatDoor
open Go.RowKit
set_option linter.unusedVariables false
set_option linter.unusedSimpArgs false

theorem bitq {M : Nat} (X : Nat) : (((M : Int) / 2 ^ X).tmod 2 == 0) = !M.testBit X := by
  have e : ((M : Nat) : Int) / 2 ^ X = ((M / 2 ^ X : Nat) : Int) := by simp
  rw [Nat.testBit_eq_decide_div_mod_eq]
  generalize M / 2 ^ X = y at e ⊢
  rw [e, Int.tmod_eq_emod_of_nonneg (by omega)]
  by_cases h : y % 2 = 1
  · rw [decide_eq_true h]; simp; omega
  · rw [decide_eq_false h]; simp; omega
set_option maxHeartbeats 16000000 in
set_option maxRecDepth 100000 in
/-- Broken, the reference's. -/
theorem rbroken_any (p : PrV) (P : Pr) (A : Option Addr) (n c : Nat) (l : List Int) (w : World) (h : RPrAt w w.heap.size p P) (hl : Sees w w.heap.size A (l.map iv)) (hn : l.length = n) (hb : n ≤ 1000000) :
    Calls Tryz.prog 70 #[p.v, .slice A n c] w fun e w' => e = .returned (.bool (BrokenB P l)) ∧ Below w.heap.size w w' := by
  have hp := fun W (hW : Below w.heap.size w W) => rlisted_any p P A n c l W (h.on hW) (hl.on hW) hn hb
  obtain ⟨r, hr⟩ : ∃ r, Hid (r = brk P l) := ⟨_, Lib.hid rfl⟩
  have hdef : BrokenB P l = (properB P l && r) := by unfold BrokenB; rw [hr.out]
  rw [hdef]
  clear hdef
  have ok := Lib.hid (@proper_ok P l)
  obtain ⟨⟨A1, n1, c1⟩, ⟨A2, n2, c2⟩, ⟨A3, n3, c3⟩, ⟨A4, n4, c4⟩, ⟨A5, n5, c5⟩⟩ := p
  obtain ⟨l1, l2, l3, l4, l5, e1, e2, e3, e4, e5, s1, s2, s3, s4, s5, _, w1, w4⟩ := h
  simp only at l1 l2 l3 l4 l5 e1 e2 e3 e4 e5 s1 s2 s3 s4 s5
  have b1 : Below w.heap.size w (w.alloc (.cells #[.slice A1 n1 c1, .slice A2 n2 c2, .slice A3 n3 c3, .slice A4 n4 c4, .slice A5 n5 c5] 32)) := (Below.refl _ _).alloc (Nat.le_refl _) _
  have bP := Blk.new w 32 #[.slice A1 n1 c1, .slice A2 n2 c2, .slice A3 n3 c3, .slice A4 n4 c4, .slice A5 n5 c5]
  unfold PrV.v Sl.v at hp ⊢
  simp only [] at hp ⊢
  cases hz : properB P l
  · rw [hz] at hp
    go_enter Tryz.func70, Tryz.ntmps70
    go_wp2_with fail
    refine (hp _ b1).mono ?_
    rintro e w1 ⟨rfl, bw1⟩
    have b2 := b1.trans (bw1.mono b1.size)
    go_wp2_with fail
    go_ret
    exact ⟨rfl, b2⟩
  · rw [hz] at hp
    obtain ⟨hk, hlen, hu⟩ := ok.out hz
    have OK := chkP_ok hk
    rw [hn, l1] at hlen
    subst hlen
    have HU := Lib.hid hu
    have HN := Lib.hid hn
    have L1 := Lib.hid l1
    have L2 := Lib.hid l2
    have L3 := Lib.hid l3
    have L4 := Lib.hid l4
    have HD : Hid (∀ x ∈ P.dif, 0 ≤ x.1 ∧ x.1 < n ∧ 0 ≤ x.2 ∧ x.2 < n) := Lib.hid (fun x hx => by have := OK.difu x hx; rw [l1] at this; exact ⟨this.1, this.2.1, this.2.2.1, this.2.2.2.1⟩)
    have HS : Hid (∀ x ∈ P.sam, 0 ≤ x.1 ∧ x.1 < n ∧ 0 ≤ x.2 ∧ x.2 < n) := Lib.hid (fun x hx => by have := OK.samu x hx; rw [l1] at this; exact ⟨this.1, this.2.1, this.2.2.1, this.2.2.2.1⟩)
    have HM : Hid (∀ x ∈ P.mst, 1 ≤ x.1 ∧ x.1 ≤ 10 ∧ x.2 < 2 ^ n) := Lib.hid (fun x hx => by have := OK.mstu x hx; rw [l1] at this; exact ⟨this.1, this.2.1, this.2.2.2⟩)
    have hn10 : n ≤ 10 := by have := OK.n10; rw [l1] at this; exact this
    have hnb : (n : Int) ≤ 10 := by omega
    have W1' := Lib.hid w1
    have W4' := Lib.hid w4
    clear OK hk hu hn l1 l2 l3 l4 l5 ok e5 s5 s1 hz w1 w4 hb
    go_enter Tryz.func70, Tryz.ntmps70
    go_wp2_with fail
    refine (hp _ b1).mono ?_
    rintro e W4 ⟨rfl, bw1⟩
    have bP4 := bP.on bw1
    have b4 := b1.trans (bw1.mono b1.size)
    clear bP bw1 b1 hp
    have box : ∀ W, Below W4.heap.size W4 W → W.cell? ⟨w.heap.size, 0, none⟩ = some (.slice A1 n c1) ∧ W.cell? ⟨w.heap.size, 1, none⟩ = some (.slice A2 n2 c2) ∧ W.cell? ⟨w.heap.size, 2, none⟩ = some (.slice A3 n3 c3) ∧ W.cell? ⟨w.heap.size, 3, none⟩ = some (.slice A4 n4 c4) := fun W hW => by
      have hb := bP4.on hW
      exact ⟨(hb.cell 0).trans rfl, (hb.cell 1).trans rfl, (hb.cell 2).trans rfl, (hb.cell 3).trans rfl⟩
    go_wp2_with fail
    go_loopw [24] (fun i wr => ∃ k : Nat, k ≤ n ∧ i = .int .i64 k ∧ Hid (∀ j, j < k → brkE P.elig l j = false) ∧ Below W4.heap.size W4 wr) (fun i _ => n - (intOf i).toNat)
    case atStart => exact ⟨0, Nat.zero_le _, rfl, Lib.hid (fun j hj => absurd hj (by omega)), Below.refl _ _⟩
    case round =>
      obtain ⟨k, hk, rfl, HQ, hC⟩ := hrel
      have cw := b4.trans (hC.mono b4.size)
      obtain ⟨t0, t1, t2, t3⟩ := box _ hC
      by_cases hlt : k < n
      · have hlt' : (k : Int) < (n : Int) := by omega
        obtain ⟨b, o, u, rfl, hbl, Hu, hcu⟩ := Sees.int (k := k) (hl.below cw) (by rw [HN.out]; omega)
        obtain ⟨hu0, hu1⟩ := HU.out u (List.mem_of_getElem? Hu.out)
        obtain ⟨M, hM⟩ : ∃ M, P.elig[k]? = some M := ⟨_, List.getElem?_eq_getElem (by rw [L1.out]; exact hlt)⟩
        have hMb := W1'.out M (List.mem_of_getElem? hM)
        have hM1 : (P.elig.map wv)[k]? = some (.int .u64 (M : Int)) := by rw [List.getElem?_map, hM]; rfl
        obtain ⟨b', o', rfl, hb1, hc1⟩ := (e1.below cw) (by intro e; rw [e] at hM1; simp at hM1)
        have hc2 := hc1 k _ hM1
        clear hc1
        obtain ⟨U, rfl⟩ := Int.eq_ofNat_of_zero_le hu0
        have hbr : brkE P.elig l k = (decide (0 < U) && !M.testBit U) := by
          unfold brkE atI
          rw [Hu.out, hM, Option.getD_some, Option.getD_some, Int.toNat_natCast]
          congr 1
          apply decide_eq_decide.2
          omega
        have Hbr := Lib.hid hbr
        have Hret : Hid (brkE P.elig l k = true → r = true) := Lib.hid (fun hh => by
          rw [hr.out]; unfold brk
          have : (List.range l.length).any (brkE P.elig l) = true := List.any_eq_true.2 ⟨k, List.mem_range.2 (by rw [HN.out]; exact hlt), hh⟩
          rw [this]; rfl)
        have Hstep : Hid (brkE P.elig l k = false → ∀ j, j < k + 1 → brkE P.elig l j = false) := Lib.hid (fun hh j hj => by
          rcases Nat.lt_succ_iff_lt_or_eq.1 hj with h1 | rfl
          · exact HQ.out j h1
          · exact hh)
        clear hbr hM hM1
        by_cases q0 : U = 0
        · subst q0
          go_wp2_with fail
          go_roundw
          case rel => exact ⟨k + 1, by omega, by go_num, Lib.hid (Hstep.out (by rw [Hbr.out]; rfl)), hC⟩
          case measure => simp [intOf]; omega
        · have q0' : (0 : Int) < (U : Int) := by omega
          by_cases q1 : 63 < U
          · have q1' : (63 : Int) < (U : Int) := by omega
            have hbt : M.testBit U = false := Nat.testBit_lt_two_pow (Nat.lt_of_lt_of_le hMb (Nat.pow_le_pow_right (by omega) (by omega)))
            have Hr : Hid (r = true) := Lib.hid (Hret.out (by rw [Hbr.out, hbt]; simp; omega))
            clear hbt
            go_wp2_with fail
            go_ret
            exact ⟨ret_bool Hr.out.symm, cw⟩
          · have q1' : ¬ (63 : Int) < (U : Int) := by omega
            have hq := bitq (M := M) U
            cases hbt : M.testBit U
            · rw [hbt] at hq
              have Hr : Hid (r = true) := Lib.hid (Hret.out (by rw [Hbr.out, hbt]; simp; omega))
              clear hbt
              go_wp2_with fail
              go_ret
              exact ⟨ret_bool Hr.out.symm, cw⟩
            · rw [hbt] at hq
              have Hr := Lib.hid (Hstep.out (by rw [Hbr.out, hbt]; simp))
              clear hbt
              go_wp2_with fail
              go_roundw
              case rel => exact ⟨k + 1, by omega, by go_num, Hr, hC⟩
              case measure => simp [intOf]; omega
      · have hlt' : ¬ (k : Int) < (n : Int) := by omega
        obtain rfl : n = k := by omega
        have eAll := Lib.hid (show (List.range l.length).any (brkE P.elig l) = false from Bool.eq_false_iff.2 fun hh => by
          obtain ⟨j, hj, hb⟩ := List.any_eq_true.1 hh
          rw [HQ.out j (by have := List.mem_range.1 hj; rw [HN.out] at this; exact this)] at hb
          cases hb)
        clear HQ e1 W1' t0 t1 t2 t3 cw hlt hlt' hk
        have hC0 := hC
        clear hC
        obtain ⟨t0, t1, t2, t3⟩ := box _ hC0
        go_wp2_with fail
        go_loopw [50] (fun i wr => ∃ k : Nat, k ≤ n2 ∧ i = .int .i64 k ∧ Hid ((P.dif.take k).any (brkD l) = false) ∧ Below W4.heap.size W4 wr) (fun i _ => n2 - (intOf i).toNat)
        case atStart => exact ⟨0, Nat.zero_le _, rfl, Lib.hid rfl, hC0⟩
        case round =>
          obtain ⟨j, hj, rfl, HQ, hC⟩ := hrel
          have cw := b4.trans (hC.mono b4.size)
          obtain ⟨t0, t1, t2, t3⟩ := box _ hC
          have hnb2 : (n2 : Int) ≤ 1000 := by omega
          by_cases hj2 : j < n2
          · have hj2' : (j : Int) < (n2 : Int) := by omega
            obtain ⟨⟨x, y⟩, hx⟩ : ∃ x, P.dif[j]? = some x := ⟨_, List.getElem?_eq_getElem (by rw [L2.out]; exact hj2)⟩
            obtain ⟨hx0, hx1, hy0, hy1⟩ := HD.out _ (List.mem_of_getElem? hx)
            simp only at hx0 hx1 hy0 hy1
            obtain ⟨X, rfl⟩ := Int.eq_ofNat_of_zero_le hx0
            obtain ⟨Y, rfl⟩ := Int.eq_ofNat_of_zero_le hy0
            obtain ⟨b, o, rfl, hb2, hcx, hcy⟩ := (e2.below cw) j _ hx
            simp only [] at hcx hcy
            obtain ⟨bl, ol, u, rfl, hbl, Hu, hcu⟩ := Sees.int (k := X) (hl.below cw) (by rw [HN.out]; omega)
            obtain ⟨bl', ol', v, hA', hbl', Hv, hcv⟩ := Sees.int (k := Y) (hl.below cw) (by rw [HN.out]; omega)
            simp only [Option.some.injEq, Addr.mk.injEq, and_true] at hA'
            obtain ⟨rfl, rfl⟩ := hA'
            obtain ⟨hu0, hu1⟩ := HU.out u (List.mem_of_getElem? Hu.out)
            obtain ⟨hv0, hv1⟩ := HU.out v (List.mem_of_getElem? Hv.out)
            have ex : atZ l (X : Int) = u := by unfold atZ atI; rw [Int.toNat_natCast, Hu.out]; rfl
            have ey : atZ l (Y : Int) = v := by unfold atZ atI; rw [Int.toNat_natCast, Hv.out]; rfl
            have hbr : brkD l ((X : Int), (Y : Int)) = (decide (u ≠ 0) && decide (u = v)) := by simp only [brkD, ex, ey]
            clear ex ey
            have hnext := any_take_succ (brkD l) hx
            rw [HQ.out, Bool.false_or, hbr] at hnext
            have Hret : Hid (brkD l ((X : Int), (Y : Int)) = true → r = true) := Lib.hid (fun hh => by
              rw [hr.out]; unfold brk
              have : P.dif.any (brkD l) = true := List.any_eq_true.2 ⟨_, List.mem_of_getElem? hx, hh⟩
              rw [this]; simp)
            have Hbr := Lib.hid hbr
            have Hnext := Lib.hid hnext
            have hbx : Below wr.heap.size wr (wr.alloc (.cells #[.int .i64 (X : Int), .int .i64 (Y : Int)] 77)) := (Below.refl _ _).alloc (Nat.le_refl _) _
            have bxx := Blk.new wr 77 #[.int .i64 (X : Int), .int .i64 (Y : Int)]
            have hC2 := hC.trans (hbx.mono hC.size)
            have cw2 := b4.trans (hC2.mono b4.size)
            have hcu2 := (hbx.cell (p := ⟨bl, ol + X, none⟩) (by have := cw.size; show bl < wr.heap.size; omega)).trans hcu
            have hcv2 := (hbx.cell (p := ⟨bl, ol + Y, none⟩) (by have := cw.size; show bl < wr.heap.size; omega)).trans hcv
            clear hnext hx hbr Hu Hv
            go_wp2_with fail
            generalize (wr.alloc (.cells #[.int .i64 (X : Int), .int .i64 (Y : Int)] 77)) = v0 at hbx bxx hC2 cw2 hcu2 hcv2 ⊢
            have xx := (bxx.cell 0).trans rfl
            have yy := (bxx.cell 1).trans rfl
            have hCd := fun q => hC2.trans ((below_drewN (Below.refl v0.heap.size v0) q).mono hC2.size)
            by_cases u0 : u = 0
            · subst u0
              have Hn' : Hid ((P.dif.take (j + 1)).any (brkD l) = false) := Lib.hid (by rw [Hnext.out]; simp)
              clear Hnext Hret Hbr
              go_quiet (fail)
              go_wp2_with fail
              go_roundw
              case rel => exact ⟨j + 1, by omega, by go_num, Hn', hCd _⟩
              case measure => simp [intOf]; omega
            · have u0b : 0 < u := by omega
              by_cases uv : u = v
              · subst uv
                have Hr : Hid (r = true) := Lib.hid (Hret.out (by rw [Hbr.out, decide_eq_true u0]; simp))
                clear Hnext Hret Hbr u0
                go_quiet (fail)
                go_wp2_with fail
                go_ret
                exact ⟨ret_bool Hr.out.symm, b4.trans ((hCd _).mono b4.size)⟩
              · have Hn' : Hid ((P.dif.take (j + 1)).any (brkD l) = false) := Lib.hid (by rw [Hnext.out, decide_eq_false uv]; simp)
                have uvb : (u == v) = false := by simpa using uv
                clear Hnext Hret Hbr u0 uv
                go_quiet (fail)
                go_wp2_with fail
                go_roundw
                case rel => exact ⟨j + 1, by omega, by go_num, Hn', hCd _⟩
                case measure => simp [intOf]; omega
          · have hj2' : ¬ (j : Int) < (n2 : Int) := by omega
            have difAll := Lib.hid (show P.dif.any (brkD l) = false from by
              have h1 := HQ.out
              rw [List.take_of_length_le (by rw [L2.out]; omega)] at h1
              exact h1)
            clear HQ
            go_wp2_with fail
            go_loopw [77] (fun i wr => ∃ k : Nat, k ≤ n3 ∧ i = .int .i64 k ∧ Hid ((P.sam.take k).any (brkS l) = false) ∧ Below W4.heap.size W4 wr) (fun i _ => n3 - (intOf i).toNat)
            case atStart => exact ⟨0, Nat.zero_le _, rfl, Lib.hid rfl, hC⟩
            case round =>
              clear hj
              obtain ⟨j, hj, rfl, HQ, hC⟩ := hrel
              have cw := b4.trans (hC.mono b4.size)
              obtain ⟨t0, t1, t2, t3⟩ := box _ hC
              have hnb2 : (n3 : Int) ≤ 1000 := by omega
              by_cases hj3 : j < n3
              · have hj3' : (j : Int) < (n3 : Int) := by omega
                obtain ⟨⟨x, y⟩, hx⟩ : ∃ x, P.sam[j]? = some x := ⟨_, List.getElem?_eq_getElem (by rw [L3.out]; exact hj3)⟩
                obtain ⟨hx0, hx1, hy0, hy1⟩ := HS.out _ (List.mem_of_getElem? hx)
                simp only at hx0 hx1 hy0 hy1
                obtain ⟨X, rfl⟩ := Int.eq_ofNat_of_zero_le hx0
                obtain ⟨Y, rfl⟩ := Int.eq_ofNat_of_zero_le hy0
                obtain ⟨b, o, rfl, hb2, hcx, hcy⟩ := (e3.below cw) j _ hx
                simp only [] at hcx hcy
                obtain ⟨bl, ol, u, rfl, hbl, Hu, hcu⟩ := Sees.int (k := X) (hl.below cw) (by rw [HN.out]; omega)
                obtain ⟨bl', ol', v, hA', hbl', Hv, hcv⟩ := Sees.int (k := Y) (hl.below cw) (by rw [HN.out]; omega)
                simp only [Option.some.injEq, Addr.mk.injEq, and_true] at hA'
                obtain ⟨rfl, rfl⟩ := hA'
                obtain ⟨hu0, hu1⟩ := HU.out u (List.mem_of_getElem? Hu.out)
                obtain ⟨hv0, hv1⟩ := HU.out v (List.mem_of_getElem? Hv.out)
                have ex : atZ l (X : Int) = u := by unfold atZ atI; rw [Int.toNat_natCast, Hu.out]; rfl
                have ey : atZ l (Y : Int) = v := by unfold atZ atI; rw [Int.toNat_natCast, Hv.out]; rfl
                have hbr : brkS l ((X : Int), (Y : Int)) = (decide (u ≠ 0) && decide (v ≠ 0) && decide (u ≠ v)) := by simp only [brkS, ex, ey]
                clear ex ey
                have hnext := any_take_succ (brkS l) hx
                rw [HQ.out, Bool.false_or, hbr] at hnext
                have Hret : Hid (brkS l ((X : Int), (Y : Int)) = true → r = true) := Lib.hid (fun hh => by
                  rw [hr.out]; unfold brk
                  have : P.sam.any (brkS l) = true := List.any_eq_true.2 ⟨_, List.mem_of_getElem? hx, hh⟩
                  rw [this]; simp)
                have Hbr := Lib.hid hbr
                have Hnext := Lib.hid hnext
                have hbx : Below wr.heap.size wr (wr.alloc (.cells #[.int .i64 (X : Int), .int .i64 (Y : Int)] 77)) := (Below.refl _ _).alloc (Nat.le_refl _) _
                have bxx := Blk.new wr 77 #[.int .i64 (X : Int), .int .i64 (Y : Int)]
                have hC2 := hC.trans (hbx.mono hC.size)
                have cw2 := b4.trans (hC2.mono b4.size)
                have hcu2 := (hbx.cell (p := ⟨bl, ol + X, none⟩) (by have := cw.size; show bl < wr.heap.size; omega)).trans hcu
                have hcv2 := (hbx.cell (p := ⟨bl, ol + Y, none⟩) (by have := cw.size; show bl < wr.heap.size; omega)).trans hcv
                clear hnext hx hbr Hu Hv
                go_wp2_with fail
                generalize (wr.alloc (.cells #[.int .i64 (X : Int), .int .i64 (Y : Int)] 77)) = v0 at hbx bxx hC2 cw2 hcu2 hcv2 ⊢
                have xx := (bxx.cell 0).trans rfl
                have yy := (bxx.cell 1).trans rfl
                have hCd := fun q => hC2.trans ((below_drewN (Below.refl v0.heap.size v0) q).mono hC2.size)
                by_cases u0 : u = 0
                · subst u0
                  have Hn' : Hid ((P.sam.take (j + 1)).any (brkS l) = false) := Lib.hid (by rw [Hnext.out]; simp)
                  clear Hnext Hret Hbr
                  go_quiet (fail)
                  go_wp2_with fail
                  go_roundw
                  case rel => exact ⟨j + 1, by omega, by go_num, Hn', hCd _⟩
                  case measure => simp [intOf]; omega
                · have u0b : 0 < u := by omega
                  by_cases v9 : v = 0
                  · subst v9
                    have Hn' : Hid ((P.sam.take (j + 1)).any (brkS l) = false) := Lib.hid (by rw [Hnext.out]; simp)
                    clear Hnext Hret Hbr u0
                    go_quiet (fail)
                    go_wp2_with fail
                    go_roundw
                    case rel => exact ⟨j + 1, by omega, by go_num, Hn', hCd _⟩
                    case measure => simp [intOf]; omega
                  · have v0b : 0 < v := by omega
                    by_cases uv : u = v
                    · subst uv
                      have Hn' : Hid ((P.sam.take (j + 1)).any (brkS l) = false) := Lib.hid (by rw [Hnext.out]; simp)
                      clear Hnext Hret Hbr u0
                      go_quiet (fail)
                      go_wp2_with fail
                      go_roundw
                      case rel => exact ⟨j + 1, by omega, by go_num, Hn', hCd _⟩
                      case measure => simp [intOf]; omega
                    · have Hr : Hid (r = true) := Lib.hid (Hret.out (by rw [Hbr.out, decide_eq_true u0, decide_eq_true v9, decide_eq_true uv]; rfl))
                      have uvb : (u != v) = true := by simpa using uv
                      clear Hnext Hret Hbr u0 uv
                      go_quiet (fail)
                      go_wp2_with fail
                      go_ret
                      exact ⟨ret_bool Hr.out.symm, b4.trans ((hCd _).mono b4.size)⟩
              · have hj3' : ¬ (j : Int) < (n3 : Int) := by omega
                have samAll := Lib.hid (show P.sam.any (brkS l) = false from by
                  have h1 := HQ.out
                  rw [List.take_of_length_le (by rw [L3.out]; omega)] at h1
                  exact h1)
                clear HQ
                go_wp2_with fail
                go_loopw [112] (fun i wr => ∃ k : Nat, k ≤ n4 ∧ i = .int .i64 k ∧ Hid ((P.mst.take k).any (brkM l) = false) ∧ Below W4.heap.size W4 wr) (fun i _ => n4 - (intOf i).toNat)
                case atStart => exact ⟨0, Nat.zero_le _, rfl, Lib.hid rfl, hC⟩
                case round =>
                  clear hj hC cw t0 t1 t2 t3
                  obtain ⟨q, hq4, rfl, HQ, hC⟩ := hrel
                  have cw := b4.trans (hC.mono b4.size)
                  obtain ⟨t0, t1, t2, t3⟩ := box _ hC
                  have hnb4 : (n4 : Int) ≤ 1000 := by omega
                  by_cases hq : q < n4
                  · have hq' : (q : Int) < (n4 : Int) := by omega
                    obtain ⟨⟨K, M⟩, hx⟩ : ∃ x, P.mst[q]? = some x := ⟨_, List.getElem?_eq_getElem (by rw [L4.out]; exact hq)⟩
                    obtain ⟨hK1, hK10, hM⟩ := HM.out _ (List.mem_of_getElem? hx)
                    simp only at hK1 hK10 hM
                    obtain ⟨b, o, rfl, hb2, hcx, hcy⟩ := (e4.below cw) q _ hx
                    simp only [] at hcx hcy
                    have hbr := brkM_cntR (K := K) hM HN.out (fun u hu => (HU.out u hu).1) hK1
                    have hnext := any_take_succ (brkM l) hx
                    rw [HQ.out, Bool.false_or, hbr] at hnext
                    have Hret : Hid (brkM l (K, M) = true → r = true) := Lib.hid (fun hh => by
                      rw [hr.out]; unfold brk
                      have : P.mst.any (brkM l) = true := List.any_eq_true.2 ⟨_, List.mem_of_getElem? hx, hh⟩
                      rw [this]; simp)
                    have Hbr := Lib.hid hbr
                    have Hnext := Lib.hid hnext
                    have HMl := Lib.hid hM
                    have hbx : Below wr.heap.size wr (wr.alloc (.cells #[.int .i64 K, .int .u64 (M : Int)] 75)) := (Below.refl _ _).alloc (Nat.le_refl _) _
                    have bxx := Blk.new wr 75 #[.int .i64 K, .int .u64 (M : Int)]
                    have hC2 := hC.trans (hbx.mono hC.size)
                    clear hnext hx hbr hM
                    go_wp2_with fail
                    generalize (wr.alloc (.cells #[.int .i64 K, .int .u64 (M : Int)] 75)) = v0 at hbx bxx hC2 ⊢
                    have mc : ∀ W, Below v0.heap.size v0 W → W.cell? ⟨wr.heap.size, 0, none⟩ = some (.int .i64 K) ∧ W.cell? ⟨wr.heap.size, 1, none⟩ = some (.int .u64 (M : Int)) := fun W hW => ⟨((bxx.on hW).cell 0).trans rfl, ((bxx.on hW).cell 1).trans rfl⟩
                    go_loopw [118] (fun i wr => ∃ k : Nat, k ≤ n ∧ i = .int .i64 k ∧ Hid (∀ j, j < k → (cntR l M (atI l j) n : Int) ≤ K) ∧ Below v0.heap.size v0 wr) (fun i _ => n - (intOf i).toNat)
                    case atStart => exact ⟨0, Nat.zero_le _, rfl, Lib.hid (fun j hj => absurd hj (by omega)), Below.refl _ _⟩
                    case round =>
                      obtain ⟨i, hi, rfl, HI, hD⟩ := hrel
                      have hCD := hC2.trans (hD.mono hC2.size)
                      have cwD := b4.trans (hCD.mono b4.size)
                      by_cases hi2 : i < n
                      · have hi2' : (i : Int) < (n : Int) := by omega
                        obtain ⟨bl, ol, u, rfl, hbl, Hu, hcu⟩ := Sees.int (k := i) (hl.below cwD) (by rw [HN.out]; omega)
                        obtain ⟨hu0, hu1⟩ := HU.out u (List.mem_of_getElem? Hu.out)
                        have Hat : Hid (atI l i = u) := Lib.hid (by unfold atI; rw [Hu.out]; rfl)
                        have hl2 := hl
                        clear Hu
                        go_wp2_with fail
                        go_loopw [15, 124] (fun v15 i wr => ∃ k : Nat, k ≤ n ∧ i = .int .i64 k ∧ v15 = .int .i64 (cntR l M u k : Int) ∧ Below v0.heap.size v0 wr) (fun _ i _ => n - (intOf i).toNat)
                        case atStart => exact ⟨0, Nat.zero_le _, rfl, rfl, hD⟩
                        case round =>
                          obtain ⟨k, hk, rfl, rfl, hE⟩ := hrel
                          have hCE := hC2.trans (hE.mono hC2.size)
                          have cwE := b4.trans (hCE.mono b4.size)
                          obtain ⟨m0, m1⟩ := mc _ hE
                          have hcl := cntR_le l M u k
                          by_cases hk2 : k < n
                          · have hk2' : (k : Int) < (n : Int) := by omega
                            obtain ⟨bl', ol', v, hA', hbl', Hv, hcv⟩ := Sees.int (k := k) (hl.below cwE) (by rw [HN.out]; omega)
                            simp only [Option.some.injEq, Addr.mk.injEq, and_true] at hA'
                            obtain ⟨rfl, rfl⟩ := hA'
                            have hat : atI l k = v := by unfold atI; rw [Hv.out]; rfl
                            have hsu := cntR_succ l M u k
                            rw [hat] at hsu
                            have hb8 := bit8 M k
                            rw [← Nat.testBit_eq_decide_div_mod_eq] at hb8
                            generalize hc0 : cntR l M u k = c0 at hcl hsu ⊢
                            clear hat Hv hc0
                            by_cases z0 : 0 < u
                            · by_cases z1 : v = u
                              · subst z1
                                cases hbt : M.testBit k
                                · rw [hbt] at hb8 hsu
                                  have Hsu : Hid (cntR l M v (k + 1) = c0) := Lib.hid (by rw [hsu]; simp)
                                  clear hsu hbt
                                  go_wp2_with fail
                                  go_roundw
                                  case rel => exact ⟨k + 1, by omega, by go_num, by rw [Hsu.out], hE⟩
                                  case measure => simp [intOf]; omega
                                · rw [hbt] at hb8 hsu
                                  have Hsu : Hid (cntR l M v (k + 1) = c0 + 1) := Lib.hid (by rw [hsu]; simp [z0])
                                  clear hsu hbt
                                  go_wp2_with fail
                                  go_roundw
                                  case rel => exact ⟨k + 1, by omega, by go_num, by rw [Hsu.out]; go_num, hE⟩
                                  case measure => simp [intOf]; omega
                              · have z1b : (v == u) = false := by simpa using z1
                                have Hsu : Hid (cntR l M u (k + 1) = c0) := Lib.hid (by rw [hsu]; simp [z1])
                                clear hsu z1
                                go_wp2_with fail
                                go_roundw
                                case rel => exact ⟨k + 1, by omega, by go_num, by rw [Hsu.out], hE⟩
                                case measure => simp [intOf]; omega
                            · have Hsu : Hid (cntR l M u (k + 1) = c0) := Lib.hid (by rw [hsu]; simp [z0])
                              clear hsu
                              go_wp2_with fail
                              go_roundw
                              case rel => exact ⟨k + 1, by omega, by go_num, by rw [Hsu.out], hE⟩
                              case measure => simp [intOf]; omega
                          · have hk2' : ¬ (k : Int) < (n : Int) := by omega
                            obtain rfl : n = k := by omega
                            generalize hc0 : cntR l M u n = c0 at hcl ⊢
                            have Hc0 := Lib.hid hc0
                            clear hc0
                            by_cases z0 : K < (c0 : Int)
                            · have Hr : Hid (r = true) := Lib.hid (Hret.out (by
                                rw [Hbr.out]
                                exact List.any_eq_true.2 ⟨i, List.mem_range.2 hi2, by rw [Hat.out, Hc0.out]; simpa using z0⟩))
                              go_wp2_with fail
                              go_ret
                              exact ⟨ret_bool Hr.out.symm, cwE⟩
                            · have HI2 : Hid (∀ j, j < i + 1 → (cntR l M (atI l j) n : Int) ≤ K) := Lib.hid (fun j hj => by
                                rcases Nat.lt_succ_iff_lt_or_eq.1 hj with h1 | rfl
                                · exact HI.out j h1
                                · rw [Hat.out, Hc0.out]; omega)
                              go_wp2_with fail
                              go_roundw
                              case rel => exact ⟨i + 1, by omega, by go_num, HI2, hE⟩
                              case measure => simp [intOf]; omega
                      · have hi2' : ¬ (i : Int) < (n : Int) := by omega
                        obtain rfl : n = i := by omega
                        have Hn' : Hid ((P.mst.take (q + 1)).any (brkM l) = false) := Lib.hid (by
                          rw [Hnext.out]
                          refine Bool.eq_false_iff.2 fun hh => ?_
                          obtain ⟨j, hj, hb⟩ := List.any_eq_true.1 hh
                          have := HI.out j (List.mem_range.1 hj)
                          simp only [decide_eq_true_eq] at hb
                          omega)
                        clear Hnext Hret Hbr
                        go_wp2_with fail
                        go_roundw
                        case rel => exact ⟨q + 1, by omega, by go_num, Hn', hCD⟩
                        case measure => simp [intOf]; omega
                  · have hq' : ¬ (q : Int) < (n4 : Int) := by omega
                    have Hr : Hid (r = false) := Lib.hid (by
                      have h1 := HQ.out
                      rw [List.take_of_length_le (by rw [L4.out]; omega)] at h1
                      rw [hr.out]; unfold brk
                      rw [eAll.out, difAll.out, samAll.out, h1]; rfl)
                    clear HQ
                    go_wp2_with fail
                    go_ret
                    exact ⟨ret_bool Hr.out.symm, cw⟩
end Go.Proofs.YtcnofhlgiffkjaaGreatDoor
/- The reference's Valid. -/
namespace Go.Proofs.YtcnofhlgiffkjaaGreatDoor
open Go.RowKit
set_option linter.unusedVariables false
set_option linter.unusedSimpArgs false

def vok (f l : List Int) (k : Nat) : Bool := decide (atI l k ≠ 0) && fixOk f l k
theorem ValidB_vok (P : Pr) (l : List Int) : ValidB P l = (properB P l && !BrokenB P l && (List.range l.length).all (vok P.fix l)) := by
  unfold ValidB BrokenB
  cases properB P l
  · simp
  · rw [Bool.true_and, Bool.true_and, Bool.true_and, Bool.eq_iff_iff]
    constructor
    · intro h
      simp only [Bool.and_eq_true, Bool.not_eq_true', List.all_eq_true] at h
      obtain ⟨⟨h1, h2⟩, h3⟩ := h
      simp only [Bool.and_eq_true, Bool.not_eq_true', List.all_eq_true]
      refine ⟨h2, fun k hk => ?_⟩
      unfold vok
      rw [h3 k hk, Bool.and_true, decide_eq_true_eq]
      intro h0
      have hkl := List.mem_range.1 hk
      unfold atI at h0
      rw [List.getElem?_eq_getElem hkl] at h0
      have : l.contains 0 = true := List.contains_iff_mem.2 (by rw [← show l[k] = 0 from h0]; exact List.getElem_mem _)
      rw [h1] at this
      cases this
    · intro h
      simp only [Bool.and_eq_true, Bool.not_eq_true', List.all_eq_true] at h
      obtain ⟨h2, h3⟩ := h
      simp only [Bool.and_eq_true, Bool.not_eq_true', List.all_eq_true]
      refine ⟨⟨?_, h2⟩, fun k hk => by have := h3 k hk; unfold vok at this; simp only [Bool.and_eq_true] at this; exact this.2⟩
      refine Bool.eq_false_iff.2 fun hc => ?_
      obtain ⟨k, hk⟩ := List.mem_iff_getElem?.1 (List.contains_iff_mem.1 hc)
      have := h3 k (List.mem_range.2 (List.getElem?_eq_some_iff.1 hk).1)
      unfold vok atI at this
      rw [hk] at this
      simp at this
set_option maxHeartbeats 16000000 in
set_option maxRecDepth 100000 in
/-- Valid, the reference's. -/
theorem rvalid_any (p : PrV) (P : Pr) (A : Option Addr) (n c : Nat) (l : List Int) (w : World) (h : RPrAt w w.heap.size p P) (hl : Sees w w.heap.size A (l.map iv)) (hn : l.length = n) (hb : n ≤ 1000000) :
    Calls Tryz.prog 31 #[p.v, .slice A n c] w fun e w' => e = .returned (.bool (ValidB P l)) ∧ Below w.heap.size w w' := by
  have hp := fun W (hW : Below w.heap.size w W) => rlisted_any p P A n c l W (h.on hW) (hl.on hW) hn hb
  have hq := fun W (hW : Below w.heap.size w W) => rbroken_any p P A n c l W (h.on hW) (hl.on hW) hn hb
  obtain ⟨r, hr⟩ : ∃ r, Hid (r = ValidB P l) := ⟨_, Lib.hid rfl⟩
  have hdef := ValidB_vok P l
  rw [← hr.out] at hdef ⊢
  have Hdef := Lib.hid hdef
  clear hdef
  have ok := Lib.hid (@proper_ok P l)
  obtain ⟨⟨A1, n1, c1⟩, ⟨A2, n2, c2⟩, ⟨A3, n3, c3⟩, ⟨A4, n4, c4⟩, ⟨A5, n5, c5⟩⟩ := p
  obtain ⟨l1, l2, l3, l4, l5, e1, e2, e3, e4, e5, s1, s2, s3, s4, s5, _, w1, w4⟩ := h
  simp only at l1 l2 l3 l4 l5 e1 e2 e3 e4 e5 s1 s2 s3 s4 s5
  have b1 : Below w.heap.size w (w.alloc (.cells #[.slice A1 n1 c1, .slice A2 n2 c2, .slice A3 n3 c3, .slice A4 n4 c4, .slice A5 n5 c5] 32)) := (Below.refl _ _).alloc (Nat.le_refl _) _
  have bP := Blk.new w 32 #[.slice A1 n1 c1, .slice A2 n2 c2, .slice A3 n3 c3, .slice A4 n4 c4, .slice A5 n5 c5]
  have box : ∀ W, Blk W w.heap.size 32 #[.slice A1 n1 c1, .slice A2 n2 c2, .slice A3 n3 c3, .slice A4 n4 c4, .slice A5 n5 c5] → W.cell? ⟨w.heap.size, 0, none⟩ = some (.slice A1 n1 c1) ∧ W.cell? ⟨w.heap.size, 1, none⟩ = some (.slice A2 n2 c2) ∧ W.cell? ⟨w.heap.size, 2, none⟩ = some (.slice A3 n3 c3) ∧ W.cell? ⟨w.heap.size, 3, none⟩ = some (.slice A4 n4 c4) ∧ W.cell? ⟨w.heap.size, 4, none⟩ = some (.slice A5 n5 c5) := fun W hb => ⟨(hb.cell 0).trans rfl, (hb.cell 1).trans rfl, (hb.cell 2).trans rfl, (hb.cell 3).trans rfl, (hb.cell 4).trans rfl⟩
  unfold PrV.v Sl.v at hp hq ⊢
  simp only [] at hp hq ⊢
  cases hz : properB P l
  · rw [hz] at hp
    have Hr : Hid (r = false) := Lib.hid (by rw [Hdef.out, hz]; rfl)
    go_enter Tryz.func31, Tryz.ntmps31
    go_wp2_with fail
    refine (hp _ b1).mono ?_
    rintro e w1 ⟨rfl, bw1⟩
    have b2 := b1.trans (bw1.mono b1.size)
    go_wp2_with fail
    go_ret
    exact ⟨ret_bool Hr.out.symm, b2⟩
  · rw [hz] at hp
    obtain ⟨hk, hlen, hu⟩ := ok.out hz
    have OK := chkP_ok hk
    have hfl := OK.fixl
    rw [l5, ← hlen, hn] at hfl
    subst hfl
    have HN := Lib.hid hn
    have L5 := Lib.hid l5
    have hn10 : n5 ≤ 10 := by have := OK.n10; rw [← hlen, hn] at this; exact this
    have hnb : (n5 : Int) ≤ 10 := by omega
    clear OK hk hu hn l1 l2 l3 l4 l5 ok s1 w1 w4 hb hlen e1 e2 e3 e4
    cases hy : BrokenB P l
    · rw [hy] at hq
      have Hr : Hid (r = (List.range l.length).all (vok P.fix l)) := Lib.hid (by rw [Hdef.out, hz, hy]; rfl)
      clear Hdef hz hy
      go_enter Tryz.func31, Tryz.ntmps31
      go_wp2_with fail
      refine (hp _ b1).mono ?_
      rintro e w1 ⟨rfl, bw1⟩
      have b2 := b1.trans (bw1.mono b1.size)
      have bP1 := bP.on bw1
      obtain ⟨t0, t1, t2, t3, t4⟩ := box _ bP1
      go_wp2_with fail
      refine (hq _ b2).mono ?_
      rintro e W4 ⟨rfl, bw2⟩
      have b4 := b2.trans (bw2.mono b2.size)
      have bP4 := bP1.on bw2
      clear t0 t1 t2 t3 t4 hp hq bP bP1 bw1 bw2 b1 b2
      go_wp2_with fail
      go_loopw [18] (fun i wr => ∃ k : Nat, k ≤ n5 ∧ i = .int .i64 k ∧ Hid (∀ j, j < k → vok P.fix l j = true) ∧ Below W4.heap.size W4 wr) (fun i _ => n5 - (intOf i).toNat)
      case atStart => exact ⟨0, Nat.zero_le _, rfl, Lib.hid (fun j hj => absurd hj (by omega)), Below.refl _ _⟩
      case round =>
        obtain ⟨k, hk, rfl, HQ, hC⟩ := hrel
        have cw := b4.trans (hC.mono b4.size)
        obtain ⟨t0, t1, t2, t3, t4⟩ := box _ (bP4.on hC)
        by_cases hlt : k < n5
        · have hlt' : (k : Int) < (n5 : Int) := by omega
          obtain ⟨b, o, u, rfl, hbl, Hu, hcu⟩ := Sees.int (k := k) (hl.below cw) (by rw [HN.out]; omega)
          obtain ⟨b', o', f, rfl, hbl', Hf, hcf⟩ := Sees.int (k := k) (e5.below cw) (by rw [L5.out]; omega)
          have Hv : Hid (vok P.fix l k = (decide (u ≠ 0) && (decide (f = 0) || decide (f = u)))) := Lib.hid (by unfold vok fixOk atI; rw [Hu.out, Hf.out]; rfl)
          have Hbad : Hid (vok P.fix l k = false → r = false) := Lib.hid (fun hh => by rw [Hr.out]; exact all_range_not (by rw [HN.out]; exact hlt) hh)
          have Hok : Hid (vok P.fix l k = true → ∀ j, j < k + 1 → vok P.fix l j = true) := Lib.hid (fun hh j hj => by
            rcases Nat.lt_succ_iff_lt_or_eq.1 hj with h1 | rfl
            · exact HQ.out j h1
            · exact hh)
          clear Hu Hf
          by_cases q0 : u = 0
          · subst q0
            have H0 := Lib.hid (Hbad.out (by rw [Hv.out]; rfl))
            go_wp2_with fail
            go_ret
            exact ⟨ret_bool H0.out.symm, cw⟩
          · have q0b : (u == 0) = false := by simpa using q0
            by_cases q1 : f = 0
            · subst q1
              have H0 := Lib.hid (Hok.out (by rw [Hv.out, decide_eq_true q0]; simp))
              clear q0
              go_wp2_with fail
              go_roundw
              case rel => exact ⟨k + 1, by omega, by go_num, H0, hC⟩
              case measure => simp [intOf]; omega
            · have q1b : (f != 0) = true := by simpa using q1
              by_cases q2 : f = u
              · subst q2
                have H0 := Lib.hid (Hok.out (by rw [Hv.out, decide_eq_true q0]; simp))
                clear q0 q1
                go_wp2_with fail
                go_roundw
                case rel => exact ⟨k + 1, by omega, by go_num, H0, hC⟩
                case measure => simp [intOf]; omega
              · have q2b : (f != u) = true := by simpa using q2
                have H0 := Lib.hid (Hbad.out (by rw [Hv.out, decide_eq_true q0, decide_eq_false q1, decide_eq_false q2]; rfl))
                clear q0 q1 q2
                go_wp2_with fail
                go_ret
                exact ⟨ret_bool H0.out.symm, cw⟩
        · have hlt' : ¬ (k : Int) < (n5 : Int) := by omega
          have H0 : Hid (r = true) := Lib.hid (by
            rw [Hr.out]
            exact all_range_of fun j hj => HQ.out j (by rw [HN.out] at hj; omega))
          go_wp2_with fail
          go_ret
          exact ⟨ret_bool H0.out.symm, cw⟩
    · rw [hy] at hq
      have Hr : Hid (r = false) := Lib.hid (by rw [Hdef.out, hz, hy]; rfl)
      clear Hdef hz hy
      go_enter Tryz.func31, Tryz.ntmps31
      go_wp2_with fail
      refine (hp _ b1).mono ?_
      rintro e w1 ⟨rfl, bw1⟩
      have b2 := b1.trans (bw1.mono b1.size)
      have bP1 := bP.on bw1
      obtain ⟨t0, t1, t2, t3, t4⟩ := box _ bP1
      go_wp2_with fail
      refine (hq _ b2).mono ?_
      rintro e W4 ⟨rfl, bw2⟩
      have b4 := b2.trans (bw2.mono b2.size)
      go_wp2_with fail
      go_ret
      exact ⟨ret_bool Hr.out.symm, b4⟩
end Go.Proofs.YtcnofhlgiffkjaaGreatDoor
/- The reference's All. -/

namespace Go.Proofs.YtcnofhlgiffkjaaGreatDoor
open Go.RowKit
set_option linter.unusedVariables false
set_option linter.unusedSimpArgs false

/-- The values vs are slices of the call's own that hold the numbers ls. -/
def RowsI (w : World) (base : Nat) (vs : List Value) (ls : List (List Int)) : Prop :=
  vs.length = ls.length ∧ ∀ (i : Nat) (u : Value) (l : List Int), vs[i]? = some u → ls[i]? = some l → ∃ A n c, u = .slice A n c ∧ OwnI w base u n l
theorem RowsI.nil (w : World) (base : Nat) : RowsI w base [] [] := ⟨rfl, fun i u l h => by simp at h⟩
theorem RowsI.kept {w w' : World} {base : Nat} {vs : List Value} {ls : List (List Int)} {row : Option Nat} (h : RowsI w base vs ls) (hg : w.grownBy w' row) (hne : ∀ u n l, OwnI w base u n l → u.ownBlock = none ∨ u.ownBlock ≠ row) : RowsI w' base vs ls :=
  ⟨h.1, fun i u l h1 h2 => by obtain ⟨A, n, c, e, o⟩ := h.2 i u l h1 h2; exact ⟨A, n, c, e, o.kept hg (hne u n l o)⟩⟩
theorem RowsI.on {w w' : World} {base : Nat} {vs : List Value} {ls : List (List Int)} (h : RowsI w base vs ls) (hb : Below w.heap.size w w') : RowsI w' base vs ls :=
  ⟨h.1, fun i u l h1 h2 => by obtain ⟨A, n, c, e, o⟩ := h.2 i u l h1 h2; exact ⟨A, n, c, e, o.on hb⟩⟩
theorem RowsI.snoc {w : World} {base : Nat} {vs : List Value} {ls : List (List Int)} {A : Option Addr} {n c : Nat} {l : List Int} (h : RowsI w base vs ls) (hu : OwnI w base (.slice A n c) n l) : RowsI w base (vs ++ [.slice A n c]) (ls ++ [l]) :=
  ⟨by simp [h.1], fun i u m h1 h2 => by
    by_cases hi : i < vs.length
    · rw [List.getElem?_append_left hi] at h1
      rw [List.getElem?_append_left (by rw [← h.1]; exact hi)] at h2
      exact h.2 i u m h1 h2
    · have hl : i < (vs ++ [Value.slice A n c]).length := (List.getElem?_eq_some_iff.1 h1).1
      obtain rfl : i = vs.length := by simp at hl; omega
      simp at h1
      rw [h.1] at h2
      simp at h2
      subst h1 h2
      exact ⟨A, n, c, rfl, hu⟩⟩
/-- A slice of the call's own, of slices of the call's own. -/
structure OwnLL (w : World) (base : Nat) (v : Value) (n : Nat) (ls : List (List Int)) : Prop where
  ex : ∃ vs, w.ownsRow base 30 1 v n vs ∧ RowsI w base vs ls
theorem OwnLL.on {w w' : World} {base n : Nat} {v : Value} {ls : List (List Int)} (h : OwnLL w base v n ls) (hb : Below w.heap.size w w') : OwnLL w' base v n ls := by
  obtain ⟨vs, h1, h2⟩ := h.ex
  exact ⟨vs, own_on h1 hb, h2.on hb⟩
theorem OwnLL.len {w : World} {base n : Nat} {v : Value} {ls : List (List Int)} (h : OwnLL w base v n ls) : ls.length = n := by
  obtain ⟨vs, h1, h2⟩ := h.ex
  have := h1.1
  rw [← h2.1]; omega
theorem OwnLL.less {w : World} {base base' n : Nat} {v : Value} {ls : List (List Int)} (h : OwnLL w base v n ls) (hb : base' ≤ base) : OwnLL w base' v n ls := by
  obtain ⟨vs, h1, h2⟩ := h.ex
  refine ⟨vs, own_less h1 hb, h2.1, fun i u l a b => ?_⟩
  obtain ⟨A, n, c, e, o⟩ := h2.2 i u l a b
  exact ⟨A, n, c, e, own_less o hb⟩
theorem OwnLL.get {w : World} {base n c i : Nat} {A : Option Addr} {ls : List (List Int)} {l : List Int} (h : OwnLL w base (.slice A n c) n ls) (hl : ls[i]? = some l) :
    ∃ b o A' m c', A = some ⟨b, o, none⟩ ∧ b < w.heap.size ∧ w.cell? ⟨b, o + i, none⟩ = some (.slice A' m c') ∧ OwnI w base (.slice A' m c') m l := by
  obtain ⟨vs, h1, h2⟩ := h.ex
  have hi := (List.getElem?_eq_some_iff.1 hl).1
  obtain ⟨u, hu⟩ : ∃ u, vs[i]? = some u := ⟨_, List.getElem?_eq_getElem (by rw [h2.1]; exact hi)⟩
  obtain ⟨A', m, c', rfl, ho⟩ := h2.2 i u l hu hl
  obtain ⟨b, o, e, hb, hc⟩ := Sees.own h1 (by omega) (by intro e; rw [e] at hu; simp at hu)
  exact ⟨b, o, A', m, c', e, hb, hc i _ hu, ho⟩
/-- One more row. -/
theorem OwnLL.snoc {w w' : World} {base n n' c' : Nat} {v : Value} {A' : Option Addr} {ls : List (List Int)} {vs : List Value} {A : Option Addr} {m c : Nat} {l : List Int} (h1 : w.ownsRow base 30 1 v n vs) (h2 : RowsI w base vs ls)
    (ho : w'.ownsRow base 30 1 (.slice A' n' c') n' (vs ++ [.slice A m c])) (hg : w.grownBy w' v.ownBlock) (hu : OwnI w base (.slice A m c) m l) : OwnLL w' base (.slice A' n' c') n' (ls ++ [l]) :=
  ⟨_, ho, (h2.kept hg fun u n l hu => own_apart hu h1 (by decide)).snoc (hu.kept hg (own_apart hu h1 (by decide)))⟩
theorem OwnLL.keepGrow {w w' : World} {base base' n n' : Nat} {v v' : Value} {ls : List (List Int)} {xs : List Value} (h : OwnLL w base v n ls) (h' : w.ownsRow base' 30 1 v' n' xs) (hg : w.grownBy w' v'.ownBlock) (hap : v.ownBlock = none ∨ v.ownBlock ≠ v'.ownBlock) : OwnLL w' base v n ls := by
  obtain ⟨vs, h1, h2⟩ := h.ex
  exact ⟨vs, World.ownsRow.kept h1 hg hap, h2.kept hg fun u n l hu => own_apart hu h' (by decide)⟩
theorem OwnLL.ap {w : World} {base n x : Nat} {v v' v9 : Value} {ls : List (List Int)} (h : OwnLL w base v n ls) (hap : v.ownBlock = none ∨ v.ownBlock ≠ v'.ownBlock) (hk : v9.ownBlock = v'.ownBlock ∨ v9.ownBlock = some x) (hx : w.heap.size ≤ x) : v.ownBlock = none ∨ v.ownBlock ≠ v9.ownBlock := by
  rcases hk with h1 | h1
  · rw [h1]; exact hap
  · rw [h1]
    cases hv : v.ownBlock with
    | none => exact .inl rfl
    | some g =>
      right
      obtain ⟨vs, h1, _⟩ := h.ex
      have := (h1.lt _ hv).2
      intro e
      injection e with e
      omega
theorem sl_info : (Tryz.prog.info? 30).map (fun i => (i.zero, i.size, i.bytes)) = some (some (.slice none 0 0), 1, 24) := by kernel_rfl

/-- All lists of k users from 1 to 6. -/
def sixL (l : List Int) : Nat → List (List Int)
  | 0 => []
  | j + 1 => sixL l j ++ [l ++ [((j + 1 : Nat) : Int)]]
def longF (ls : List (List Int)) : List (List Int) := ls.flatMap fun l => sixL l 6
def longL : Nat → List (List Int)
  | 0 => [[]]
  | k + 1 => longF (longL k)
def allL (P : Pr) : List (List Int) := (longL P.elig.length).filter (ValidB P)
theorem sixL_len (l : List Int) (j : Nat) : (sixL l j).length = j := by
  induction j with
  | zero => rfl
  | succ j ih => unfold sixL; rw [List.length_append, ih]; rfl
theorem longL_len (k : Nat) : (longL k).length = 6 ^ k := by
  induction k with
  | zero => rfl
  | succ k ih =>
    show (longF (longL k)).length = _
    unfold longF
    rw [flat_len (m := 6) (fun l => sixL_len l 6), ih, Nat.pow_succ]
theorem longL_rows (k : Nat) : ∀ l ∈ longL k, l.length = k := by
  induction k with
  | zero => intro l hl; have : l = [] := by simpa [longL] using hl
            rw [this]; rfl
  | succ k ih =>
    intro l hl
    obtain ⟨l0, h0, h1⟩ := List.mem_flatMap.1 (show l ∈ longF (longL k) from hl)
    have h2 : ∀ j, ∀ x ∈ sixL l0 j, x.length = l0.length + 1 := fun j => by
      induction j with
      | zero => intro x hx; simp [sixL] at hx
      | succ j ih =>
        intro x hx
        rcases List.mem_append.1 (show x ∈ sixL l0 j ++ _ from hx) with h | h
        · exact ih x h
        · have : x = l0 ++ [((j + 1 : Nat) : Int)] := by simpa using h
          rw [this]; simp
    rw [h2 6 l h1, ih l0 h0]
theorem longF_take {ls : List (List Int)} {i : Nat} {l : List Int} (h : ls[i]? = some l) : longF (ls.take (i + 1)) = longF (ls.take i) ++ sixL l 6 := by
  unfold longF
  rw [List.take_add_one, h]
  simp
theorem longF_len (ls : List (List Int)) : (longF ls).length = ls.length * 6 := flat_len (fun l => sixL_len l 6) ls

set_option maxHeartbeats 16000000 in
set_option maxRecDepth 100000 in
/-- All. -/
theorem all_any (p : PrV) (P : Pr) (w : World) (h : RPrAt w w.heap.size p P) (h5 : P.elig.length ≤ 5) :
    Calls Tryz.prog 9 #[p.v] w fun e w' => ∃ A n c, e = .returned (.slice A n c) ∧ OwnLL w' w.heap.size (.slice A n c) n (allL P) ∧ n ≤ 10000 ∧ Below w.heap.size w w' := by
  have hva := fun W (hW : Below w.heap.size w W) A n c l hl hn hb => rvalid_any p P A n c l W (h.on hW) hl hn hb
  have hlen := h.l1
  obtain ⟨⟨A1, n1, c1⟩, ⟨A2, n2, c2⟩, ⟨A3, n3, c3⟩, ⟨A4, n4, c4⟩, ⟨A5, n5, c5⟩⟩ := p
  have b1 : Below w.heap.size w (w.alloc (.cells #[.slice A1 n1 c1, .slice A2 n2 c2, .slice A3 n3 c3, .slice A4 n4 c4, .slice A5 n5 c5] 32)) := (Below.refl _ _).alloc (Nat.le_refl _) _
  have bP := Blk.new w 32 #[.slice A1 n1 c1, .slice A2 n2 c2, .slice A3 n3 c3, .slice A4 n4 c4, .slice A5 n5 c5]
  simp only at hlen
  rw [hlen] at h5
  have h5' : (n1 : Int) ≤ 5 := by omega
  have HL := Lib.hid hlen
  unfold PrV.v Sl.v at hva ⊢
  simp only [] at hva ⊢
  clear h hlen
  go_enter Tryz.func9, Tryz.ntmps9
  go_wp2_with fail
  have bP2 := bP.alloc (.cells #[.slice none 0 0] 30)
  have b2 := bAl b1 (.cells #[.slice none 0 0] 30)
  have hrow0 := World.ownsRow_lit (base := w.heap.size) (e := 30) (size := 1) (w.alloc (.cells #[.slice A1 n1 c1, .slice A2 n2 c2, .slice A3 n3 c3, .slice A4 n4 c4, .slice A5 n5 c5] 32)) #[.slice none 0 0] 1 b1.size (by unfold maxLen; omega) rfl
  rw [World.size_alloc] at hrow0
  generalize ((w.alloc (.cells #[.slice A1 n1 c1, .slice A2 n2 c2, .slice A3 n3 c3, .slice A4 n4 c4, .slice A5 n5 c5] 32)).alloc (.cells #[.slice none 0 0] 30)) = W1 at bP2 b2 hrow0 ⊢
  clear bP b1
  have E0 : OwnLL W1 w.heap.size (.slice (some ⟨w.heap.size + 1, 0, none⟩) 1 1) 1 (longL 0) := ⟨[.slice none 0 0], hrow0, (RowsI.nil _ _).snoc (OwnI.nil _ _)⟩
  clear hrow0
  have hzW : w.heap.size ≤ W1.heap.size := b2.size
  have box : ∀ W, Blk W w.heap.size 32 #[.slice A1 n1 c1, .slice A2 n2 c2, .slice A3 n3 c3, .slice A4 n4 c4, .slice A5 n5 c5] → W.cell? ⟨w.heap.size, 0, none⟩ = some (.slice A1 n1 c1) ∧ W.cell? ⟨w.heap.size, 1, none⟩ = some (.slice A2 n2 c2) ∧ W.cell? ⟨w.heap.size, 2, none⟩ = some (.slice A3 n3 c3) ∧ W.cell? ⟨w.heap.size, 3, none⟩ = some (.slice A4 n4 c4) ∧ W.cell? ⟨w.heap.size, 4, none⟩ = some (.slice A5 n5 c5) := fun W hb =>
    ⟨(hb.cell 0).trans rfl, (hb.cell 1).trans rfl, (hb.cell 2).trans rfl, (hb.cell 3).trans rfl, (hb.cell 4).trans rfl⟩
  obtain ⟨a1, hA1⟩ : ∃ a1 : Option Addr, a1 = some ⟨w.heap.size + 1, 0, none⟩ := ⟨_, rfl⟩
  rw [← hA1] at E0 ⊢
  clear hA1
  go_loopw [3, 15] (fun v3 v15 wr => ∃ (k n c : Nat) (A : Option Addr), k ≤ n1 ∧ v15 = .int .i64 k ∧ v3 = .slice A n c ∧ OwnLL wr w.heap.size (.slice A n c) n (longL k) ∧ Below w.heap.size w wr ∧ Blk wr w.heap.size 32 #[.slice A1 n1 c1, .slice A2 n2 c2, .slice A3 n3 c3, .slice A4 n4 c4, .slice A5 n5 c5]) (fun _ v15 _ => n1 - (intOf v15).toNat)
  case atStart => exact ⟨0, _, _, _, Nat.zero_le _, rfl, rfl, E0, b2, bP2⟩
  case round =>
    clear E0
    obtain ⟨k, n, c, A, hk, rfl, rfl, hE, hB, hP⟩ := hrel
    obtain ⟨t0, t1, t2, t3, t4⟩ := box _ hP
    have hnl : n = 6 ^ k := by rw [← hE.len, longL_len]
    have hn5 : 6 ^ k ≤ 6 ^ 5 := Nat.pow_le_pow_right (by omega) (by omega)
    have hnb : n ≤ 7776 := by rw [hnl]; exact hn5
    have hnb' : (n : Int) ≤ 7776 := by omega
    clear hn5 hnl
    have HLn := Lib.hid hE.len
    by_cases hlt : k < n1
    · have hlt' : (k : Int) < (n1 : Int) := by omega
      have hE0 := hE
      clear t0 t1 t2 t3 t4
      go_wp2_with fail
      go_loopw [4, 19] (fun v4 v19 wr => ∃ (i n' c' : Nat) (A' : Option Addr), i ≤ n ∧ v19 = .int .i64 i ∧ v4 = .slice A' n' c' ∧ OwnLL wr w.heap.size (.slice A' n' c') n' (longF ((longL k).take i)) ∧ OwnLL wr w.heap.size (.slice A n c) n (longL k) ∧ ((Value.slice A n c).ownBlock = none ∨ (Value.slice A n c).ownBlock ≠ (Value.slice A' n' c').ownBlock) ∧ Below w.heap.size w wr ∧ Blk wr w.heap.size 32 #[.slice A1 n1 c1, .slice A2 n2 c2, .slice A3 n3 c3, .slice A4 n4 c4, .slice A5 n5 c5]) (fun _ v19 _ => n - (intOf v19).toNat)
      case atStart => exact ⟨0, _, _, _, Nat.zero_le _, rfl, rfl, ⟨[], World.ownsRow_nil _ _ _ _, RowsI.nil _ _⟩, hE, by cases A <;> simp [Value.ownBlock], hB, hP⟩
      case round =>
        clear hE hB hE0 hP
        obtain ⟨i, n', c', A', hi, rfl, rfl, hF, hE, hap, hB, hP⟩ := hrel
        by_cases hlt2 : i < n
        · have hlt2' : (i : Int) < (n : Int) := by omega
          obtain ⟨l, hl⟩ : ∃ l, (longL k)[i]? = some l := ⟨_, List.getElem?_eq_getElem (by rw [HLn.out]; exact hlt2)⟩
          have hlk := Lib.hid (longL_rows k l (List.mem_of_getElem? hl))
          have HT := Lib.hid (longF_take hl)
          obtain ⟨b, o, A7, m7, c7, rfl, hb7, hc7, hR⟩ := hE.get hl
          have hm7 := hR.len
          rw [hlk.out] at hm7
          obtain rfl : k = m7 := hm7
          clear hl
          go_wp2_with fail
          go_loopw [4, 7] (fun v4 v7 wr => ∃ (j n' c' : Nat) (A' : Option Addr), j ≤ 6 ∧ v7 = .int .i64 ((j : Int) + 1) ∧ v4 = .slice A' n' c' ∧ OwnLL wr w.heap.size (.slice A' n' c') n' (longF ((longL k).take i) ++ sixL l j) ∧ OwnLL wr w.heap.size (.slice (some ⟨b, o, none⟩) n c) n (longL k) ∧ OwnI wr w.heap.size (.slice A7 k c7) k l ∧ ((Value.slice (some ⟨b, o, none⟩) n c).ownBlock = none ∨ (Value.slice (some ⟨b, o, none⟩) n c).ownBlock ≠ (Value.slice A' n' c').ownBlock) ∧ Below w.heap.size w wr ∧ Blk wr w.heap.size 32 #[.slice A1 n1 c1, .slice A2 n2 c2, .slice A3 n3 c3, .slice A4 n4 c4, .slice A5 n5 c5]) (fun _ v7 _ => 7 - (intOf v7).toNat)
          case atStart => exact ⟨0, _, _, _, Nat.zero_le _, rfl, rfl, by simpa [sixL] using hF, hE, hR, hap, hB, hP⟩
          case round =>
            clear hF hE hR hB hb7 hc7 hap hP
            obtain ⟨j, n', c', A', hj, rfl, rfl, hF, hE, hR, hap, hB, hP⟩ := hrel
            have hzr : w.heap.size ≤ wr.heap.size := hB.size
            by_cases hlt3 : j < 6
            · have hlt3' : (j : Int) + 1 ≤ 6 := by omega
              have hn' : n' ≤ 50000 := by
                have := hF.len
                rw [List.length_append, longF_len, sixL_len, List.length_take] at this
                omega
              have hM : OwnI (wr.alloc (.cells #[] 3)) wr.heap.size (.slice (some ⟨wr.heap.size, 0, none⟩) 0 0) 0 [] := World.ownsRow_made _ _ _ (Nat.le_refl _) (by unfold maxLen; omega) rfl
              have b01 : Below wr.heap.size wr (wr.alloc (.cells #[] 3)) := bAl (Below.refl _ _) _
              have hR1 := hR.on b01
              have hz1 : wr.heap.size ≤ (wr.alloc (.cells #[] 3)).heap.size := b01.size
              go_wp2_with (at_builtin; first
                | (refine wpL_row1 30 47 _ 1 24 sl_info Tryz.underlying47 rfl (by omega) (by omega) _ rfl (.tmp 27) (.tmp 34) rfl w6 w.heap.size _ n' _ rfl hv1 #[.slice A6 (k + 1) c6] rfl _ rfl rfl rfl (by simp [Value.oneCell']) (by omega) hz6 (n' + 1) rfl ?_; intro A9 c9 w9 o9 g9 b9 k9)
                | (have mm := o5; refine wpL_appI1 _ rfl (.tmp 30) (.tmp 32) rfl w5 wr.heap.size _ k _ rfl o5 _ rfl _ rfl rfl (by omega) b05.size (k + 1) rfl ?_; intro A6 c6 w6 o6 g6 b6; have b06 : Below wr.heap.size wr w6 := b05.trans b6; have hz6 : w.heap.size ≤ w6.heap.size := Nat.le_trans hzr b06.size; obtain ⟨vs, hv1, hv2⟩ := (hF.on b06).ex)
                | (refine wpL_appI _ rfl (.tmp 28) (.tmp 29) rfl wr.heap.size _ 0 [] rfl hM _ A7 k c7 l rfl hlk.out hR1.sees (by omega) hz1 k (by omega) l rfl ?_; intro A5' c5' w5 o5 g5 k5; have b05 : Below wr.heap.size wr w5 := below_app b01 hz1 hM g5))
              have F9 := OwnLL.snoc hv1 hv2 o9 g9 (own_less o6 hzr)
              have E9 := (hE.on b06).keepGrow hv1 g9 hap
              have R9 := (hR.on b06).kept g9 (own_apart (hR.on b06) hv1 (by decide))
              have ap9 := (hE.on b06).ap hap k9 (Nat.le_succ _)
              have B9 := (hB.trans (b06.mono hzr)).trans b9
              have P9 := (hP.on b06).grown g9 (own_off hv1 (hP.on b06) (by decide))
              rw [List.append_assoc] at F9
              go_roundw
              case rel => exact ⟨j + 1, n' + 1, c9, A9, by omega, by go_num, by simp, F9, E9, R9, ap9, B9, P9⟩
              case measure => simp [intOf]; omega
            · have hlt3' : ¬ (j : Int) + 1 ≤ 6 := by omega
              obtain rfl : j = 6 := by omega
              go_wp2_with fail
              go_roundw
              case rel => exact ⟨i + 1, _, _, _, by omega, by go_num, rfl, by rw [HT.out]; exact hF, hE, hap, hB, hP⟩
              case measure => simp [intOf]; omega
        · have hlt2' : ¬ (i : Int) < (n : Int) := by omega
          obtain rfl : n = i := by omega
          have hT : (longL k).take n = longL k := List.take_of_length_le (by rw [HLn.out]; exact Nat.le_refl _)
          rw [hT] at hF
          clear hT
          go_wp2_with fail
          go_roundw
          case rel => exact ⟨k + 1, _, _, _, by omega, by go_num, rfl, hF, hB, hP⟩
          case measure => simp [intOf]; omega
    · have hlt' : ¬ (k : Int) < (n1 : Int) := by omega
      obtain rfl : n1 = k := by omega
      go_wp2_with fail
      go_loopw [8, 41] (fun v8 v41 wr => ∃ (i n' c' : Nat) (A' : Option Addr), i ≤ n ∧ v41 = .int .i64 i ∧ v8 = .slice A' n' c' ∧ n' ≤ i ∧ OwnLL wr w.heap.size (.slice A' n' c') n' (((longL n1).take i).filter (ValidB P)) ∧ OwnLL wr w.heap.size (.slice A n c) n (longL n1) ∧ ((Value.slice A n c).ownBlock = none ∨ (Value.slice A n c).ownBlock ≠ (Value.slice A' n' c').ownBlock) ∧ Below w.heap.size w wr ∧ Blk wr w.heap.size 32 #[.slice A1 n1 c1, .slice A2 n2 c2, .slice A3 n3 c3, .slice A4 n4 c4, .slice A5 n5 c5]) (fun _ v41 _ => n - (intOf v41).toNat)
      case atStart => exact ⟨0, _, _, _, Nat.zero_le _, rfl, rfl, Nat.le_refl _, ⟨[], World.ownsRow_nil _ _ _ _, RowsI.nil _ _⟩, hE, by cases A <;> simp [Value.ownBlock], hB, hP⟩
      case round =>
        clear hE hB hP t0 t1 t2 t3 t4
        obtain ⟨i, n', c', A', hi, rfl, rfl, hn', hF, hE, hap, hB, hP⟩ := hrel
        by_cases hlt2 : i < n
        · have hlt2' : (i : Int) < (n : Int) := by omega
          obtain ⟨l, hl⟩ : ∃ l, (longL n1)[i]? = some l := ⟨_, List.getElem?_eq_getElem (by rw [HLn.out]; exact hlt2)⟩
          have hlk := longL_rows n1 l (List.mem_of_getElem? hl)
          have HT : Hid (((longL n1).take (i + 1)).filter (ValidB P) = ((longL n1).take i).filter (ValidB P) ++ if ValidB P l then [l] else []) := Lib.hid (by
            rw [List.take_add_one, hl, List.filter_append]
            congr 1
            cases h : ValidB P l <;> simp [List.filter, h])
          obtain ⟨b, o, A7, m7, c7, rfl, hb7, hc7, hR⟩ := hE.get hl
          have hm7 := hR.len
          clear hl
          obtain ⟨t0, t1, t2, t3, t4⟩ := box _ hP
          have hv := hva wr hB A7 m7 c7 l hR.sees hm7 (by omega)
          have hzr : w.heap.size ≤ wr.heap.size := hB.size
          cases hvl : ValidB P l
          · rw [hvl] at hv HT
            go_wp2_with fail
            refine hv.mono ?_
            rintro e w2 ⟨rfl, bw⟩
            go_wp2_with fail
            go_roundw
            case rel => exact ⟨i + 1, _, _, _, by omega, by go_num, rfl, by omega, by rw [HT.out]; simpa using hF.on bw, hE.on bw, hap, hB.trans (bw.mono hzr), hP.on bw⟩
            case measure => simp [intOf]; omega
          · rw [hvl] at hv HT
            go_wp2_with fail
            refine hv.mono ?_
            rintro e w2 ⟨rfl, bw⟩
            have F2 := hF.on bw
            have E2 := hE.on bw
            have R2 := hR.on bw
            have P2 := hP.on bw
            have B2 := hB.trans (bw.mono hzr)
            obtain ⟨vs, hv1, hv2⟩ := F2.ex
            go_wp2_with (at_builtin; refine wpL_row1 30 47 _ 1 24 sl_info Tryz.underlying47 rfl (by omega) (by omega) _ rfl (.tmp 48) (.tmp 50) rfl w2 w.heap.size _ n' _ rfl hv1 #[.slice A7 m7 c7] rfl _ rfl rfl rfl (by simp [Value.oneCell']) (by omega) B2.size (n' + 1) rfl ?_; intro A9 c9 w9 o9 g9 b9 k9)
            have F9 := OwnLL.snoc hv1 hv2 o9 g9 R2
            have E9 := E2.keepGrow hv1 g9 hap
            have ap9 := E2.ap hap k9 (Nat.le_succ _)
            have P9 := P2.grown g9 (own_off hv1 P2 (by decide))
            go_roundw
            case rel => exact ⟨i + 1, _, _, _, by omega, by go_num, rfl, by omega, by rw [HT.out]; exact F9, E9, ap9, B2.trans b9, P9⟩
            case measure => simp [intOf]; omega
        · have hlt2' : ¬ (i : Int) < (n : Int) := by omega
          obtain rfl : n = i := by omega
          have hT : (longL n1).take n = longL n1 := List.take_of_length_le (by rw [HLn.out]; exact Nat.le_refl _)
          rw [hT, ← HL.out] at hF
          clear hT
          go_wp2_with fail
          go_ret
          exact ⟨A', n', c', rfl, hF, by omega, hB⟩
end Go.Proofs.YtcnofhlgiffkjaaGreatDoor
