/- A pack of texts: RChk, RLst, RMk. -/
import Derived.Test.YtcnofhlgiffkjaaGreatDoorPc
import Derived.Test.YtcnofhlgiffkjaaGreatDoorPd
import Derived.Test.YtcnofhlgiffkjaaGreatDoorPf
import Derived.Deep.QuietTactic
import Derived.BigQuiet
/- The reference's pairs and CheckProblem. -/
namespace Go.Proofs.YtcnofhlgiffkjaaGreatDoor
open Go.RowKit
set_option linter.unusedVariables false
set_option linter.unusedSimpArgs false

set_option maxHeartbeats 4000000 in
set_option maxRecDepth 100000 in
/-- pairs, the reference's. -/
theorem rpairs_any (A : Option Addr) (n c n1 : Nat) (l : List (Int × Int)) (w : World) (h : PairsAt w w.heap.size A l) (hn : l.length = n) (hb : n ≤ 1000000) (hb1 : n1 ≤ 1000000) :
    Calls Tryz.prog 105 #[.slice A n c, .int .i64 n1] w fun e w' => e = .returned (.int .i64 (chkPairs n1 l)) ∧ Below w.heap.size w w' := by
  have Hn := Lib.hid hn
  have hnb : (n : Int) ≤ 1000000 := by omega
  have hnb1 : (n1 : Int) ≤ 1000000 := by omega
  clear hn
  go_enter Tryz.func105, Tryz.ntmps105
  go_wp2_with fail
  go_loopw [9] (fun i wr => ∃ k : Nat, k ≤ n ∧ i = .int .i64 k ∧ Hid (chkPairs n1 (l.drop k) = chkPairs n1 l) ∧ Below w.heap.size w wr) (fun i _ => n - (intOf i).toNat)
  case atStart => exact ⟨0, Nat.zero_le _, rfl, Lib.hid rfl, Below.refl _ _⟩
  case round =>
    obtain ⟨k, hk, rfl, HP, hB⟩ := hrel
    by_cases hlt : k < n
    · have hlt' : (k : Int) < (n : Int) := by omega
      obtain ⟨⟨x, y⟩, hx⟩ : ∃ x, l[k]? = some x := ⟨_, List.getElem?_eq_getElem (by rw [Hn.out]; exact hlt)⟩
      obtain ⟨b, o, rfl, hb2, hcx, hcy⟩ := (h.below hB) k _ hx
      have Hstep := Lib.hid (chkPairs_drop (n := n1) hx)
      rw [HP.out] at Hstep
      clear hx
      have hbx : Below wr.heap.size wr (wr.alloc (.cells #[.int .i64 x, .int .i64 y] 77)) := (Below.refl _ _).alloc (Nat.le_refl _) _
      have hB2 := hB.trans (hbx.mono hB.size)
      simp only [] at hcx hcy
      by_cases q : x < 0 ∨ y < 0 ∨ (n1 : Int) ≤ x ∨ (n1 : Int) ≤ y
      · have e := Hstep.out
        rw [if_pos q] at e
        have E := Lib.hid e
        clear e
        by_cases q1 : x < 0
        · clear q
          go_wp2_with fail
          go_ret
          exact ⟨ret_int E.out.symm, hB2⟩
        · by_cases q2 : (n1 : Int) ≤ x
          · clear q
            go_wp2_with fail
            go_ret
            exact ⟨ret_int E.out.symm, hB2⟩
          · by_cases q3 : y < 0
            · clear q
              go_wp2_with fail
              go_ret
              exact ⟨ret_int E.out.symm, hB2⟩
            · have q4 : (n1 : Int) ≤ y := by omega
              clear q
              go_wp2_with fail
              go_ret
              exact ⟨ret_int E.out.symm, hB2⟩
      · have e := Hstep.out
        rw [if_neg q] at e
        have q1 : ¬ x < 0 := by omega
        have q2 : ¬ (n1 : Int) ≤ x := by omega
        have q3 : ¬ y < 0 := by omega
        have q4 : ¬ (n1 : Int) ≤ y := by omega
        by_cases q5 : x = y
        · rw [if_pos q5] at e
          have E := Lib.hid e
          have q3b : (x == y) = true := by simpa using q5
          clear e q5 q
          go_wp2_with fail
          go_ret
          exact ⟨ret_int E.out.symm, hB2⟩
        · rw [if_neg q5] at e
          have E := Lib.hid e
          have q3b : (x == y) = false := by simpa using q5
          clear e q5 q
          go_wp2_with fail
          go_roundw
          case rel => exact ⟨k + 1, by omega, by go_num, Lib.hid E.out.symm, hB2⟩
          case measure => simp [intOf]; omega
    · have hlt' : ¬ (k : Int) < (n : Int) := by omega
      go_wp2_with fail
      go_ret
      obtain rfl : k = n := by omega
      have h1 := HP.out
      rw [List.drop_eq_nil_of_le (by rw [Hn.out]; exact Nat.le_refl _)] at h1
      rw [← h1]
      exact ⟨rfl, hB⟩

theorem withinB_pow {M n : Nat} : withinB M (2 ^ n - 1) = decide (M < 2 ^ n) := by
  unfold withinB
  apply decide_eq_decide.2
  have hp := Nat.two_pow_pos n
  constructor
  · intro h
    have := Nat.left_le_or (n := M) (m := 2 ^ n - 1)
    omega
  · intro h
    apply Nat.eq_of_testBit_eq
    intro i
    rw [Nat.testBit_or, Nat.testBit_two_pow_sub_one]
    by_cases hi : i < n
    · simp [hi]
    · rw [Nat.testBit_lt_two_pow (Nat.lt_of_lt_of_le h (Nat.pow_le_pow_right (by omega) (by omega)))]
      simp
theorem lt_pow_up {M m n : Nat} (h : M < 2 ^ m) (hn : m ≤ n) : M < 2 ^ n := Nat.lt_of_lt_of_le h (Nat.pow_le_pow_right (by omega) hn)
theorem eligBad_small {M : Nat} (h : M < 2 ^ 64) : eligBad M = decide (M % 2 = 1) := by
  have e : withinB M (2 ^ 257 - 1) = true := by
    rw [withinB_pow (n := 257)]
    exact decide_eq_true (lt_pow_up (n := 257) h (by omega))
  unfold eligBad
  rw [e, Nat.testBit_zero]
  simp
theorem mstBad_small {n : Nat} {K : Int} {M : Nat} : mstBad n (K, M) = (decide (K < 1) || decide (10 < K) || decide (M = 0) || decide (M / 2 ^ n ≠ 0)) := by
  unfold mstBad
  rw [withinB_pow]
  congr 1
  rw [← decide_not]
  congr 1
  rw [Nat.not_lt, ne_eq, Nat.div_eq_zero_iff]
  have := Nat.two_pow_pos n
  simp only [eq_iff_iff]
  omega
theorem any_take_true {α : Type} {l : List α} {k : Nat} {f : α → Bool} (h : (l.take k).any f = true) : l.any f = true := by
  obtain ⟨x, hx, hp⟩ := List.any_eq_true.1 h
  exact List.any_eq_true.2 ⟨x, List.mem_of_mem_take hx, hp⟩

set_option maxHeartbeats 16000000 in
set_option maxRecDepth 100000 in
/-- CheckProblem, the reference's. -/
theorem rchk_any (p : PrV) (P : Pr) (w : World) (h : RPrAt w w.heap.size p P) :
    Calls Tryz.prog 95 #[p.v] w fun e w' => e = .returned (.int .i64 (chkP P)) ∧ Below w.heap.size w w' := by
  obtain ⟨⟨A1, n1, c1⟩, ⟨A2, n2, c2⟩, ⟨A3, n3, c3⟩, ⟨A4, n4, c4⟩, ⟨A5, n5, c5⟩⟩ := p
  obtain ⟨l1, l2, l3, l4, l5, e1, e2, e3, e4, e5, s1, s2, s3, s4, s5, _, w1, w4⟩ := h
  simp only at l1 l2 l3 l4 l5 e1 e2 e3 e4 e5 s1 s2 s3 s4 s5 w1 w4
  have hdef : chkP P = if n1 = 0 then 4
    else if 10 < n1 ∨ 20 < n2 ∨ 20 < n3 ∨ 20 < n4 then 3
    else if n5 ≠ n1 then 1
    else if P.elig.any eligBad = true then 2
    else if P.fix.any fixBad = true then 2
    else if chkPairs n1 P.dif ≠ 0 then chkPairs n1 P.dif
    else if chkPairs n1 P.sam ≠ 0 then chkPairs n1 P.sam
    else if P.mst.any (mstBad n1) = true then 2 else 0 := by
    unfold chkP
    rw [l1, l2, l3, l4, l5]
  obtain ⟨eb, heb⟩ : ∃ eb, Hid (eb = P.elig.any eligBad) := ⟨_, Lib.hid rfl⟩
  obtain ⟨fb, hfb⟩ : ∃ fb, Hid (fb = P.fix.any fixBad) := ⟨_, Lib.hid rfl⟩
  obtain ⟨db, hdb⟩ : ∃ db, Hid (db = chkPairs n1 P.dif) := ⟨_, Lib.hid rfl⟩
  obtain ⟨sb, hsb⟩ : ∃ sb, Hid (sb = chkPairs n1 P.sam) := ⟨_, Lib.hid rfl⟩
  obtain ⟨mb, hmb⟩ : ∃ mb, Hid (mb = P.mst.any (mstBad n1)) := ⟨_, Lib.hid rfl⟩
  rw [hdef, ← heb.out, ← hfb.out, ← hdb.out, ← hsb.out, ← hmb.out]
  clear hdef
  have b1 : Below w.heap.size w (w.alloc (.cells #[.slice A1 n1 c1, .slice A2 n2 c2, .slice A3 n3 c3, .slice A4 n4 c4, .slice A5 n5 c5] 32)) := (Below.refl _ _).alloc (Nat.le_refl _) _
  have bP := Blk.new w 32 #[.slice A1 n1 c1, .slice A2 n2 c2, .slice A3 n3 c3, .slice A4 n4 c4, .slice A5 n5 c5]
  have sz1 : (w.alloc (.cells #[.slice A1 n1 c1, .slice A2 n2 c2, .slice A3 n3 c3, .slice A4 n4 c4, .slice A5 n5 c5] 32)).heap.size = w.heap.size + 1 := by simp
  have box : ∀ W, Blk W w.heap.size 32 #[.slice A1 n1 c1, .slice A2 n2 c2, .slice A3 n3 c3, .slice A4 n4 c4, .slice A5 n5 c5] → W.cell? ⟨w.heap.size, 0, none⟩ = some (.slice A1 n1 c1) ∧ W.cell? ⟨w.heap.size, 1, none⟩ = some (.slice A2 n2 c2) ∧ W.cell? ⟨w.heap.size, 2, none⟩ = some (.slice A3 n3 c3) ∧ W.cell? ⟨w.heap.size, 3, none⟩ = some (.slice A4 n4 c4) ∧ W.cell? ⟨w.heap.size, 4, none⟩ = some (.slice A5 n5 c5) := fun W hb => ⟨(hb.cell 0).trans rfl, (hb.cell 1).trans rfl, (hb.cell 2).trans rfl, (hb.cell 3).trans rfl, (hb.cell 4).trans rfl⟩
  unfold PrV.v Sl.v
  simp only []
  have L1 := Lib.hid l1
  have L2 := Lib.hid l2
  have L3 := Lib.hid l3
  have L4 := Lib.hid l4
  have L5 := Lib.hid l5
  clear l1 l2 l3 l4 l5
  by_cases q1 : n1 = 0
  · subst q1
    rw [if_pos rfl]
    go_enter Tryz.func95, Tryz.ntmps95
    go_wp2_with fail
    go_ret
    exact ⟨rfl, b1⟩
  rw [if_neg q1]
  have q1b : ((n1 : Int) == 0) = false := beq_false_of_ne (by omega)
  by_cases q2 : 10 < n1 ∨ 20 < n2 ∨ 20 < n3 ∨ 20 < n4
  · rw [if_pos q2]
    by_cases r1 : (10 : Int) < (n1 : Int)
    · clear q2
      go_enter Tryz.func95, Tryz.ntmps95
      go_wp2_with fail
      go_ret
      exact ⟨rfl, b1⟩
    by_cases r2 : (20 : Int) < (n2 : Int)
    · clear q2
      go_enter Tryz.func95, Tryz.ntmps95
      go_wp2_with fail
      go_ret
      exact ⟨rfl, b1⟩
    by_cases r3 : (20 : Int) < (n3 : Int)
    · clear q2
      go_enter Tryz.func95, Tryz.ntmps95
      go_wp2_with fail
      go_ret
      exact ⟨rfl, b1⟩
    have r4 : (20 : Int) < (n4 : Int) := by omega
    clear q2
    go_enter Tryz.func95, Tryz.ntmps95
    go_wp2_with fail
    go_ret
    exact ⟨rfl, b1⟩
  rw [if_neg q2]
  have r1 : ¬ (10 : Int) < (n1 : Int) := by omega
  have r2 : ¬ (20 : Int) < (n2 : Int) := by omega
  have r3 : ¬ (20 : Int) < (n3 : Int) := by omega
  have r4 : ¬ (20 : Int) < (n4 : Int) := by omega
  clear q2 q1
  by_cases q4 : n5 = n1
  · rw [if_neg (by simpa using q4)]
    subst q4
    obtain ⟨r, hr⟩ : ∃ r, Hid (r = if eb = true then (2 : Int) else if fb = true then 2 else if db ≠ 0 then db else if sb ≠ 0 then sb else if mb = true then 2 else 0) := ⟨_, Lib.hid rfl⟩
    rw [← hr.out]
    have b1c : (n5 : Int) ≤ 1000 := by omega
    have hp2 := fun W (hW : Below w.heap.size w W) => rpairs_any A2 n2 c2 n5 P.dif W (e2.below hW |>.more hW.size) L2.out (by omega) (by omega)
    have hp3 := fun W (hW : Below w.heap.size w W) => rpairs_any A3 n3 c3 n5 P.sam W (e3.below hW |>.more hW.size) L3.out (by omega) (by omega)
    rw [← hdb.out] at hp2
    rw [← hsb.out] at hp3
    go_enter Tryz.func95, Tryz.ntmps95
    go_wp2_with fail
    generalize (w.alloc (.cells #[.slice A1 n5 c1, .slice A2 n2 c2, .slice A3 n3 c3, .slice A4 n4 c4, .slice A5 n5 c5] 32)) = W1 at b1 bP sz1 ⊢
    go_loopw [45] (fun i wr => ∃ k : Nat, k ≤ n5 ∧ i = .int .i64 k ∧ Hid ((P.elig.take k).any eligBad = false) ∧ W1 = wr) (fun i _ => n5 - (intOf i).toNat)
    case atStart => exact ⟨0, Nat.zero_le _, rfl, Lib.hid rfl, rfl⟩
    case round =>
      obtain ⟨k, hk, rfl, HP, rfl⟩ := hrel
      by_cases hlt : k < n5
      · have hlt' : (k : Int) < (n5 : Int) := by omega
        obtain ⟨M, hM⟩ : ∃ M, P.elig[k]? = some M := ⟨_, List.getElem?_eq_getElem (by rw [L1.out]; exact hlt)⟩
        obtain ⟨b, o, rfl, hb2, hc⟩ := (e1.below b1).word hM
        have hMs := w1 M (List.mem_of_getElem? hM)
        have hnext := any_take_succ eligBad hM
        rw [HP.out, Bool.false_or, eligBad_small hMs] at hnext
        have hmod : (M : Int).tmod 2 = ((M % 2 : Nat) : Int) := by rw [Int.tmod_eq_emod_of_nonneg (by omega)]; omega
        have Hnext := Lib.hid hnext
        clear hnext hMs
        by_cases m0 : M % 2 = 1
        · have heb1 : eb = true := by
            have := Hnext.out
            rw [decide_eq_true m0] at this
            rw [heb.out]
            exact any_take_true this
          rw [m0] at hmod
          clear Hnext hM m0
          go_wp2_with fail
          go_ret
          exact ⟨ret_int (by rw [hr.out]; simp [heb1]), b1⟩
        · have m1 : M % 2 = 0 := by omega
          rw [decide_eq_false m0] at Hnext
          rw [m1] at hmod
          clear hM m0 m1
          go_wp2_with fail
          go_roundw
          case rel => exact ⟨k + 1, by omega, by go_num, Hnext, by simp⟩
          case measure => simp [intOf]; omega
      · obtain rfl : k = n5 := by omega
        have hlt' : ¬ (k : Int) < (k : Int) := by omega
        have heb1 : eb = false := by
          have := HP.out
          rw [List.take_of_length_le (by rw [L1.out]; exact Nat.le_refl _)] at this
          rw [heb.out, this]
        obtain ⟨x0, x1, x2, x3, x4⟩ := box _ bP
        go_wp2_with fail
        go_loopw [56] (fun i wr => ∃ j : Nat, j ≤ k ∧ i = .int .i64 j ∧ Hid ((P.fix.take j).any fixBad = false) ∧ W1 = wr) (fun i _ => k - (intOf i).toNat)
        case atStart => exact ⟨0, Nat.zero_le _, rfl, Lib.hid rfl, rfl⟩
        case round =>
          obtain ⟨j, hj, rfl, HF, rfl⟩ := hrel
          by_cases hlt : j < k
          · have hlt' : (j : Int) < (k : Int) := by omega
            obtain ⟨b, o, z, rfl, hb2, Hz, hc⟩ := (e5.below b1).int (k := j) (by rw [L5.out]; exact hlt)
            have hnext := any_take_succ fixBad Hz.out
            rw [HF.out, Bool.false_or] at hnext
            have Hnext := Lib.hid hnext
            clear hnext
            by_cases z0 : z < 0
            · have hfb1 : fb = true := by
                have := Hnext.out
                unfold fixBad at this
                rw [decide_eq_true (by omega)] at this
                rw [hfb.out]
                exact any_take_true this
              clear Hnext
              go_wp2_with fail
              go_ret
              exact ⟨ret_int (by rw [hr.out]; simp [hfb1]), b1⟩
            · by_cases z1 : 256 < z
              · have hfb1 : fb = true := by
                  have := Hnext.out
                  unfold fixBad at this
                  rw [decide_eq_true (by omega)] at this
                  rw [hfb.out]
                  exact any_take_true this
                clear Hnext
                go_wp2_with fail
                go_ret
                exact ⟨ret_int (by rw [hr.out]; simp [hfb1]), b1⟩
              · have hf : Hid ((P.fix.take (j + 1)).any fixBad = false) := Lib.hid (by rw [Hnext.out]; unfold fixBad; rw [decide_eq_false (by omega)])
                clear Hnext
                go_wp2_with fail
                go_roundw
                case rel => exact ⟨j + 1, by omega, by go_num, hf, by simp⟩
                case measure => simp [intOf]; omega
          · obtain rfl : j = k := by omega
            have hlt' : ¬ (j : Int) < (j : Int) := by omega
            have hfb1 : fb = false := by
              have := HF.out
              rw [List.take_of_length_le (by rw [L5.out]; exact Nat.le_refl _)] at this
              rw [hfb.out, this]
            have Hr : Hid (r = if db ≠ 0 then db else if sb ≠ 0 then sb else if mb = true then 2 else 0) := Lib.hid (by rw [hr.out, heb1, hfb1]; simp)
            clear hr heb1 hfb1 heb hfb hdb hsb
            go_wp2_with fail
            refine (hp2 _ b1).mono ?_
            rintro e w2 ⟨rfl, bw2⟩
            have b2 := b1.trans (bw2.mono b1.size)
            have bP2 := bP.on bw2
            obtain ⟨x0, x1, x2, x3, x4⟩ := box _ bP2
            by_cases d0 : db = 0
            · have d0b : (db != 0) = false := by simpa using d0
              have Hr2 : Hid (r = if sb ≠ 0 then sb else if mb = true then 2 else 0) := Lib.hid (by rw [Hr.out, d0]; simp)
              clear Hr d0
              go_wp2_with fail
              refine (hp3 _ b2).mono ?_
              rintro e w3 ⟨rfl, bw3⟩
              have b3 := b2.trans (bw3.mono b2.size)
              have bP3 := bP2.on bw3
              obtain ⟨x0, x1, x2, x3, x4⟩ := box _ bP3
              by_cases d1 : sb = 0
              · have d1b : (sb != 0) = false := by simpa using d1
                have Hr3 : Hid (r = if mb = true then 2 else 0) := Lib.hid (by rw [Hr2.out, d1]; simp)
                clear Hr2 d1
                go_wp2_with fail
                go_loopw [84] (fun i wr => ∃ i4 : Nat, i4 ≤ n4 ∧ i = .int .i64 i4 ∧ Hid ((P.mst.take i4).any (mstBad j) = false) ∧ Below w.heap.size w wr) (fun i _ => n4 - (intOf i).toNat)
                case atStart => exact ⟨0, Nat.zero_le _, rfl, Lib.hid rfl, b3⟩
                case round =>
                  obtain ⟨i4, hi4, rfl, HM, bw⟩ := hrel
                  by_cases hlt : i4 < n4
                  · have hlt' : (i4 : Int) < (n4 : Int) := by omega
                    obtain ⟨⟨K, M⟩, hx⟩ : ∃ x, P.mst[i4]? = some x := ⟨_, List.getElem?_eq_getElem (by rw [L4.out]; exact hlt)⟩
                    obtain ⟨b, o, rfl, hb2, hcx, hcy⟩ := (e4.below bw) i4 _ hx
                    simp only [] at hcx hcy
                    have hMs := w4 _ (List.mem_of_getElem? hx)
                    simp only [] at hMs
                    have hnext := any_take_succ (mstBad j) hx
                    rw [HM.out, Bool.false_or, mstBad_small] at hnext
                    have Hnext := Lib.hid hnext
                    have bu : Below wr.heap.size wr (wr.alloc (.cells #[.int .i64 K, .int .u64 (M : Int)] 75)) := (Below.refl _ _).alloc (Nat.le_refl _) _
                    have bwu := bw.trans (bu.mono bw.size)
                    have hmb1 : ∀ b, Hid ((P.mst.take (i4 + 1)).any (mstBad j) = b) → b = true → r = 2 := fun b hb1 hb2 => by
                      have h1 := hb1.out
                      rw [hb2] at h1
                      rw [Hr3.out, hmb.out, any_take_true h1]
                      rfl
                    clear hnext hMs hx
                    by_cases k1 : K < 1
                    · have hr1 := Lib.hid (hmb1 _ Hnext (by simp [k1]))
                      clear hmb1 Hnext
                      go_wp2_with fail
                      go_ret
                      exact ⟨ret_int hr1.out.symm, bwu⟩
                    by_cases k2 : 10 < K
                    · have hr1 := Lib.hid (hmb1 _ Hnext (by simp [k2]))
                      clear hmb1 Hnext
                      go_wp2_with fail
                      go_ret
                      exact ⟨ret_int hr1.out.symm, bwu⟩
                    by_cases k3 : M = 0
                    · have hr1 := Lib.hid (hmb1 _ Hnext (by simp [k3]))
                      have k3b : ((M : Int) == 0) = true := by simp; omega
                      clear hmb1 Hnext k3
                      go_wp2_with fail
                      go_ret
                      exact ⟨ret_int hr1.out.symm, bwu⟩
                    have k3b : ((M : Int) == 0) = false := by simp; omega
                    by_cases k4 : M / 2 ^ j = 0
                    · have k4b : ((M : Int) / 2 ^ j != 0) = false := by
                        have e : (M : Int) / 2 ^ j = ((M / 2 ^ j : Nat) : Int) := by simp
                        rw [e, k4]; rfl
                      have hf : Hid ((P.mst.take (i4 + 1)).any (mstBad j) = false) := Lib.hid (by
                        rw [Hnext.out, decide_eq_false k1, decide_eq_false k2, k4, decide_eq_false (by intro h; subst h; simp at k3b)]
                        rfl)
                      clear hmb1 Hnext k4 k3
                      go_wp2_with fail
                      go_roundw
                      case rel => exact ⟨i4 + 1, by omega, by go_num, hf, bwu⟩
                      case measure => simp [intOf]; omega
                    · have k4b : ((M : Int) / 2 ^ j != 0) = true := by
                        have e : (M : Int) / 2 ^ j = ((M / 2 ^ j : Nat) : Int) := by simp
                        rw [e]; simp; omega
                      have hr1 := Lib.hid (hmb1 _ Hnext (by simp [k4]))
                      clear hmb1 Hnext k4 k3
                      go_wp2_with fail
                      go_ret
                      exact ⟨ret_int hr1.out.symm, bwu⟩
                  · obtain rfl : i4 = n4 := by omega
                    have hlt' : ¬ (i4 : Int) < (i4 : Int) := by omega
                    have hr1 : Hid (r = 0) := Lib.hid (by
                      have := HM.out
                      rw [List.take_of_length_le (by rw [L4.out]; exact Nat.le_refl _)] at this
                      rw [Hr3.out, hmb.out, this]
                      rfl)
                    go_wp2_with fail
                    go_ret
                    exact ⟨ret_int hr1.out.symm, bw⟩
              · have d1b : (sb != 0) = true := by simpa using d1
                have Hr3 : Hid (r = sb) := Lib.hid (by rw [Hr2.out, if_pos d1])
                clear Hr2 d1
                go_wp2_with fail
                go_ret
                exact ⟨ret_int Hr3.out.symm, b3⟩
            · have d0b : (db != 0) = true := by simpa using d0
              have Hr2 : Hid (r = db) := Lib.hid (by rw [Hr.out, if_pos d0])
              clear Hr d0
              go_wp2_with fail
              go_ret
              exact ⟨ret_int Hr2.out.symm, b2⟩
  · rw [if_pos (by simpa using q4)]
    have q4b : ((n5 : Int) != (n1 : Int)) = true := by simp; omega
    clear q4
    go_enter Tryz.func95, Tryz.ntmps95
    go_wp2_with fail
    go_ret
    exact ⟨rfl, b1⟩
end Go.Proofs.YtcnofhlgiffkjaaGreatDoor
/- The reference's listed. -/
namespace Go.Proofs.YtcnofhlgiffkjaaGreatDoor
open Go.RowKit
set_option linter.unusedVariables false
set_option linter.unusedSimpArgs false

theorem fixBad_lt {u : Int} : fixBad u = (decide (u < 0) || decide (256 < u)) := by
  unfold fixBad
  by_cases h1 : u < 0
  · simp [h1]; omega
  · by_cases h2 : 256 < u
    · simp [h1, h2]; omega
    · simp [h1, h2]; omega
set_option maxHeartbeats 8000000 in
set_option maxRecDepth 100000 in
/-- listed. -/
theorem rlisted_any (p : PrV) (P : Pr) (A : Option Addr) (n c : Nat) (l : List Int) (w : World) (h : RPrAt w w.heap.size p P) (hl : Sees w w.heap.size A (l.map iv)) (hn : l.length = n) (hb : n ≤ 1000000) :
    Calls Tryz.prog 69 #[p.v, .slice A n c] w fun e w' => e = .returned (.bool (properB P l)) ∧ Below w.heap.size w w' := by
  obtain ⟨z, hz⟩ : ∃ z, Hid (z = chkP P) := ⟨_, Lib.hid rfl⟩
  obtain ⟨fb, hfb⟩ : ∃ fb, Hid (fb = l.any fixBad) := ⟨_, Lib.hid rfl⟩
  have hchk := fun W (hW : Below w.heap.size w W) => rchk_any p P W (h.on hW)
  rw [← hz.out] at hchk
  have hdef : properB P l = (decide (z = 0) && decide (n = p.s1.n) && !fb) := by unfold properB; rw [hz.out, hfb.out, hn, h.l1]
  obtain ⟨r, hr⟩ : ∃ r, Hid (r = properB P l) := ⟨_, Lib.hid rfl⟩
  rw [← hr.out] at hdef ⊢
  have Hdef := Lib.hid hdef
  have Hn := Lib.hid hn
  clear hdef h hn
  obtain ⟨⟨A1, n1, c1⟩, ⟨A2, n2, c2⟩, ⟨A3, n3, c3⟩, ⟨A4, n4, c4⟩, ⟨A5, n5, c5⟩⟩ := p
  have b1 : Below w.heap.size w (w.alloc (.cells #[.slice A1 n1 c1, .slice A2 n2 c2, .slice A3 n3 c3, .slice A4 n4 c4, .slice A5 n5 c5] 32)) := (Below.refl _ _).alloc (Nat.le_refl _) _
  have bP := Blk.new w 32 #[.slice A1 n1 c1, .slice A2 n2 c2, .slice A3 n3 c3, .slice A4 n4 c4, .slice A5 n5 c5]
  unfold PrV.v Sl.v at hchk ⊢
  simp only [] at hchk Hdef ⊢
  have hb1 : (n : Int) ≤ 1000000 := by omega
  by_cases q1 : z = 0
  · subst q1
    by_cases q2 : n = n1
    · subst q2
      have H2 : Hid (r = !fb) := Lib.hid (by rw [Hdef.out]; simp)
      clear Hdef
      go_enter Tryz.func69, Tryz.ntmps69
      go_wp2_with fail
      refine (hchk _ b1).mono ?_
      rintro e w1 ⟨rfl, bw1⟩
      have b2 := b1.trans (bw1.mono b1.size)
      have r0 := ((bP.on bw1).cell 0).trans rfl
      clear hchk bP
      go_wp2_with fail
      go_loopw [20] (fun i wr => ∃ k : Nat, k ≤ n ∧ i = .int .i64 k ∧ Hid ((l.take k).any fixBad = false) ∧ Below w.heap.size w wr) (fun i _ => n - (intOf i).toNat)
      case atStart => exact ⟨0, Nat.zero_le _, rfl, Lib.hid rfl, b2⟩
      case round =>
        obtain ⟨k, hk, rfl, HP, hB⟩ := hrel
        by_cases hlt : k < n
        · have hlt' : (k : Int) < (n : Int) := by omega
          obtain ⟨b, o, u, rfl, hb2, Hu, hc⟩ := Sees.int (hl.below hB) (k := k) (by rw [Hn.out]; exact hlt)
          have Hs := Lib.hid (any_take_succ fixBad Hu.out)
          have hg := Lib.hid (fun h => any_of_get fixBad Hu.out h)
          by_cases q3 : u < 0
          · have Hb : Hid (r = false) := Lib.hid (by rw [H2.out, hfb.out, hg.out (by rw [fixBad_lt]; simp [q3])]; rfl)
            go_wp2_with fail
            go_ret
            exact ⟨ret_bool Hb.out.symm, hB⟩
          · by_cases q4 : 256 < u
            · have Hb : Hid (r = false) := Lib.hid (by rw [H2.out, hfb.out, hg.out (by rw [fixBad_lt]; simp [q4])]; rfl)
              go_wp2_with fail
              go_ret
              exact ⟨ret_bool Hb.out.symm, hB⟩
            · go_wp2_with fail
              go_roundw
              case rel => exact ⟨k + 1, by omega, by go_num, Lib.hid (by rw [Hs.out, HP.out, fixBad_lt]; simp [q3, q4]), hB⟩
              case measure => simp [intOf]; omega
        · have hlt' : ¬ (k : Int) < (n : Int) := by omega
          obtain rfl : k = n := by omega
          have Hb : Hid (r = true) := Lib.hid (by
            have := HP.out
            rw [List.take_of_length_le (by rw [Hn.out]; exact Nat.le_refl _)] at this
            rw [H2.out, hfb.out, this]; rfl)
          go_wp2_with fail
          go_ret
          exact ⟨ret_bool Hb.out.symm, hB⟩
    · have q2b : ((n : Int) == (n1 : Int)) = false := by simp; omega
      have H2 : Hid (r = false) := Lib.hid (by rw [Hdef.out]; simp [q2])
      clear Hdef q2
      go_enter Tryz.func69, Tryz.ntmps69
      go_wp2_with fail
      refine (hchk _ b1).mono ?_
      rintro e w1 ⟨rfl, bw1⟩
      have b2 := b1.trans (bw1.mono b1.size)
      have r0 := ((bP.on bw1).cell 0).trans rfl
      go_wp2_with fail
      go_ret
      exact ⟨ret_bool H2.out.symm, b2⟩
  · have q1b : (z != 0) = true := by simpa using q1
    have H2 : Hid (r = false) := Lib.hid (by rw [Hdef.out]; simp [q1])
    clear Hdef q1
    go_enter Tryz.func69, Tryz.ntmps69
    go_wp2_with fail
    refine (hchk _ b1).mono ?_
    rintro e w1 ⟨rfl, bw1⟩
    have b2 := b1.trans (bw1.mono b1.size)
    go_wp2_with fail
    go_ret
    exact ⟨ret_bool H2.out.symm, b2⟩
end Go.Proofs.YtcnofhlgiffkjaaGreatDoor
/- The reference's at, fitPairs and Make. -/
namespace Go.Proofs.YtcnofhlgiffkjaaGreatDoor
open Go.RowKit
set_option linter.unusedVariables false
set_option linter.unusedSimpArgs false

/-- Byte k, 0 behind the end. -/
def atB (l : List UInt8) (k : Nat) : Nat := (l[k]?.map UInt8.toNat).getD 0
theorem atB_lt (l : List UInt8) (k : Nat) : atB l k < 256 := by
  unfold atB
  cases l[k]? with
  | none => simp
  | some x => exact UInt8.toNat_lt x
theorem at_any (A : Option Addr) (n c k : Nat) (l : List UInt8) (w : World) (h : Sees w w.heap.size A (l.map bv)) (hn : l.length = n) :
    Calls Tryz.prog 21 #[.slice A n c, .int .i64 k] w fun e w' => e = .returned (.int .i64 (atB l k : Nat)) ∧ w = w' := by
  have Hn := Lib.hid hn
  clear hn
  by_cases hk : k < n
  · have hk' : (k : Int) < (n : Int) := by omega
    obtain ⟨b, o, x, rfl, hb2, hx, hxb, hc⟩ := Sees.byte (k := k) h (by rw [Hn.out]; exact hk)
    have e1 : Hid (atB l k = x.toNat) := Lib.hid (by unfold atB; rw [hx.out]; rfl)
    go_enter Tryz.func21, Tryz.ntmps21
    go_wp2_with fail
    go_ret
    exact ⟨ret_int (by rw [e1.out]), rfl⟩
  · have hk' : ¬ (k : Int) < (n : Int) := by omega
    have e1 : Hid (atB l k = 0) := Lib.hid (by unfold atB; rw [List.getElem?_eq_none (by rw [Hn.out]; omega)]; rfl)
    go_enter Tryz.func21, Tryz.ntmps21
    go_wp2_with fail
    go_ret
    exact ⟨ret_int (by rw [e1.out]; rfl), rfl⟩

/-- The cells of a pair of bytes. -/
def pb (x : UInt8 × UInt8) : List Value := [bv x.1, bv x.2]
theorem Sees.pb {w : World} {B : Nat} {A : Option Addr} {l : List (UInt8 × UInt8)} {k : Nat} (h : Sees w B A (l.flatMap pb)) {x : UInt8 × UInt8} (hx : l[k]? = some x) :
    ∃ b o, A = some ⟨b, o, none⟩ ∧ b < B ∧ w.cell? ⟨b, o + k * 2, none⟩ = some (.int .u8 (x.1.toNat : Int)) ∧ w.cell? ⟨b, o + k * 2 + 1, none⟩ = some (.int .u8 (x.2.toNat : Int)) := by
  have e0 := flat_get (f := Proofs.YtcnofhlgiffkjaaGreatDoor.pb) (m := 2) (fun _ => rfl) hx (show 0 < 2 by omega)
  have e1 := flat_get (f := Proofs.YtcnofhlgiffkjaaGreatDoor.pb) (m := 2) (fun _ => rfl) hx (show 1 < 2 by omega)
  obtain ⟨b, o, e, hb, hc⟩ := h (by intro h0; rw [h0] at e0; simp [Proofs.YtcnofhlgiffkjaaGreatDoor.pb] at e0)
  exact ⟨b, o, e, hb, hc _ _ (by rw [show k * 2 = k * 2 + 0 from rfl, e0]; rfl), hc _ _ (by rw [e1]; rfl)⟩
def fit1 (n : Nat) (x : UInt8 × UInt8) : Option (Int × Int) := if x.1.toNat % n = x.2.toNat % n then none else some (((x.1.toNat % n : Nat) : Int), ((x.2.toNat % n : Nat) : Int))
/-- The pairs of different steps. -/
def fitL (n : Nat) (l : List (UInt8 × UInt8)) : List (Int × Int) := l.filterMap (fit1 n)
theorem fm_take_succ {α β : Type} {f : α → Option β} {l : List α} {k : Nat} {x : α} (h : l[k]? = some x) : (l.take (k + 1)).filterMap f = (l.take k).filterMap f ++ (f x).toList := by
  rw [List.take_add_one, h, List.filterMap_append]
  congr 1
theorem pair_info : (Tryz.prog.info? 77).map (fun i => (i.zero, i.size, i.bytes)) = some (some (.agg #[.int .i64 0, .int .i64 0]), 2, 16) := by kernel_rfl

set_option maxHeartbeats 8000000 in
set_option maxRecDepth 100000 in
theorem fit_any (A : Option Addr) (n c m : Nat) (l : List (UInt8 × UInt8)) (w : World) (h : Sees w w.heap.size A (l.flatMap pb)) (hn : l.length = n) (hm : 0 < m) (hm1 : m ≤ 100) :
    Calls Tryz.prog 20 #[.slice A n c, .int .i64 m] w fun e w' => ∃ A' n' c', e = .returned (.slice A' n' c') ∧ w'.ownsRow w.heap.size 77 2 (.slice A' n' c') n' ((fitL m (l.take 4)).flatMap pv) ∧ n' ≤ 4 ∧ Below w.heap.size w w' := by
  have Hn := Lib.hid hn
  have hm' : (0 : Int) < (m : Int) := by omega
  have hm1' : (m : Int) ≤ 100 := by omega
  have hm0 : (m : Int) ≠ 0 := by omega
  clear hn
  go_enter Tryz.func20, Tryz.ntmps20
  go_wp2_with fail
  go_loopw [5, 12] (fun v5 v12 wr => ∃ (k j c' : Nat) (A' : Option Addr), v12 = .int .i64 k ∧ k ≤ n ∧ k ≤ 4 ∧ v5 = .slice A' j c' ∧ j ≤ k ∧ wr.ownsRow w.heap.size 77 2 (.slice A' j c') j ((fitL m (l.take k)).flatMap pv) ∧ Below w.heap.size w wr) (fun _ v12 _ => n - (intOf v12).toNat)
  case atStart => exact ⟨0, 0, 0, none, rfl, Nat.zero_le _, Nat.zero_le _, rfl, Nat.le_refl _, World.ownsRow_nil _ _ _ _, Below.refl _ _⟩
  case round =>
    obtain ⟨k, j, c', A', rfl, hk, hk4, rfl, hj, ho, hB⟩ := hrel
    by_cases hlt : k < n
    · have hlt' : (k : Int) < (n : Int) := by omega
      obtain ⟨⟨x, y⟩, hx⟩ : ∃ x, l[k]? = some x := ⟨_, List.getElem?_eq_getElem (by rw [Hn.out]; exact hlt)⟩
      obtain ⟨b, o, rfl, hb2, hcx, hcy⟩ := (h.below hB).pb hx
      simp only [] at hcx hcy
      have hxb := UInt8.toNat_lt x
      have hyb := UInt8.toNat_lt y
      have bu : Below wr.heap.size wr (wr.alloc (.cells #[.int .u8 (x.toNat : Int), .int .u8 (y.toNat : Int)] 73)) := (Below.refl _ _).alloc (Nat.le_refl _) _
      have ho1 := ho.alloc (.cells #[.int .u8 (x.toNat : Int), .int .u8 (y.toNat : Int)] 73)
      have hbw := hB.trans (bu.mono hB.size)
      have hsz := hbw.size
      by_cases k4 : k = 4
      · subst k4
        go_wp2_with fail
        go_ret
        exact ⟨_, _, _, rfl, ho1, by omega, hbw⟩
      · have k4b : ((k : Int) == 4) = false := by simp; omega
        have hstep : fitL m (l.take (k + 1)) = fitL m (l.take k) ++ (fit1 m (x, y)).toList := fm_take_succ hx
        have mx : ((x.toNat : Nat) : Int).tmod (m : Int) = ((x.toNat % m : Nat) : Int) := by rw [Int.tmod_eq_emod_of_nonneg (by omega)]; omega
        have my : ((y.toNat : Nat) : Int).tmod (m : Int) = ((y.toNat % m : Nat) : Int) := by rw [Int.tmod_eq_emod_of_nonneg (by omega)]; omega
        have hxm : x.toNat % m < m := Nat.mod_lt _ hm
        have hym : y.toNat % m < m := Nat.mod_lt _ hm
        have hfit : fit1 m (x, y) = if x.toNat % m = y.toNat % m then none else some (((x.toNat % m : Nat) : Int), ((y.toNat % m : Nat) : Int)) := rfl
        rw [hfit] at hstep
        clear hfit
        obtain ⟨p, hp⟩ : ∃ p, Hid (p = x.toNat % m) := ⟨_, Lib.hid rfl⟩
        obtain ⟨q, hq⟩ : ∃ q, Hid (q = y.toNat % m) := ⟨_, Lib.hid rfl⟩
        rw [← hp.out] at mx hstep hxm
        rw [← hq.out] at my hstep hym
        have wp : IntKind.i64.wrap (p : Int) = (p : Int) := by rw [IntKind.wrap_i64]; omega
        have wq : IntKind.i64.wrap (q : Int) = (q : Int) := by rw [IntKind.wrap_i64]; omega
        by_cases hpq : p = q
        · have hpb : ((p : Int) != (q : Int)) = false := by simp; omega
          rw [if_pos hpq] at hstep
          have Hs := Lib.hid hstep
          clear hstep hx
          go_wp2_with fail
          go_quiet (fail)
          go_wp2_with fail
          go_roundw
          case rel => exact ⟨k + 1, j, c', A', by go_num, by omega, by omega, rfl, by omega, by rw [Hs.out, Option.toList_none, List.append_nil]; exact ho1, below_drewN hbw nq⟩
          case measure => simp [intOf]; omega
        · have hpb : ((p : Int) != (q : Int)) = true := by simp; omega
          rw [if_neg hpq] at hstep
          have Hs := Lib.hid hstep
          clear hstep hx
          go_wp2_with fail
          go_quiet (fail)
          go_wp2_with (at_builtin; refine wpL_row1 77 28 _ 2 16 pair_info Tryz.underlying28 rfl (by omega) (by omega) _ rfl (.tmp 32) (.tmp 36) rfl ((wr.alloc (.cells #[.int .u8 (x.toNat : Int), .int .u8 (y.toNat : Int)] 73)).drewN nq) w.heap.size _ j _ rfl ho1 #[.int .i64 (p : Int), .int .i64 (q : Int)] rfl _ (by simp) rfl rfl (by simp [Value.oneCell']) (by omega) hsz (j + 1) rfl ?_; intro A6 c6 w5 o6 g6 b6 _)
          go_roundw
          case rel => exact ⟨k + 1, j + 1, c6, A6, by go_num, by omega, by omega, rfl, by omega, by rw [Hs.out, List.flatMap_append]; exact o6, (below_drewN hbw nq).trans b6⟩
          case measure => simp [intOf]; omega
    · have hlt' : ¬ (k : Int) < (n : Int) := by omega
      obtain rfl : k = n := by omega
      go_wp2_with fail
      go_ret
      rw [List.take_of_length_le (by rw [Hn.out]; exact Nat.le_refl _)] at ho
      exact ⟨_, _, _, rfl, by rw [List.take_of_length_le (by rw [Hn.out]; omega)]; exact ho, by omega, hB⟩
end Go.Proofs.YtcnofhlgiffkjaaGreatDoor
