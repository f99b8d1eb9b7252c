/- A pack of texts: Pairs, ChkP. -/
import Derived.Test.YtcnofhlgiffkjaaGreatDoorPc
import Derived.Deep.RegionHeld3
import Derived.Laws.Cover1
/- (refute.Problem).pairs. -/
namespace Go.Proofs.YtcnofhlgiffkjaaGreatDoor
open Go.RowKit
set_option linter.unusedVariables false
set_option linter.unusedSimpArgs false

theorem chkPairs_drop {n k : Nat} {l : List (Int × Int)} {a b : Int} (h : l[k]? = some (a, b)) :
    chkPairs n (l.drop k) = if a < 0 ∨ b < 0 ∨ (n : Int) ≤ a ∨ (n : Int) ≤ b then 2 else if a = b then 1 else chkPairs n (l.drop (k + 1)) := by
  obtain ⟨hk, he⟩ := List.getElem?_eq_some_iff.1 h
  rw [List.drop_eq_getElem_cons hk, he, chkPairs]

set_option maxHeartbeats 4000000 in
set_option maxRecDepth 100000 in
/-- pairs. -/
theorem pairs_any (A1 A2 A3 A4 A5 : Option Addr) (n1 n2 n3 n4 n5 c1 c2 c3 c4 c5 : Nat) (A : Option Addr) (n c : Nat) (l : List (Int × Int)) (w : World) (h : PairsAt w w.heap.size A l) (hn : l.length = n) (hb : n ≤ 1000000) (hb1 : n1 ≤ 1000000) :
    Calls Tryz.prog 63 #[.agg #[.slice A1 n1 c1, .slice A2 n2 c2, .slice A3 n3 c3, .slice A4 n4 c4, .slice A5 n5 c5], .slice A n c] w fun e w' => e = .returned (.int .i64 (chkPairs n1 l)) ∧ Below w.heap.size w w' := by
  have Hn := Lib.hid hn
  have hnb : (n : Int) ≤ 1000000 := by omega
  have hnb1 : (n1 : Int) ≤ 1000000 := by omega
  clear hn
  have b1 : Below w.heap.size w (w.alloc (.cells #[.slice A1 n1 c1, .slice A2 n2 c2, .slice A3 n3 c3, .slice A4 n4 c4, .slice A5 n5 c5] 37)) := (Below.refl _ _).alloc (Nat.le_refl _) _
  have bP := Blk.new w 37 #[.slice A1 n1 c1, .slice A2 n2 c2, .slice A3 n3 c3, .slice A4 n4 c4, .slice A5 n5 c5]
  have sz1 : (w.alloc (.cells #[.slice A1 n1 c1, .slice A2 n2 c2, .slice A3 n3 c3, .slice A4 n4 c4, .slice A5 n5 c5] 37)).heap.size = w.heap.size + 1 := by simp
  go_enter Tryz.func63, Tryz.ntmps63
  go_wp2_with fail
  generalize (w.alloc (.cells #[.slice A1 n1 c1, .slice A2 n2 c2, .slice A3 n3 c3, .slice A4 n4 c4, .slice A5 n5 c5] 37)) = W1 at b1 bP sz1 ⊢
  go_loopw [9] (fun i wr => ∃ k : Nat, k ≤ n ∧ i = .int .i64 k ∧ Hid (chkPairs n1 (l.drop k) = chkPairs n1 l) ∧ Below W1.heap.size W1 wr) (fun i _ => n - (intOf i).toNat)
  case atStart => exact ⟨0, Nat.zero_le _, rfl, Lib.hid rfl, Below.refl _ _⟩
  case round =>
    obtain ⟨k, hk, rfl, HP, hB⟩ := hrel
    have bw := b1.trans (hB.mono b1.size)
    by_cases hlt : k < n
    · have hlt' : (k : Int) < (n : Int) := by omega
      obtain ⟨⟨x, y⟩, hx⟩ : ∃ x, l[k]? = some x := ⟨_, List.getElem?_eq_getElem (by rw [Hn.out]; exact hlt)⟩
      obtain ⟨b, o, rfl, hb2, hcx, hcy⟩ := (h.below bw) k _ hx
      have Hstep := Lib.hid (chkPairs_drop (n := n1) hx)
      rw [HP.out] at Hstep
      clear hx
      have bP2 := bP.on hB
      have p0 := (bP2.cell 0).trans rfl
      have hbx : Below wr.heap.size wr (wr.alloc (.cells #[.int .i64 x, .int .i64 y] 77)) := (Below.refl _ _).alloc (Nat.le_refl _) _
      have hB2 := hB.trans (hbx.mono hB.size)
      have p1 := ((bP2.on hbx).cell 0).trans rfl
      simp only [] at hcx hcy
      clear bP2
      by_cases q1 : min x y < 0
      · have e := Hstep.out
        rw [if_pos (by omega)] at e
        have E := Lib.hid e
        clear e
        go_wp2_with fail
        go_ret
        exact ⟨ret_int E.out.symm, b1.trans (hB2.mono b1.size)⟩
      · by_cases q2 : (n1 : Int) ≤ max x y
        · have e := Hstep.out
          rw [if_pos (by omega)] at e
          have E := Lib.hid e
          clear e
          go_wp2_with fail
          go_ret
          exact ⟨ret_int E.out.symm, b1.trans (hB2.mono b1.size)⟩
        · have e := Hstep.out
          rw [if_neg (by omega)] at e
          by_cases q3 : x = y
          · rw [if_pos q3] at e
            have E := Lib.hid e
            have q3b : (x == y) = true := by simpa using q3
            clear e q3
            go_wp2_with fail
            go_ret
            exact ⟨ret_int E.out.symm, b1.trans (hB2.mono b1.size)⟩
          · rw [if_neg q3] at e
            have E := Lib.hid e
            have q3b : (x == y) = false := by simpa using q3
            clear e q3
            go_wp2_with fail
            go_roundw
            case rel => exact ⟨k + 1, by omega, by go_num, Lib.hid E.out.symm, hB2⟩
            case measure => simp [intOf]; omega
    · have hlt' : ¬ (k : Int) < (n : Int) := by omega
      go_wp2_with fail
      go_ret
      obtain rfl : k = n := by omega
      have h1 := HP.out
      rw [List.drop_eq_nil_of_le (by rw [Hn.out]; exact Nat.le_refl _)] at h1
      rw [← h1]
      exact ⟨rfl, bw⟩
end Go.Proofs.YtcnofhlgiffkjaaGreatDoor
/- refute.CheckProblem. -/
namespace Go.Proofs.YtcnofhlgiffkjaaGreatDoor
open Go.RowKit
set_option linter.unusedVariables false
set_option linter.unusedSimpArgs false

theorem max3 (x y z : Nat) (W : World) : (Builtin.max_ #[3, 3, 3] 3 #[.int .i64 (x : Int), .int .i64 (y : Int), .int .i64 (z : Int)]).run Tryz.prog W = .ok (.int .i64 ((max x (max y z) : Nat) : Int)) W := by
  rw [run_max_int3]
  congr 2
  split <;> split at * <;> omega
set_option maxHeartbeats 8000000 in
set_option maxRecDepth 100000 in
/-- CheckProblem. -/
theorem chkP_any (p : PrV) (P : Pr) (w : World) (h : PrAt w w.heap.size p P) :
    Calls Tryz.prog 25 #[p.v] w fun e w' => e = .returned (.int .i64 (chkP P)) ∧ Below w.heap.size w w' := by
  obtain ⟨⟨A1, n1, c1⟩, ⟨A2, n2, c2⟩, ⟨A3, n3, c3⟩, ⟨A4, n4, c4⟩, ⟨A5, n5, c5⟩⟩ := p
  obtain ⟨l1, l2, l3, l4, l5, e1, e2, e3, e4, e5, s1, s2, s3, s4, s5, _⟩ := h
  simp only at l1 l2 l3 l4 l5 e1 e2 e3 e4 e5 s1 s2 s3 s4 s5
  have hdef : chkP P = if n1 = 0 then 4
    else if 10 < n1 ∨ 20 < n2 ∨ 20 < n3 ∨ 20 < n4 then 3
    else if n5 ≠ n1 then 1
    else if P.elig.any eligBad = true then 2
    else if P.fix.any fixBad = true then 2
    else if chkPairs n1 P.dif ≠ 0 then chkPairs n1 P.dif
    else if chkPairs n1 P.sam ≠ 0 then chkPairs n1 P.sam
    else if P.mst.any (mstBad n1) = true then 2 else 0 := by
    unfold chkP
    rw [l1, l2, l3, l4, l5]
  obtain ⟨eb, heb⟩ : ∃ eb, Hid (eb = P.elig.any eligBad) := ⟨_, Lib.hid rfl⟩
  obtain ⟨fb, hfb⟩ : ∃ fb, Hid (fb = P.fix.any fixBad) := ⟨_, Lib.hid rfl⟩
  obtain ⟨db, hdb⟩ : ∃ db, Hid (db = chkPairs n1 P.dif) := ⟨_, Lib.hid rfl⟩
  obtain ⟨sb, hsb⟩ : ∃ sb, Hid (sb = chkPairs n1 P.sam) := ⟨_, Lib.hid rfl⟩
  obtain ⟨mb, hmb⟩ : ∃ mb, Hid (mb = P.mst.any (mstBad n1)) := ⟨_, Lib.hid rfl⟩
  rw [hdef, ← heb.out, ← hfb.out, ← hdb.out, ← hsb.out, ← hmb.out]
  clear hdef
  have b1 : Below w.heap.size w (w.alloc (.cells #[.slice A1 n1 c1, .slice A2 n2 c2, .slice A3 n3 c3, .slice A4 n4 c4, .slice A5 n5 c5] 37)) := (Below.refl _ _).alloc (Nat.le_refl _) _
  have bP := Blk.new w 37 #[.slice A1 n1 c1, .slice A2 n2 c2, .slice A3 n3 c3, .slice A4 n4 c4, .slice A5 n5 c5]
  have sz1 : (w.alloc (.cells #[.slice A1 n1 c1, .slice A2 n2 c2, .slice A3 n3 c3, .slice A4 n4 c4, .slice A5 n5 c5] 37)).heap.size = w.heap.size + 1 := by simp
  have box : ∀ W, Blk W w.heap.size 37 #[.slice A1 n1 c1, .slice A2 n2 c2, .slice A3 n3 c3, .slice A4 n4 c4, .slice A5 n5 c5] → W.cell? ⟨w.heap.size, 0, none⟩ = some (.slice A1 n1 c1) ∧ W.cell? ⟨w.heap.size, 1, none⟩ = some (.slice A2 n2 c2) ∧ W.cell? ⟨w.heap.size, 2, none⟩ = some (.slice A3 n3 c3) ∧ W.cell? ⟨w.heap.size, 3, none⟩ = some (.slice A4 n4 c4) ∧ W.cell? ⟨w.heap.size, 4, none⟩ = some (.slice A5 n5 c5) := fun W hb => ⟨(hb.cell 0).trans rfl, (hb.cell 1).trans rfl, (hb.cell 2).trans rfl, (hb.cell 3).trans rfl, (hb.cell 4).trans rfl⟩
  unfold PrV.v Sl.v
  simp only []
  have L1 := Lib.hid l1
  have L2 := Lib.hid l2
  have L3 := Lib.hid l3
  have L4 := Lib.hid l4
  have L5 := Lib.hid l5
  clear l1 l2 l3 l4 l5
  by_cases q1 : n1 = 0
  · subst q1
    rw [if_pos rfl]
    go_enter Tryz.func25, Tryz.ntmps25
    go_wp2_with fail
    go_ret
    exact ⟨rfl, b1⟩
  · rw [if_neg q1]
    have q1b : ((n1 : Int) == 0) = false := beq_false_of_ne (by omega)
    by_cases q2 : 10 < n1
    · rw [if_pos (.inl q2)]
      have q2b : (10 : Int) < (n1 : Int) := by omega
      go_enter Tryz.func25, Tryz.ntmps25
      go_wp2_with fail
      go_ret
      exact ⟨rfl, b1⟩
    · have q2b : ¬ (10 : Int) < (n1 : Int) := by omega
      have hm3 := max3 n2 n3 n4
      obtain ⟨mx, hmx⟩ : ∃ mx, Hid (mx = max n2 (max n3 n4)) := ⟨_, Lib.hid rfl⟩
      rw [← hmx.out] at hm3
      by_cases q3 : 20 < n2 ∨ 20 < n3 ∨ 20 < n4
      · rw [if_pos (.inr q3)]
        have q3b : (20 : Int) < (mx : Int) := by have := hmx.out; omega
        clear q3
        go_enter Tryz.func25, Tryz.ntmps25
        go_wp2_with fail
        go_ret
        exact ⟨rfl, b1⟩
      · rw [if_neg (by rintro (h | h); exact q2 h; exact q3 h)]
        have q3b : ¬ (20 : Int) < (mx : Int) := by have := hmx.out; omega
        clear q3 q2 q1
        by_cases q4 : n5 = n1
        · rw [if_neg (by simpa using q4)]
          have q4b : ((n5 : Int) != (n1 : Int)) = false := by simp; omega
          clear q4b
          go_enter Tryz.func25, Tryz.ntmps25
          subst q4
          go_wp2_with fail
          generalize (w.alloc (.cells #[.slice A1 n5 c1, .slice A2 n2 c2, .slice A3 n3 c3, .slice A4 n4 c4, .slice A5 n5 c5] 37)) = W1 at b1 bP sz1 ⊢
          have hn1b : (n5 : Int) ≤ 1000000 := by omega
          go_loopw [41] (fun i wr => ∃ k : Nat, k ≤ n5 ∧ i = .int .i64 k ∧ Hid ((P.elig.take k).any eligBad = false) ∧ Below W1.heap.size W1 wr) (fun i _ => n5 - (intOf i).toNat)
          case atStart => exact ⟨0, Nat.zero_le _, rfl, Lib.hid rfl, Below.refl _ _⟩
          case round =>
            obtain ⟨k, hk, rfl, HP, hB⟩ := hrel
            have bw := b1.trans (hB.mono b1.size)
            by_cases hlt : k < n5
            · have hlt' : (k : Int) < (n5 : Int) := by omega
              obtain ⟨M, hM⟩ : ∃ M, P.elig[k]? = some M := ⟨_, List.getElem?_eq_getElem (by rw [L1.out]; exact hlt)⟩
              obtain ⟨b, o, X, rfl, hb2, hcX, hS⟩ := (e1.below bw) k M hM
              obtain ⟨As, ns, cs, hXe, _⟩ := id hS
              obtain rfl : X = .slice As ns cs := by simpa using hXe
              clear hXe
              have hnext : (P.elig.take (k + 1)).any eligBad = ((P.elig.take k).any eligBad || eligBad M) := by
                rw [List.take_add_one, hM]; simp
              rw [HP.out, Bool.false_or] at hnext
              have Hnext := Lib.hid hnext
              clear hnext hM
              have bu : Below wr.heap.size wr (wr.alloc (.cells #[.slice As ns cs] 63)) := (Below.refl _ _).alloc (Nat.le_refl _) _
              have bX := Blk.new wr 63 #[.slice As ns cs]
              have hSu := (hS.more bw.size).on bu
              have hBu := hB.trans (bu.mono hB.size)
              have bwu := bw.trans (bu.mono bw.size)
              go_wp2_with fail
              generalize (wr.alloc (.cells #[.slice As ns cs] 63)) = u0 at bX hSu hBu bwu ⊢
              have xB : ∀ W, Below u0.heap.size u0 W → W.cell? ⟨wr.heap.size, 0, none⟩ = some (.slice As ns cs) ∧ Below u0.heap.size u0 W := fun W hW => ⟨((bX.on hW).cell 0).trans rfl, hW⟩
              have q0 : Below u0.heap.size u0 u0.drew := (Below.refl _ _).drew
              have y0 := (xB _ q0).1
              have hHas := fun W (hW : Below u0.heap.size u0 W) => has_any _ M 0 W (hSu.on hW) (by omega)
              have hBel := fun W => below_any 257 W (by omega)
              simp only [Int.cast_ofNat_Int] at hHas hBel
              have any_of : ∀ b, Hid ((P.elig.take (k + 1)).any eligBad = b) → b = true → P.elig.any eligBad = true := fun b hb1 hb2 => by
                have h1 := hb1.out
                rw [hb2] at h1
                obtain ⟨x, hx, hp⟩ := List.any_eq_true.1 h1
                exact List.any_eq_true.2 ⟨x, List.mem_of_mem_take hx, hp⟩
              by_cases m0 : M.testBit 0 = true
              · have hbad : eligBad M = true := by unfold eligBad; rw [m0]; rfl
                rw [m0] at hHas
                have heb1 : eb = true := by rw [heb.out]; exact any_of _ Hnext hbad
                clear any_of Hnext hbad m0
                go_region_with (first | (go_at_call 59; refine (hHas _ q0).mono ?_; rintro e u1 ⟨rfl, bu1⟩; have qA : Below u0.heap.size u0 u1 := q0.trans (bu1.mono q0.size); have yA := (xB _ qA).1))
                all_goals (
                  go_wp2_with fail
                  go_ret
                  exact ⟨by simp [heb1], bwu.trans (qA.mono bwu.size)⟩)
              · have m0f : M.testBit 0 = false := by simpa using m0
                rw [m0f] at hHas
                have hW2 := fun W v2 (hv : SetAt W W.heap.size v2 (2 ^ 257 - 1)) (hW : Below u0.heap.size u0 W) => within_any (.agg #[.slice As ns cs]) v2 M (2 ^ 257 - 1) W (hSu.on hW) hv
                have hbad : eligBad M = !withinB M (2 ^ 257 - 1) := by unfold eligBad; rw [m0f]; rfl
                rw [hbad] at Hnext
                generalize 2 ^ 257 - 1 = OO at hBel hW2 Hnext
                by_cases mw : withinB M OO = true
                · rw [mw] at hW2 Hnext
                  have Hnext' : Hid ((P.elig.take (k + 1)).any eligBad = false) := Lib.hid (by have := Hnext.out; simpa using this)
                  clear any_of Hnext hbad m0 m0f mw
                  go_region_with (first
                      | (go_at_call 52; have mm := qB; refine (hW2 _ v2 hv2 qB).mono ?_; rintro e u3 ⟨rfl, bu3⟩; have qC : Below u0.heap.size u0 u3 := qB.trans (bu3.mono qB.size))
                      | (go_at_call 53; have mm := qA; refine (hBel u1).mono ?_; rintro e u2 ⟨v2, rfl, hv2, bu2⟩; have qB : Below u0.heap.size u0 u2 := qA.trans (bu2.mono qA.size); have yB := (xB _ qB).1)
                      | (go_at_call 59; refine (hHas _ q0).mono ?_; rintro e u1 ⟨rfl, bu1⟩; have qA : Below u0.heap.size u0 u1 := q0.trans (bu1.mono q0.size); have yA := (xB _ qA).1))
                  all_goals (
                    go_wp2_with fail
                    go_roundw
                    case rel => exact ⟨k + 1, by omega, by go_num, Hnext', hBu.trans (qC.mono hBu.size)⟩
                    case measure => simp [intOf]; omega)
                · have mwf : withinB M OO = false := by simpa using mw
                  rw [mwf] at hW2 Hnext
                  have heb1 : eb = true := by rw [heb.out]; exact any_of true (Lib.hid (by have := Hnext.out; simpa using this)) rfl
                  clear any_of Hnext hbad m0 m0f mw mwf
                  go_region_with (first
                      | (go_at_call 52; have mm := qB; refine (hW2 _ v2 hv2 qB).mono ?_; rintro e u3 ⟨rfl, bu3⟩; have qC : Below u0.heap.size u0 u3 := qB.trans (bu3.mono qB.size))
                      | (go_at_call 53; have mm := qA; refine (hBel u1).mono ?_; rintro e u2 ⟨v2, rfl, hv2, bu2⟩; have qB : Below u0.heap.size u0 u2 := qA.trans (bu2.mono qA.size); have yB := (xB _ qB).1)
                      | (go_at_call 59; refine (hHas _ q0).mono ?_; rintro e u1 ⟨rfl, bu1⟩; have qA : Below u0.heap.size u0 u1 := q0.trans (bu1.mono q0.size); have yA := (xB _ qA).1))
                  all_goals (
                    go_wp2_with fail
                    go_ret
                    exact ⟨by simp [heb1], bwu.trans (qC.mono bwu.size)⟩)
            · obtain rfl : k = n5 := by omega
              have heb1 : eb = false := by
                have h1 := HP.out
                rw [List.take_of_length_le (by rw [L1.out]; exact Nat.le_refl _)] at h1
                rw [heb.out]
                exact h1
              subst heb1
              obtain ⟨t0, t1, t2, t3, t4⟩ := box _ (bP.on hB)
              have hcf := cf_chk A5 k c5 P.fix wr ((e5.below bw).more bw.size) L5.out (by omega)
              rw [← hfb.out] at hcf
              have hE3 := (e3.below bw).more bw.size
              have hE4 := (e4.below bw).more bw.size
              have hp2 := pairs_any A1 A2 A3 A4 A5 k n2 n3 n4 k c1 c2 c3 c4 c5 A2 n2 c2 P.dif wr ((e2.below bw).more bw.size) L2.out s2 (by omega)
              rw [← hdb.out] at hp2
              clear HP
              cases fb
              · go_wp2_with fail
                refine hcf.mono ?_
                rintro e u1 ⟨rfl, rfl⟩
                go_wp2_with fail
                refine hp2.mono ?_
                rintro e u2 ⟨rfl, bu2⟩
                have bP2 := (bP.on hB).on bu2
                obtain ⟨r0, r1, r2, r3, r4⟩ := box _ bP2
                have hp3 := pairs_any A1 A2 A3 A4 A5 k n2 n3 n4 k c1 c2 c3 c4 c5 A3 n3 c3 P.sam u2 ((hE3.below bu2).more bu2.size) L3.out s3 (by omega)
                rw [← hsb.out] at hp3
                have bw2 := bw.trans (bu2.mono bw.size)
                have hE4 := (hE4.below bu2).more bu2.size
                by_cases d0 : db = 0
                · subst d0
                  go_wp2_with fail
                  refine hp3.mono ?_
                  rintro e u3 ⟨rfl, bu3⟩
                  have bP3 := bP2.on bu3
                  obtain ⟨r0, r1, r2, r3, r4⟩ := box _ bP3
                  have bw3 := bw2.trans (bu3.mono bw2.size)
                  have hE4 := (hE4.below bu3).more bu3.size
                  by_cases s0 : sb = 0
                  · subst s0
                    go_wp2_with fail
                    have hnk : k ≤ 10 := by omega
                    go_loopw [74] (fun i wr => ∃ j : Nat, j ≤ n4 ∧ i = .int .i64 j ∧ Hid ((P.mst.take j).any (mstBad k) = false) ∧ Below u3.heap.size u3 wr) (fun i _ => n4 - (intOf i).toNat)
                    case atStart => exact ⟨0, Nat.zero_le _, rfl, Lib.hid rfl, Below.refl _ _⟩
                    case round =>
                      obtain ⟨j, hj, rfl, HQ, hC⟩ := hrel
                      have cw := bw3.trans (hC.mono bw3.size)
                      have hs4b : (n4 : Int) ≤ 1000000 := by omega
                      by_cases hlt4 : j < n4
                      · have hlt4' : (j : Int) < (n4 : Int) := by omega
                        obtain ⟨⟨K, M⟩, hx⟩ : ∃ x, P.mst[j]? = some x := ⟨_, List.getElem?_eq_getElem (by rw [L4.out]; exact hlt4)⟩
                        obtain ⟨b, o, X, rfl, hb2, hcK, hcX, hS⟩ := (hE4.below hC) j _ hx
                        simp only [] at hcK hS
                        obtain ⟨As, ns, cs, hXe, _⟩ := id hS
                        obtain rfl : X = .slice As ns cs := by simpa using hXe
                        clear hXe
                        have hnext : (P.mst.take (j + 1)).any (mstBad k) = ((P.mst.take j).any (mstBad k) || mstBad k (K, M)) := by
                          rw [List.take_add_one, hx]; simp
                        rw [HQ.out, Bool.false_or] at hnext
                        have mb_of : mstBad k (K, M) = true → mb = true := fun e => by
                          rw [hmb.out, List.any_eq_true]
                          exact ⟨_, List.mem_of_getElem? hx, e⟩
                        have Hnext := Lib.hid hnext
                        clear hnext hx
                        have bu : Below wr.heap.size wr (wr.alloc (.cells #[.int .i64 K, .slice As ns cs] 81)) := (Below.refl _ _).alloc (Nat.le_refl _) _
                        have bX := Blk.new wr 81 #[.int .i64 K, .slice As ns cs]
                        have hSu := (hS.more hC.size).on bu
                        have hCu := hC.trans (bu.mono hC.size)
                        have cwu := cw.trans (bu.mono cw.size)
                        have dm : mstBad k (K, M) = (decide (K < 1) || decide (10 < K) || decide (M = 0) || !withinB M (2 ^ k - 1)) := rfl
                        go_wp2_with fail
                        generalize (wr.alloc (.cells #[.int .i64 K, .slice As ns cs] 81)) = v0 at bX hSu hCu cwu ⊢
                        have xB : ∀ W, Below v0.heap.size v0 W → W.cell? ⟨wr.heap.size, 0, none⟩ = some (.int .i64 K) ∧ W.cell? ⟨wr.heap.size, 1, none⟩ = some (.slice As ns cs) := fun W hW => ⟨((bX.on hW).cell 0).trans rfl, ((bX.on hW).cell 1).trans rfl⟩
                        have q0 : Below v0.heap.size v0 v0.drew := (Below.refl _ _).drew
                        obtain ⟨y0, z0⟩ := xB _ q0
                        have hEm := fun W (hW : Below v0.heap.size v0 W) => empty_any (.agg #[.slice As ns cs]) M W (hSu.on hW)
                        have hBel := fun W => below_any k W (by omega)
                        have hWi := fun W v2 (hv : SetAt W W.heap.size v2 (2 ^ k - 1)) (hW : Below v0.heap.size v0 W) => within_any (.agg #[.slice As ns cs]) v2 M (2 ^ k - 1) W (hSu.on hW) hv
                        generalize 2 ^ k - 1 = OO at hBel hWi dm
                        by_cases k1 : K < 1
                        · rw [decide_eq_true k1, Bool.true_or, Bool.true_or, Bool.true_or] at dm
                          have mb1 := mb_of dm
                          clear mb_of Hnext dm hEm hBel hWi
                          go_region
                          go_wp2_with fail
                          go_ret
                          exact ⟨by simp [mb1], below_drewN cwu 1⟩
                        · rw [decide_eq_false k1, Bool.false_or] at dm
                          by_cases k2 : 10 < K
                          · rw [decide_eq_true k2, Bool.true_or, Bool.true_or] at dm
                            have mb1 := mb_of dm
                            clear mb_of Hnext dm hEm hBel hWi
                            go_region
                            go_wp2_with fail
                            go_ret
                            exact ⟨by simp [mb1], below_drewN cwu 1⟩
                          · rw [decide_eq_false k2, Bool.false_or] at dm
                            by_cases k3 : M = 0
                            · rw [decide_eq_true k3] at hEm
                              rw [decide_eq_true k3, Bool.true_or] at dm
                              have mb1 := mb_of dm
                              clear mb_of Hnext dm hBel hWi k3
                              first | go_region_with (go_at_call 64; refine (hEm _ q0).mono ?_; rintro e v1 ⟨rfl, bv1⟩; have qA : Below v0.heap.size v0 v1 := q0.trans (bv1.mono q0.size); obtain ⟨y1, z1⟩ := xB _ qA) | fail
                              all_goals (
                                go_wp2_with fail
                                go_ret
                                exact ⟨by simp [mb1], cwu.trans (qA.mono cwu.size)⟩)
                            · rw [decide_eq_false k3] at hEm
                              rw [decide_eq_false k3, Bool.false_or] at dm
                              by_cases k4 : withinB M OO = true
                              · rw [k4] at hWi dm
                                rw [dm] at Hnext
                                clear mb_of dm k3 k4
                                go_region_with (first
                                  | (go_at_call 52; have mm := qB; refine (hWi _ v5 hv2 qB).mono ?_; rintro e v3 ⟨rfl, bv3⟩; have qC : Below v0.heap.size v0 v3 := qB.trans (bv3.mono qB.size))
                                  | (go_at_call 53; have mm := qA; refine (hBel v1).mono ?_; rintro e v2 ⟨v5, rfl, hv2, bv2⟩; have qB : Below v0.heap.size v0 v2 := qA.trans (bv2.mono qA.size); obtain ⟨y2, z2⟩ := xB _ qB)
                                  | (go_at_call 64; refine (hEm _ q0).mono ?_; rintro e v1 ⟨rfl, bv1⟩; have qA : Below v0.heap.size v0 v1 := q0.trans (bv1.mono q0.size); obtain ⟨y1, z1⟩ := xB _ qA))
                                all_goals (
                                  go_wp2_with fail
                                  go_roundw
                                  case rel => exact ⟨j + 1, by omega, by go_num, Lib.hid (by have := Hnext.out; simpa using this), hCu.trans (qC.mono hCu.size)⟩
                                  case measure => simp [intOf]; omega)
                              · have k4f : withinB M OO = false := by simpa using k4
                                rw [k4f] at hWi dm
                                have mb1 := mb_of dm
                                clear mb_of Hnext dm k3 k4 k4f
                                go_region_with (first
                                  | (go_at_call 52; have mm := qB; refine (hWi _ v5 hv2 qB).mono ?_; rintro e v3 ⟨rfl, bv3⟩; have qC : Below v0.heap.size v0 v3 := qB.trans (bv3.mono qB.size))
                                  | (go_at_call 53; have mm := qA; refine (hBel v1).mono ?_; rintro e v2 ⟨v5, rfl, hv2, bv2⟩; have qB : Below v0.heap.size v0 v2 := qA.trans (bv2.mono qA.size); obtain ⟨y2, z2⟩ := xB _ qB)
                                  | (go_at_call 64; refine (hEm _ q0).mono ?_; rintro e v1 ⟨rfl, bv1⟩; have qA : Below v0.heap.size v0 v1 := q0.trans (bv1.mono q0.size); obtain ⟨y1, z1⟩ := xB _ qA))
                                all_goals (
                                  go_wp2_with fail
                                  go_ret
                                  exact ⟨by simp [mb1], cwu.trans (qC.mono cwu.size)⟩)
                      · have hlt4' : ¬ (j : Int) < (n4 : Int) := by omega
                        have mb0 : mb = false := by
                          have h1 := HQ.out
                          rw [List.take_of_length_le (by rw [L4.out]; omega)] at h1
                          rw [hmb.out]
                          exact h1
                        go_wp2_with fail
                        go_ret
                        exact ⟨by simp [mb0], cw⟩
                  · have s0b : (sb != 0) = true := by simpa using s0
                    go_wp2_with fail
                    go_ret
                    exact ⟨by simp [s0], bw3⟩
                · have d0b : (db != 0) = true := by simpa using d0
                  go_wp2_with fail
                  go_ret
                  exact ⟨by simp [d0], bw2⟩
              · go_wp2_with fail
                refine hcf.mono ?_
                rintro e u1 ⟨rfl, rfl⟩
                go_wp2_with fail
                go_ret
                exact ⟨by simp, bw⟩
        · rw [if_pos q4]
          have q4b : ((n5 : Int) != (n1 : Int)) = true := by simp; omega
          clear q4
          go_enter Tryz.func25, Tryz.ntmps25
          go_wp2_with fail
          go_ret
          exact ⟨rfl, b1⟩
end Go.Proofs.YtcnofhlgiffkjaaGreatDoor
