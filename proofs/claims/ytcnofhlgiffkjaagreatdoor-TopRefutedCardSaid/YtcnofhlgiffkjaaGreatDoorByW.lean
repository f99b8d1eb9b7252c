/- The walk of Refutation.Bytes. -/
import Derived.Test.YtcnofhlgiffkjaaGreatDoorByL
namespace Go.Proofs.YtcnofhlgiffkjaaGreatDoor
open Go.RowKit
set_option linter.unusedVariables false
set_option linter.unusedSimpArgs false

set_option maxHeartbeats 16000000 in
set_option maxRecDepth 100000 in
/-- Bytes. -/
theorem pBytes_any (A : Option Addr) (n c : Nat) (l : List Nd) (w : World) (h : NodesAt w w.heap.size A l) (hn : l.length = n) (ht : tot l ≤ 1000000000) (hn6 : n ≤ 1000000) :
    Calls Tryz.prog 14 #[.agg #[.slice A n c]] w fun e w' => ∃ A' c', e = .returned (.slice A' (bytesL l).length c') ∧ OwnB w' w.heap.size (.slice A' (bytesL l).length c') (bytesL l).length (bytesL l) ∧ Below w.heap.size w w' := by
  have Hn := Lib.hid hn
  clear hn
  obtain ⟨BL, hBL⟩ : ∃ b, Hid (b = bytesL l) := ⟨_, Lib.hid rfl⟩
  rw [← hBL.out]
  have hnn : (n : Int) ≤ 1000000 := by omega
  have hend : Hid (l.all okN = true → BL = enc n ++ l.flatMap encN) := Lib.hid (fun hl => by rw [hBL.out]; unfold bytesL; rw [if_pos hl, Hn.out])
  have hbad : Hid (∀ (k : Nat) (x : Nd), l[k]? = some x → okN x = false → BL = []) := Lib.hid (fun k x h1 h2 => by rw [hBL.out]; exact bytesL_bad h1 h2)
  have htk := Lib.hid (fun k => tot_take l k)
  have htm := Lib.hid (fun x => @tot_mem l x)
  have hle := enc_len (v := n) (by omega)
  have b0 := bAl (Below.refl w.heap.size w) (.cells #[.slice A n c] 41)
  have k0 := Blk.new w 41 #[.slice A n c]
  have z0 : w.heap.size < (w.alloc (.cells #[.slice A n c] 41)).heap.size := by simp
  go_enter Tryz.func14, Tryz.ntmps14
  go_upto_region 1 with fail
  generalize (w.alloc (.cells #[.slice A n c] 41)) = w1 at b0 k0 z0 ⊢
  go_wp2_with fail
  refine (newWriter_any w1).mono ?_
  rintro e w2 ⟨rfl, hW, b2⟩
  have k2 := k0.on b2
  have x0 : w2.cell? ⟨w.heap.size, 0, none⟩ = some (.slice A n c) := (k2.cell 0).trans rfl
  go_wp2_with fail
  refine (wUint_any w1.heap.size w1.heap.size (.slice none 0 0) [] n w2 hW (by omega) (by simp)).mono ?_
  rintro e w3 ⟨rfl, v3, hW3, hm3, _⟩
  have b3 : Below w1.heap.size w1 w3 := b2.trans (hW.low hm3 (Nat.le_refl _) (Nat.le_refl _))
  have k3 := k0.on b3
  rw [List.nil_append] at hW3
  have x0 : w3.cell? ⟨w.heap.size, 0, none⟩ = some (.slice A n c) := (k3.cell 0).trans rfl
  clear hW hm3 b2 k2
  go_wp2_with fail
  clear x0
  go_loopw [18] (fun v18 wr => ∃ (k : Nat) (v : Value), k ≤ n ∧ v18 = .int .i64 k ∧ WrAt wr w1.heap.size w1.heap.size v (enc n ++ (l.take k).flatMap encN) ∧ Hid ((l.take k).all okN = true) ∧ Below w1.heap.size w1 wr) (fun v18 _ => n - (intOf v18).toNat)
  case atStart => exact ⟨0, v3, Nat.zero_le _, rfl, by simpa using hW3, Lib.hid rfl, b3⟩
  case round =>
    obtain ⟨k, v, hk, rfl, hW, hok, bw⟩ := hrel
    obtain ⟨W0, rfl⟩ : ∃ W0, W0 = wr := ⟨_, rfl⟩
    have bww := b0.trans (bw.mono (Nat.le_of_lt z0))
    have kW := k0.on bw
    have hpre : Hid ((enc n ++ (l.take k).flatMap encN).length ≤ 10 + 10 * tot l) := Lib.hid (by
      have h1 := flatN_len hok.out
      have h2 := htk.out k
      rw [List.length_append]
      omega)
    by_cases hlt : k < n
    · have hlt' : (k : Int) < (n : Int) := by omega
      obtain ⟨x, hx⟩ : ∃ x, Hid (l[k]? = some x) := ⟨l[k]'(by rw [Hn.out]; exact hlt), Lib.hid (List.getElem?_eq_getElem _)⟩
      obtain ⟨pb, po, C, S, hA, hpb, y1, y2, y3, y4, hnd⟩ := (h.below bww) k x hx.out
      subst hA
      have hbx := Lib.hid (fun hz => hbad.out k x hx.out hz)
      have hxt := htm.out x (List.mem_of_getElem? hx.out)
      have hk256 := hnd.k8
      have ft := Lib.hid (flat_take encN hx.out)
      have fa := Lib.hid (all_take okN hx.out)
      have fN : Hid (encN x = enc x.kind ++ (numsL x).flatMap encZ) := Lib.hid rfl
      have fO : Hid (okN x = (decide (1 ≤ x.kind) && decide (x.kind ≤ 3) && (numsL x).all okZ)) := Lib.hid rfl
      have fB := Lib.hid (fun j z => @okN_bad x j z)
      obtain ⟨kd, hkd⟩ : ∃ kd, Hid (x.kind = kd) := ⟨_, Lib.hid rfl⟩
      rw [hkd.out] at y1 hk256
      have bN := bAl (Below.refl W0.heap.size W0) (.cells #[.int .u8 (kd : Int), .int .i64 x.step, C.v, S.v] 95)
      have kN := Blk.new W0 95 #[.int .u8 (kd : Int), .int .i64 x.step, C.v, S.v]
      have zN : W0.heap.size < (W0.alloc (.cells #[.int .u8 (kd : Int), .int .i64 x.step, C.v, S.v] 95)).heap.size := by simp
      by_cases hk1 : kd < 1
      · have hk1' : (kd : Int) < 1 := by omega
        have hz := Lib.hid (hbx.out (by rw [fO.out, hkd.out]; simp; omega))
        unfold Sl.v at y3 y4
        clear hend hbad hbx fO fB fN fa ft
        go_wp2_with fail
        go_ret
        rw [hz.out]
        exact ⟨none, 0, rfl, OwnB.nil _ _, bww.trans (bN.mono bww.size)⟩
      · have hk1' : ¬ (kd : Int) < 1 := by omega
        by_cases hk3 : 3 < kd
        · have hk3' : (3 : Int) < (kd : Int) := by omega
          have hz := Lib.hid (hbx.out (by rw [fO.out, hkd.out]; simp; omega))
          unfold Sl.v at y3 y4
          clear hend hbad hbx fO fB fN fa ft
          go_wp2_with fail
          go_ret
          rw [hz.out]
          exact ⟨none, 0, rfl, OwnB.nil _ _, bww.trans (bN.mono bww.size)⟩
        · have hk3' : ¬ (3 : Int) < (kd : Int) := by omega
          have hk255 : (kd : Int) ≤ 255 := by omega
          unfold Sl.v at y3 y4
          go_wp2_with fail
          have hWN := hW.on bN
          have lo := Nat.le_of_lt z0
          have l1 := Nat.le_refl w1.heap.size
          refine (wUint_any w1.heap.size w1.heap.size v _ kd _ hWN (by omega) (by have := hpre.out; omega)).mono ?_
          rintro e u1 ⟨rfl, v1, hW1, hm1, _⟩
          have bu1 : Below w1.heap.size w1 u1 := (bw.trans (bN.mono bw.size)).trans (hWN.low hm1 l1 l1)
          have kN1 := kN.mvd hWN hm1 (by decide) (by decide)
          have hnd1 := (hnd.below ((bN.mono bww.size).trans (hWN.low hm1 lo lo))).more (Nat.le_trans lo bu1.size)
          have hnum := numbers_any x C S u1 hnd1
          have hml := numsL_len x
          obtain ⟨m, hm⟩ : ∃ m, Hid (2 + x.ch.length + 1 + x.st.length = m) := ⟨_, Lib.hid rfl⟩
          rw [hm.out] at hnum hml
          rw [hkd.out] at hnum
          unfold Sl.v at hnum
          have hmt : m + 1 ≤ tot l := by rw [← hml]; exact hxt
          have Hml := Lib.hid hml
          have q0 : u1.cell? ⟨W0.heap.size, 0, none⟩ = some (.int .u8 (kd : Int)) := (kN1.cell 0).trans rfl
          have q1 : u1.cell? ⟨W0.heap.size, 1, none⟩ = some (.int .i64 x.step) := (kN1.cell 1).trans rfl
          have q2 : u1.cell? ⟨W0.heap.size, 2, none⟩ = some (.slice C.a C.n C.c) := (kN1.cell 2).trans rfl
          have q3 : u1.cell? ⟨W0.heap.size, 3, none⟩ = some (.slice S.a S.n S.c) := (kN1.cell 3).trans rfl
          have hmi : (m : Int) ≤ 1000000000 := by omega
          clear y1 y2 y3 y4 hWN hm1 kN kN1 hnd hnd1 hml bN zN hxt
          go_wp2_with fail
          refine hnum.mono ?_
          rintro e u2 ⟨An, cn, rfl, oN, b2n⟩
          have hW2 := hW1.on b2n
          have bu2 : Below w1.heap.size w1 u2 := bu1.trans (b2n.mono bu1.size)
          clear q0 q1 q2 q3 hnum hW1 b2n bu1
          go_wp2_with fail
          go_loopw [38] (fun v38 ws => ∃ (j : Nat) (v : Value), j ≤ m ∧ v38 = .int .i64 j ∧ WrAt ws w1.heap.size w1.heap.size v ((enc n ++ (l.take k).flatMap encN) ++ enc kd ++ ((numsL x).take j).flatMap encZ) ∧ Hid (((numsL x).take j).all okZ = true) ∧ OwnI ws u1.heap.size (.slice An m cn) m (numsL x) ∧ Below w1.heap.size w1 ws) (fun v38 _ => m - (intOf v38).toNat)
          case atStart => exact ⟨0, v1, Nat.zero_le _, rfl, by simpa using hW2, Lib.hid rfl, oN, bu2⟩
          case round =>
            clear hW2 oN bu2
            obtain ⟨j, vj, hj, rfl, hWj, hokj, oj, bj⟩ := hrel
            rename_i ws
            obtain ⟨W9, rfl⟩ : ∃ W9, W9 = ws := ⟨_, rfl⟩
            by_cases hjl : j < m
            · have hjl' : (j : Int) < (m : Int) := by omega
              obtain ⟨gb, go, z, rfl, _, Hz, hcz⟩ := Sees.int (k := j) oj.sees (by rw [Hml.out]; exact hjl)
              have fz := Lib.hid (flat_take encZ Hz.out)
              have fza := Lib.hid (all_take okZ Hz.out)
              by_cases h0 : z < 0
              · have hz := Lib.hid (hbx.out (fB.out j z Hz.out (by unfold okZ; simp; omega)))
                clear hend hbad hbx fO fB fN fa ft fz fza
                go_wp2_with fail
                go_ret
                rw [hz.out]
                exact ⟨none, 0, rfl, OwnB.nil _ _, b0.trans (bj.mono lo)⟩
              · by_cases h31 : 2147483647 < z
                · have hz := Lib.hid (hbx.out (fB.out j z Hz.out (by unfold okZ; simp; omega)))
                  clear hend hbad hbx fO fB fN fa ft fz fza
                  go_wp2_with fail
                  go_ret
                  rw [hz.out]
                  exact ⟨none, 0, rfl, OwnB.nil _ _, b0.trans (bj.mono lo)⟩
                · obtain ⟨V, rfl⟩ : ∃ V : Nat, z = (V : Int) := ⟨z.toNat, by omega⟩
                  have hV : (V : Int) ≤ 2147483647 := by omega
                  go_wp2_with fail
                  refine (wUint_any w1.heap.size w1.heap.size vj _ V _ hWj (by omega) (by
                    have h1 := flatZ_len hokj.out
                    have h2 := hpre.out
                    have h3 := enc_len (v := kd) (by omega)
                    have h4 : ((numsL x).take j).length ≤ m := by rw [List.length_take, Hml.out]; omega
                    rw [List.length_append, List.length_append]
                    omega)).mono ?_
                  rintro e u3 ⟨rfl, v4, hW4, hm4, _⟩
                  have bj4 := bj.trans (hWj.low hm4 l1 l1)
                  have oj4 := oj.mvd hWj hm4
                  clear hWj hm4 oj bj
                  go_wp2_with fail
                  go_roundw
                  case rel => exact ⟨j + 1, v4, by omega, by go_num, by rw [fz.out, ← List.append_assoc]; exact hW4, Lib.hid (by rw [fza.out, hokj.out]; unfold okZ; simp; omega), oj4, bj4⟩
                  case measure => simp [intOf]; omega
            · obtain rfl : j = m := by omega
              have hjl' : ¬ (j : Int) < (j : Int) := by omega
              have e9 : (numsL x).take j = numsL x := List.take_of_length_le (by rw [Hml.out]; omega)
              rw [e9] at hWj hokj
              clear e9
              go_wp2_with fail
              go_roundw
              case rel => exact ⟨k + 1, vj, by omega, by go_num, by rw [ft.out, fN.out, hkd.out, ← List.append_assoc, ← List.append_assoc]; exact hWj, Lib.hid (by rw [fa.out, hok.out, fO.out, hkd.out, hokj.out]; simp; omega), bj⟩
              case measure => simp [intOf]; omega
    · obtain rfl : k = n := by omega
      have hlt' : ¬ (k : Int) < (k : Int) := by omega
      rw [List.take_of_length_le (by rw [Hn.out]; omega)] at hW hok
      have hee := hend.out hok.out
      clear hend hbad
      go_wp2_with fail
      have hot := out_any w1.heap.size w1.heap.size v _ W0 hW (by have := hpre.out; rw [List.take_of_length_le (by rw [Hn.out]; omega)] at this; omega)
      rw [← hee] at hot
      clear hW hpre hee
      refine hot.mono ?_
      rintro e w9 ⟨A9, c9, rfl, o9, b9⟩
      go_wp2_with fail
      go_ret
      exact ⟨A9, c9, rfl, own_less o9 bww.size, bww.trans (b9.mono bww.size)⟩
end Go.Proofs.YtcnofhlgiffkjaaGreatDoor
