/- A pack of texts: RPar, RHall. -/
import Derived.Test.YtcdgmdhfaniciaaDoorPg
import Derived.Test.YtcdgmdhfaniciaaDoorPh
import Derived.Test.YtcdgmdhfaniciaaDoorPi
import Derived.Test.YtcdgmdhfaniciaaDoorPt
import Derived.Test.YtcdgmdhfaniciaaDoorPj
/- The reference's parents, paired. -/
namespace Go.Proofs.YtcdgmdhfaniciaaDoor
open Go.RowKit
set_option linter.unusedVariables false
set_option linter.unusedSimpArgs false

set_option maxHeartbeats 8000000 in
set_option maxRecDepth 100000 in
/-- parents. -/
theorem rparents_any (An : Option Addr) (k cn : Nat) (l : List Nd) (w : World) (h : RNodesAt w w.heap.size An l) (hn : l.length = k) (hb : k ≤ 1000000) (hkid : ∀ (i : Nat) (x : Nd), l[i]? = some x → ∀ c ∈ x.ch, 0 ≤ c ∧ c < (k : Int)) :
    Calls Tryd.prog 57 #[.slice An k cn] w fun e w' => ∃ g, e = .returned (.slice (some ⟨g, 0, none⟩) k k) ∧ w.heap.size ≤ g ∧ Blk w' g 3 ((parL k (kids l)).map iv).toArray ∧ Below w.heap.size w w' := by
  have hch : ∀ x ∈ l, x.ch.length ≤ 1000000 := fun x hx => by
    obtain ⟨i, hi⟩ := List.mem_iff_getElem?.1 hx
    obtain ⟨b, o, C, S, _, _, _, _, _, _, hN⟩ := h i x hi
    rw [hN.lc]; exact hN.bc
  have Hch := Lib.hid hch
  have Hn := Lib.hid hn
  have Hkid := Lib.hid hkid
  have hb1 : (k : Int) ≤ 1000000 := by omega
  clear hn hch hkid
  have hpar0 := Lib.hid (parL_nil k)
  go_enter Tryd.func57, Tryd.ntmps57
  go_wp2_with (refine wpL_mkI _ rfl _ _ rfl _ _ k rfl rfl rfl rfl (by omega) ?_; intro w2 hbk2 bk2 hsz2)
  have gB : Hid (Blk w2 w.heap.size 3 ((parL k (kids (l.take 0))).map iv).toArray) := Lib.hid (by
    have h1 : kids (l.take 0) = [] := rfl
    rw [h1, hpar0.out]; exact hbk2.out)
  have bw2 : Below w.heap.size w w2 := bk2
  have hge : w.heap.size ≤ w.heap.size := Nat.le_refl _
  clear hbk2 hpar0
  obtain ⟨gp, hgp⟩ : ∃ gp, Hid (gp = w.heap.size) := ⟨_, Lib.hid rfl⟩
  have hgpl : w.heap.size ≤ gp := Nat.le_of_eq hgp.out.symm
  go_loopw [13] (fun i wr => ∃ q : Nat, q ≤ k ∧ i = .int .i64 q ∧ Hid (Blk wr w.heap.size 3 ((parL k (kids (l.take q))).map iv).toArray) ∧ Below w.heap.size w wr) (fun i _ => k - (intOf i).toNat)
  case atStart => exact ⟨0, Nat.zero_le _, rfl, gB, bw2⟩
  case round =>
    obtain ⟨q, hq, rfl, gB, bw⟩ := hrel
    by_cases hltq : q < k
    · have hltq' : (q : Int) < (k : Int) := by omega
      obtain ⟨x, hx⟩ : ∃ x, l[q]? = some x := ⟨_, List.getElem?_eq_getElem (by rw [Hn.out]; exact hltq)⟩
      obtain ⟨b, o, C, S, rfl, hb2, hc0, hc1, hc2, hc3, hN⟩ := h q x hx
      replace hc0 := (bw.cell (p := ⟨b, o + q * 4, none⟩) hb2).trans hc0
      replace hc1 := (bw.cell (p := ⟨b, o + q * 4 + 1, none⟩) hb2).trans hc1
      replace hc2 := (bw.cell (p := ⟨b, o + q * 4 + 2, none⟩) hb2).trans hc2
      replace hc3 := (bw.cell (p := ⟨b, o + q * 4 + 3, none⟩) hb2).trans hc3
      have Hk := Lib.hid (Hkid.out q x hx)
      have Hks := Lib.hid (kids_snoc hx)
      have Hkl := Lib.hid (kids_len (l := l.take q) fun y hy => Hch.out y (List.mem_of_mem_take hy))
      obtain ⟨Ac, nc, cc⟩ := C
      obtain ⟨As, ns, cs⟩ := S
      have hlc := Lib.hid hN.lc
      have hbc := hN.bc
      have hNc := hN.ch
      simp only [] at hlc hbc hNc hc2 hc3
      unfold Sl.v at hc2 hc3
      have bx : Below wr.heap.size wr (wr.alloc (.cells #[.int .i64 (x.kind : Int), .int .i64 x.step, .slice Ac nc cc, .slice As ns cs] 72)) := (Below.refl _ _).alloc (Nat.le_refl _) _
      have bw3 := bw.trans (bx.mono bw.size)
      have gB3 : Hid (Blk (wr.alloc (.cells #[.int .i64 (x.kind : Int), .int .i64 x.step, .slice Ac nc cc, .slice As ns cs] 72)) w.heap.size 3 ((parL k (kids (l.take q) ++ x.ch.take 0)).map iv).toArray) := Lib.hid (by rw [List.take_zero, List.append_nil]; exact gB.out.on bx)
      have hbc' : (nc : Int) ≤ 1000000 := by omega
      clear hx hN
      go_wp2_with fail
      go_loopw [20] (fun i wr => ∃ j : Nat, j ≤ nc ∧ i = .int .i64 j ∧ Hid (Blk wr w.heap.size 3 ((parL k (kids (l.take q) ++ x.ch.take j)).map iv).toArray) ∧ Below w.heap.size w wr) (fun i _ => nc - (intOf i).toNat)
      case atStart => exact ⟨0, Nat.zero_le _, rfl, gB3, bw3⟩
      case round =>
        obtain ⟨j, hj, rfl, gB, bw⟩ := hrel
        by_cases hltj : j < nc
        · have hltj' : (j : Int) < (nc : Int) := by omega
          obtain ⟨b9, o9, v, rfl, hb9, Hv, hcv⟩ := Sees.int (k := j) (hNc.below bw) (by rw [hlc.out]; exact hltj)
          obtain ⟨hv0, hv1⟩ := Hk.out v (List.mem_of_getElem? Hv.out)
          obtain ⟨m, rfl⟩ : ∃ m : Nat, v = (m : Int) := ⟨v.toNat, by omega⟩
          have hm : m < k := by omega
          have hm' : (m : Int) < (k : Int) := by omega
          have hcell := gB.out.icell (parL_get _ hm)
          have hfz := gB.out.frozen m
          have hcb : (cntC (kids (l.take q) ++ x.ch.take j) m : Int) ≤ 2000000000000 := by
            have h1 := cntC_le (kids (l.take q) ++ x.ch.take j) m
            have h2 := Hkl.out
            rw [List.length_append] at h1
            have h3 : (l.take q).length ≤ 1000000 := by rw [List.length_take]; omega
            have h4 : (x.ch.take j).length ≤ 1000000 := by rw [List.length_take]; omega
            omega
          have hset := gB.out.iset m ((cntC (kids (l.take q) ++ x.ch.take j) m : Int) + 1)
          rw [← parL_snoc _ hm] at hset
          have htk : x.ch.take (j + 1) = x.ch.take j ++ [(m : Int)] := by rw [List.take_add_one, Hv.out]; rfl
          rw [List.append_assoc, ← htk] at hset
          have Hset := Lib.hid hset
          have hb' := bw.setCell (p := ⟨w.heap.size, m, none⟩) (Nat.le_refl _) (.int .i64 ((cntC (kids (l.take q) ++ x.ch.take j) m : Int) + 1))
          generalize cntC (kids (l.take q) ++ x.ch.take j) m = ct at hcell hcb Hset hb'
          clear hset htk
          go_wp2_with fail
          go_roundw
          case rel => exact ⟨j + 1, by omega, by go_num, Hset, hb'⟩
          case measure => simp [intOf]; omega
        · obtain rfl : j = nc := by omega
          have hlt' : ¬ (j : Int) < (j : Int) := by omega
          have gB4 := gB.out
          rw [List.take_of_length_le (l := x.ch) (by rw [hlc.out]; exact Nat.le_refl _), ← Hks.out] at gB4
          have GB4 := Lib.hid gB4
          clear gB4
          go_wp2_with fail
          go_roundw
          case rel => exact ⟨q + 1, by omega, by go_num, GB4, bw⟩
          case measure => simp [intOf]; omega
    · obtain rfl : q = k := by omega
      have hlt' : ¬ (q : Int) < (q : Int) := by omega
      have gB4 := gB.out
      rw [List.take_of_length_le (by rw [Hn.out]; exact Nat.le_refl _)] at gB4
      go_wp2_with fail
      go_ret
      exact ⟨_, rfl, Nat.le_refl _, gB4, bw⟩

theorem pairedB_any (P : Pr) (a b : Int) : pairedB P a b = P.dif.any fun x => (decide (x.1 = a) && decide (x.2 = b)) || (decide (x.1 = b) && decide (x.2 = a)) := by
  rw [Bool.eq_iff_iff]
  unfold pairedB
  simp only [Bool.or_eq_true, List.contains_iff_mem, List.any_eq_true, Bool.and_eq_true, decide_eq_true_eq]
  constructor
  · rintro (h | h)
    · exact ⟨_, h, .inl ⟨rfl, rfl⟩⟩
    · exact ⟨_, h, .inr ⟨rfl, rfl⟩⟩
  · rintro ⟨⟨x, y⟩, hx, h⟩
    rcases h with ⟨h1, h2⟩ | ⟨h1, h2⟩
    · simp only at h1 h2; subst h1 h2; exact .inl hx
    · simp only at h1 h2; subst h1 h2; exact .inr hx
set_option maxHeartbeats 8000000 in
set_option maxRecDepth 100000 in
/-- paired. -/
theorem rpaired_any (p : PrV) (P : Pr) (a b : Int) (w : World) (h : RPrAt w w.heap.size p P) :
    Calls Tryd.prog 59 #[p.v, .int .i64 a, .int .i64 b] w fun e w' => e = .returned (.bool (pairedB P a b)) ∧ Below w.heap.size w w' := by
  obtain ⟨r, hr⟩ : ∃ r, Hid (r = pairedB P a b) := ⟨_, Lib.hid rfl⟩
  rw [← hr.out]
  have Hr : Hid (r = P.dif.any fun x => (decide (x.1 = a) && decide (x.2 = b)) || (decide (x.1 = b) && decide (x.2 = a))) := Lib.hid (by rw [hr.out, pairedB_any])
  obtain ⟨⟨A1, n1, c1⟩, ⟨A2, n2, c2⟩, ⟨A3, n3, c3⟩, ⟨A4, n4, c4⟩, ⟨A5, n5, c5⟩⟩ := p
  obtain ⟨l1, l2, l3, l4, l5, e1, e2, e3, e4, e5, s1, s2, s3, s4, s5, _, w1, w4⟩ := h
  simp only at l2 e2 s2
  have L2 := Lib.hid l2
  have b1 : Below w.heap.size w (w.alloc (.cells #[.slice A1 n1 c1, .slice A2 n2 c2, .slice A3 n3 c3, .slice A4 n4 c4, .slice A5 n5 c5] 39)) := (Below.refl _ _).alloc (Nat.le_refl _) _
  unfold PrV.v Sl.v
  simp only []
  clear hr l1 l2 l3 l4 l5 e1 e3 e4 e5 s1 s3 s4 s5 w1 w4
  have hnb : (n2 : Int) ≤ 1000 := by omega
  go_enter Tryd.func59, Tryd.ntmps59
  go_wp2_with fail
  go_loopw [12] (fun i wr => ∃ k : Nat, k ≤ n2 ∧ i = .int .i64 k ∧ Hid ((P.dif.take k).any (fun x => (decide (x.1 = a) && decide (x.2 = b)) || (decide (x.1 = b) && decide (x.2 = a))) = false) ∧ Below w.heap.size w wr) (fun i _ => n2 - (intOf i).toNat)
  case atStart => exact ⟨0, Nat.zero_le _, rfl, Lib.hid rfl, b1⟩
  case round =>
    obtain ⟨k, hk, rfl, HQ, hB⟩ := hrel
    by_cases hlt : k < n2
    · have hlt' : (k : Int) < (n2 : Int) := by omega
      obtain ⟨⟨x, y⟩, hx⟩ : ∃ x, P.dif[k]? = some x := ⟨_, List.getElem?_eq_getElem (by rw [L2.out]; exact hlt)⟩
      obtain ⟨bb, o, rfl, hb2, hcx, hcy⟩ := (e2.below hB) k _ hx
      simp only [] at hcx hcy
      have Hs := Lib.hid (any_take_succ (fun x : Int × Int => (decide (x.1 = a) && decide (x.2 = b)) || (decide (x.1 = b) && decide (x.2 = a))) hx)
      have Hg : Hid (((decide (x = a) && decide (y = b)) || (decide (x = b) && decide (y = a))) = true → r = true) := Lib.hid (fun hh => by rw [Hr.out]; exact List.any_eq_true.2 ⟨_, List.mem_of_getElem? hx, hh⟩)
      have bx : Below wr.heap.size wr (wr.alloc (.cells #[.int .i64 x, .int .i64 y] 98)) := (Below.refl _ _).alloc (Nat.le_refl _) _
      have hB2 := hB.trans (bx.mono hB.size)
      clear hx
      obtain ⟨p1, hp1⟩ : ∃ p, (x == a) = p := ⟨_, rfl⟩
      obtain ⟨p2, hp2⟩ : ∃ p, (y == b) = p := ⟨_, rfl⟩
      obtain ⟨p3, hp3⟩ : ∃ p, (x == b) = p := ⟨_, rfl⟩
      obtain ⟨p4, hp4⟩ : ∃ p, (y == a) = p := ⟨_, rfl⟩
      have hd1 : decide (x = a) = p1 := by rw [← hp1]; rfl
      have hd2 : decide (y = b) = p2 := by rw [← hp2]; rfl
      have hd3 : decide (x = b) = p3 := by rw [← hp3]; rfl
      have hd4 : decide (y = a) = p4 := by rw [← hp4]; rfl
      have Hg2 : Hid (((p1 && p2) || (p3 && p4)) = true → r = true) := Lib.hid (by rw [← hd1, ← hd2, ← hd3, ← hd4]; exact Hg.out)
      have Hs2 : Hid (((p1 && p2) || (p3 && p4)) = false → (P.dif.take (k + 1)).any (fun x => (decide (x.1 = a) && decide (x.2 = b)) || (decide (x.1 = b) && decide (x.2 = a))) = false) := Lib.hid (fun hh => by rw [Hs.out, HQ.out, Bool.false_or]; rw [← hd1, ← hd2, ← hd3, ← hd4] at hh; exact hh)
      clear hd1 hd2 hd3 hd4
      cases p1 <;> cases p2 <;> cases p3 <;> cases p4
      all_goals first
        | (have H0 := Lib.hid (Hs2.out rfl)
           clear Hg Hs Hg2 Hs2
           go_wp2_with fail
           go_roundw
           case rel => exact ⟨k + 1, by omega, by go_num, H0, hB2⟩
           case measure => simp [intOf]; omega)
        | (have H0 := Lib.hid (Hg2.out rfl)
           clear Hg Hs Hg2 Hs2
           go_wp2_with fail
           go_ret
           exact ⟨ret_bool H0.out.symm, hB2⟩)
    · have hlt' : ¬ (k : Int) < (n2 : Int) := by omega
      have H0 : Hid (r = false) := Lib.hid (by
        have h1 := HQ.out
        rw [List.take_of_length_le (by rw [L2.out]; omega)] at h1
        rw [Hr.out, h1])
      go_wp2_with fail
      go_ret
      exact ⟨ret_bool H0.out.symm, hB⟩
end Go.Proofs.YtcdgmdhfaniciaaDoor
/- The reference's IsHall. -/
namespace Go.Proofs.YtcdgmdhfaniciaaDoor
open Go.RowKit
set_option linter.unusedVariables false
set_option linter.unusedSimpArgs false

theorem u64_orN (M N : Nat) (h : M < 2 ^ 64) (h2 : N < 2 ^ 64) : bits .or .u64 (M : Int) (N : Int) = ((M ||| N : Nat) : Int) := by
  show IntKind.u64.wrap ((BitVec.ofInt 64 (M : Int) ||| BitVec.ofInt 64 (N : Int)).toNat : Int) = _
  rw [BitVec.toNat_or, BitVec.toNat_ofInt, BitVec.toNat_ofInt]
  have e : (((M : Int) % ((2 ^ 64 : Nat) : Int))).toNat = M := by omega
  have e2 : (((N : Int) % ((2 ^ 64 : Nat) : Int))).toNat = N := by omega
  rw [e, e2]
  have := Nat.or_lt_two_pow h h2
  show ((M ||| N : Nat) : Int) % (2 ^ 64) = _
  omega
theorem pairedB_comm (P : Pr) (a b : Int) : pairedB P a b = pairedB P b a := by
  unfold pairedB
  rw [Bool.or_comm]
theorem hallB_nil (P : Pr) (st : List Int) : hallB P [] st = false := by
  unfold hallB; simp
set_option maxHeartbeats 16000000 in
set_option maxRecDepth 100000 in
/-- IsHall. -/
theorem rhall_any (p : PrV) (P : Pr) (A S : Option Addr) (n c nS cS : Nat) (l st : List Int) (w : World) (h : RPrAt w w.heap.size p P) (hl : Sees w w.heap.size A (l.map iv)) (hn : l.length = n) (hb : n ≤ 1000000) (hcap : n ≤ c)
    (hs : Sees w w.heap.size S (st.map iv)) (hnS : st.length = nS) (hlS : st.length = P.elig.length) :
    Calls Tryd.prog 25 #[p.v, .slice S nS cS, .slice A n c] w fun e w' => e = .returned (.bool (hallB P l st)) ∧ Below w.heap.size w w' := by
  have hpr := fun W (hW : Below w.heap.size w W) a b => rpaired_any p P a b W (h.on hW)
  obtain ⟨r, hr⟩ : ∃ r, Hid (r = hallB P l st) := ⟨_, Lib.hid rfl⟩
  rw [← hr.out]
  obtain ⟨⟨A1, n1, c1⟩, ⟨A2, n2, c2⟩, ⟨A3, n3, c3⟩, ⟨A4, n4, c4⟩, ⟨A5, n5, c5⟩⟩ := p
  obtain ⟨l1, l2, l3, l4, l5, e1, e2, e3, e4, e5, s1, s2, s3, s4, s5, _, w1, w4⟩ := h
  simp only at l1 l2 l3 l4 l5 e1 e2 e3 e4 e5 s1 s2 s3 s4 s5
  obtain rfl : nS = n1 := by omega
  have b1 : Below w.heap.size w (w.alloc (.cells #[.slice A1 nS c1, .slice A2 n2 c2, .slice A3 n3 c3, .slice A4 n4 c4, .slice A5 n5 c5] 39)) := (Below.refl _ _).alloc (Nat.le_refl _) _
  have bP := Blk.new w 39 #[.slice A1 nS c1, .slice A2 n2 c2, .slice A3 n3 c3, .slice A4 n4 c4, .slice A5 n5 c5]
  have box : ∀ W, Blk W w.heap.size 39 #[.slice A1 nS c1, .slice A2 n2 c2, .slice A3 n3 c3, .slice A4 n4 c4, .slice A5 n5 c5] → W.cell? ⟨w.heap.size, 0, none⟩ = some (.slice A1 nS c1) ∧ W.cell? ⟨w.heap.size, 1, none⟩ = some (.slice A2 n2 c2) ∧ W.cell? ⟨w.heap.size, 2, none⟩ = some (.slice A3 n3 c3) ∧ W.cell? ⟨w.heap.size, 3, none⟩ = some (.slice A4 n4 c4) ∧ W.cell? ⟨w.heap.size, 4, none⟩ = some (.slice A5 n5 c5) := fun W hb => ⟨(hb.cell 0).trans rfl, (hb.cell 1).trans rfl, (hb.cell 2).trans rfl, (hb.cell 3).trans rfl, (hb.cell 4).trans rfl⟩
  unfold PrV.v Sl.v at hpr ⊢
  simp only [] at hpr ⊢
  have Hn := Lib.hid hn
  have HS := Lib.hid hnS
  have L1 := Lib.hid l1
  have W1' := Lib.hid w1
  have hb1 : (n : Int) ≤ 1000000 := by omega
  have hs1 : (nS : Int) ≤ 1000000 := by omega
  clear hn hnS l1 l2 l3 l4 l5 hlS w1 w4
  go_enter Tryd.func25, Tryd.ntmps25
  go_wp2_with fail
  generalize (w.alloc (.cells #[.slice A1 nS c1, .slice A2 n2 c2, .slice A3 n3 c3, .slice A4 n4 c4, .slice A5 n5 c5] 39)) = W1 at b1 bP ⊢
  go_loopw [7, 14] (fun v7 v14 wr => ∃ (k U : Nat), k ≤ n ∧ v14 = .int .i64 k ∧ v7 = .int .u64 (U : Int) ∧ U < 2 ^ 64 ∧ Hid (U = unionE P.elig (l.take k)) ∧ Hid (∀ j, j < k → stepB P st (l.take j) (atI l j) = true) ∧ Below W1.heap.size W1 wr) (fun _ v14 _ => n - (intOf v14).toNat)
  case atStart => exact ⟨0, 0, Nat.zero_le _, rfl, rfl, by omega, Lib.hid rfl, Lib.hid (fun j hj => absurd hj (Nat.not_lt_zero _)), Below.refl _ _⟩
  case round =>
    obtain ⟨k, U, hk, rfl, rfl, hU, HU, HP, hB⟩ := hrel
    have bw := b1.trans (hB.mono b1.size)
    have bPk := bP.on hB
    obtain ⟨t0, t1, t2, t3, t4⟩ := box _ bPk
    by_cases hlt : k < n
    · have hlt' : (k : Int) < (n : Int) := by omega
      obtain ⟨b, o, z, rfl, hb2, Hz, hc⟩ := Sees.int (k := k) (hl.below bw) (by rw [Hn.out]; exact hlt)
      have hat : atI l k = z := by unfold atI; rw [Hz.out]; rfl
      have No : Hid (stepB P st (l.take k) z = false → r = false) := Lib.hid fun h1 => by rw [hr.out]; exact hall_no Hz.out h1
      have Yes : Hid (stepB P st (l.take k) z = true → ∀ j, j < k + 1 → stepB P st (l.take j) (atI l j) = true) := Lib.hid fun h1 j hj => by
        rcases Nat.lt_succ_iff_lt_or_eq.1 hj with h2 | rfl
        · exact HP.out j h2
        · rw [hat]; exact h1
      have Htk : Hid (l.take (k + 1) = l.take k ++ [z]) := Lib.hid (by rw [List.take_add_one, Hz.out]; rfl)
      clear hat
      by_cases z0 : z < 0
      · have e1 : Hid (r = false) := Lib.hid (No.out (by unfold stepB; rw [decide_eq_false (by omega)]; rfl))
        go_wp2_with fail
        go_ret
        exact ⟨ret_bool e1.out.symm, bw⟩
      · by_cases z1 : (nS : Int) ≤ z
        · have e1 : Hid (r = false) := Lib.hid (No.out (by unfold stepB; rw [decide_eq_false (p := z < _) (by rw [HS.out]; omega), Bool.and_false]; rfl))
          go_wp2_with fail
          go_ret
          exact ⟨ret_bool e1.out.symm, bw⟩
        · obtain ⟨m, rfl⟩ : ∃ m : Nat, z = (m : Int) := ⟨z.toNat, by omega⟩
          have hm : m < nS := by omega
          have hm' : (m : Int) < (nS : Int) := by omega
          obtain ⟨bs, os, v, rfl, hbs, Hv, hcv⟩ := Sees.int (k := m) (hs.below bw) (by rw [HS.out]; exact hm)
          have Hv2 : Hid (atZ st (m : Int) = v) := Lib.hid (by unfold atZ atI; rw [Int.toNat_natCast, Hv.out]; rfl)
          by_cases v0 : v = 0
          · subst v0
            obtain ⟨M, hM⟩ : ∃ M, P.elig[m]? = some M := ⟨_, List.getElem?_eq_getElem (by rw [L1.out]; exact hm)⟩
            have hMb := W1'.out M (List.mem_of_getElem? hM)
            have hM1 : (P.elig.map wv)[m]? = some (.int .u64 (M : Int)) := by rw [List.getElem?_map, hM]; rfl
            have Hun : Hid (unionE P.elig (l.take (k + 1)) = U ||| M) := Lib.hid (by
              rw [Htk.out, unionE_snoc, Int.toNat_natCast, hM, HU.out]; rfl)
            obtain ⟨F, hF⟩ : ∃ F : Int → Bool, Hid (F = fun j => decide (j ≠ (m : Int)) && pairedB P j m) := ⟨_, Lib.hid rfl⟩
            obtain ⟨L, hL⟩ : ∃ L, Hid (L = l.take k) := ⟨_, Lib.hid rfl⟩
            have Hst : Hid (stepB P st (l.take k) (m : Int) = L.all F) := Lib.hid (by
              unfold stepB
              rw [hF.out, hL.out, decide_eq_true (by omega), decide_eq_true (p := (m : Int) < _) (by rw [HS.out]; omega), decide_eq_true Hv2.out]
              simp)
            have HL : Hid (L.length = k) := Lib.hid (by rw [hL.out, List.length_take, Hn.out]; omega)
            have hor := u64_orN U M hU hMb
            have hor2 := Nat.or_lt_two_pow hU hMb
            have hkc : (k : Int) ≤ (c : Int) := by omega
            have hkc' : k ≤ c := by omega
            have he1 := e1
            have hl2 := hl
            clear e1 hM
            go_wp2_with fail
            go_loopw [38] (fun i wq => ∃ j : Nat, j ≤ k ∧ i = .int .i64 j ∧ Hid ((L.take j).all F = true) ∧ Below W1.heap.size W1 wq) (fun i _ => k - (intOf i).toNat)
            case atStart => exact ⟨0, Nat.zero_le _, rfl, Lib.hid rfl, hB⟩
            case round =>
              obtain ⟨j, hj, rfl, HQ, hQ⟩ := hrel
              have bwq := b1.trans (hQ.mono b1.size)
              have bPq := bP.on hQ
              obtain ⟨t0, t1, t2, t3, t4⟩ := box _ bPq
              by_cases hlj : j < k
              · have hlj' : (j : Int) < (k : Int) := by omega
                obtain ⟨b', o', y, hA', hb', Hy, hcy⟩ := Sees.int (k := j) (hl2.below bwq) (by rw [Hn.out]; omega)
                simp only [Option.some.injEq, Addr.mk.injEq, and_true] at hA'
                obtain ⟨rfl, rfl⟩ := hA'
                have hLj : L[j]? = some y := by rw [hL.out, List.getElem?_take_of_lt hlj]; exact Hy.out
                have Hs := Lib.hid (all_take_succ F hLj)
                have hFy : F y = (decide (y ≠ (m : Int)) && pairedB P y m) := by rw [hF.out]
                have Hno : Hid (F y = false → r = false) := Lib.hid fun hh => No.out (by
                  rw [Hst.out]
                  exact all_of_take (k := j + 1) (by rw [Hs.out, hh, Bool.and_false]))
                have HFy := Lib.hid hFy
                have hq := hpr _ bwq (m : Int) y
                rw [pairedB_comm] at hq
                clear hLj hFy
                by_cases y0 : y = (m : Int)
                · have e1 : Hid (r = false) := Lib.hid (Hno.out (by rw [HFy.out, decide_eq_false (by simpa using y0)]; rfl))
                  have y0b : ((m : Int) == y) = true := by simpa using y0.symm
                  clear y0
                  go_wp2_with fail
                  go_ret
                  exact ⟨ret_bool e1.out.symm, bwq⟩
                · have y0b : ((m : Int) == y) = false := by simpa using fun e => y0 e.symm
                  cases hpb : pairedB P y (m : Int)
                  · rw [hpb] at hq
                    have e1 : Hid (r = false) := Lib.hid (Hno.out (by rw [HFy.out, hpb, Bool.and_false]))
                    clear y0 hpb
                    go_wp2_with fail
                    refine hq.mono ?_
                    rintro e w9 ⟨rfl, bw9⟩
                    go_wp2_with fail
                    go_ret
                    exact ⟨ret_bool e1.out.symm, bwq.trans (bw9.mono bwq.size)⟩
                  · rw [hpb] at hq
                    have e1 : Hid ((L.take (j + 1)).all F = true) := Lib.hid (by rw [Hs.out, HQ.out, HFy.out, hpb, decide_eq_true (by simpa using y0)]; rfl)
                    clear y0 hpb
                    go_wp2_with fail
                    refine hq.mono ?_
                    rintro e w9 ⟨rfl, bw9⟩
                    go_wp2_with fail
                    go_roundw
                    case rel => exact ⟨j + 1, by omega, by go_num, e1, hQ.trans (bw9.mono hQ.size)⟩
                    case measure => simp [intOf]; omega
              · have hlj' : ¬ (j : Int) < (k : Int) := by omega
                obtain rfl : k = j := by omega
                have Y : Hid (∀ j, j < k + 1 → stepB P st (l.take j) (atI l j) = true) := Lib.hid (Yes.out (by
                  rw [Hst.out]
                  have h1 := HQ.out
                  rw [List.take_of_length_le (by rw [HL.out]; exact Nat.le_refl _)] at h1
                  exact h1))
                obtain ⟨be, oe, rfl, hbe, hce⟩ := (he1.below bwq) (by intro e; rw [e] at hM1; simp at hM1)
                have hcM := hce m _ hM1
                clear hce hM1
                go_wp2_with fail
                go_roundw
                case rel => exact ⟨k + 1, U ||| M, by omega, by go_num, rfl, hor2, Lib.hid Hun.out.symm, Y, hQ⟩
                case measure => simp [intOf]; omega
          · have v0b : (v != 0) = true := by simpa using v0
            have e1 : Hid (r = false) := Lib.hid (No.out (by unfold stepB; rw [decide_eq_false (p := atZ st _ = 0) (by rw [Hv2.out]; exact v0)]; simp))
            clear v0
            go_wp2_with fail
            go_ret
            exact ⟨ret_bool e1.out.symm, bw⟩
    · have hlt' : ¬ (k : Int) < (n : Int) := by omega
      obtain rfl : n = k := by omega
      have Hr : Hid (r = decide ((memT 64 U).length < n)) := Lib.hid (by
        have hall : ((List.range l.length).all fun i => stepB P st (l.take i) (atI l i)) = true := all_range_of fun j hj => HP.out j (by rw [Hn.out] at hj; exact hj)
        rw [hr.out]
        unfold hallB
        rw [hall, Bool.true_and]
        have := HU.out
        rw [List.take_of_length_le (by rw [Hn.out]; exact Nat.le_refl _)] at this
        rw [← this, memM_memT hU, Hn.out])
      by_cases n0 : n = 0
      · subst n0
        have e1 : Hid (r = false) := Lib.hid (by rw [Hr.out]; simp)
        go_wp2_with fail
        go_ret
        exact ⟨ret_bool e1.out.symm, bw⟩
      · have n0' : (0 : Int) < (n : Int) := by omega
        have hm := mem41_any U wr hU
        go_wp2_with fail
        refine hm.mono ?_
        rintro e w9 ⟨A', n', c', rfl, ho, hn', bw9⟩
        have hl9 := ho.len
        rw [List.length_map] at hl9
        have hn9 : (n' : Int) ≤ 64 := by omega
        go_wp2_with fail
        go_ret
        exact ⟨ret_bool (by rw [Hr.out, hl9]), bw.trans (bw9.mono bw.size)⟩
end Go.Proofs.YtcdgmdhfaniciaaDoor
