/- A pack of texts: Hall, RForm. -/
import Derived.Test.YtcnofhlgiffkjaaGreatDoorPf
import Derived.Test.YtcnofhlgiffkjaaGreatDoorPb
import Derived.Test.YtcnofhlgiffkjaaGreatDoorPc
/- hall. -/
namespace Go.Proofs.YtcnofhlgiffkjaaGreatDoor
open Go.RowKit
set_option linter.unusedVariables false
set_option linter.unusedSimpArgs false

theorem SetAt.far {w : World} {B g : Nat} {v u : Value} {M i : Nat} {t : TypeId} {cs : Array Value} (h : SetAt w B v M) (hg : Blk w g t cs) (ht : t ≠ 70) : SetAt (w.setCell ⟨g, i, none⟩ u) B v M := by
  obtain ⟨A, n, c, rfl, h1, h2, h4, s, r⟩ := h
  have hne : ∀ b o, A = some ⟨b, o, none⟩ → n ≠ 0 → b ≠ g := fun b o e h0 e2 => by
    obtain ⟨cs', hc⟩ := r b o e h0
    subst e2
    exact ht (by
      have e3 := hg.symm.trans hc
      simp at e3
      exact e3.2)
  refine ⟨A, n, c, rfl, h1, h2, h4, fun hn => ?_, fun b o e h0 => ?_⟩
  · have h0 : n ≠ 0 := by
      rintro rfl
      apply hn
      apply List.eq_nil_of_length_eq_zero
      rw [List.length_map, dg_length, h4]
    obtain ⟨b, o, e, hb, hc⟩ := s hn
    refine ⟨b, o, e, hb, fun j x hx => ?_⟩
    rw [World.cell?_setCell_other w _ _ _ (fun e2 => hne b o e h0 (by injection e2 with e2; exact e2.symm))]
    exact hc j x hx
  · obtain ⟨cs', hc⟩ := r b o e h0
    exact ⟨cs', hc.far (p := ⟨g, i, none⟩) (hne b o e h0) _⟩

def pairedB (P : Pr) (j k : Int) : Bool := P.dif.contains (j, k) || P.dif.contains (k, j)
/-- Step k may stand behind the steps pre. -/
def stepB (P : Pr) (st pre : List Int) (k : Int) : Bool := decide (0 ≤ k) && decide (k < st.length) && decide (atZ st k = 0) && pre.all fun j => decide (j ≠ k) && pairedB P j k
/-- The users of steps. -/
def unionE (e : List Nat) (l : List Int) : Nat := l.foldl (fun a k => a ||| (e[k.toNat]?.getD 0)) 0
def hallB (P : Pr) (steps st : List Int) : Bool := ((List.range steps.length).all fun i => stepB P st (steps.take i) (atI steps i)) && decide ((memM (unionE P.elig steps)).length < steps.length)
theorem unionE_snoc (e : List Nat) (l : List Int) (k : Int) : unionE e (l ++ [k]) = unionE e l ||| (e[k.toNat]?.getD 0) := by
  unfold unionE
  rw [List.foldl_append]; rfl
theorem all_take_succ {α : Type} {l : List α} {k : Nat} {x : α} (f : α → Bool) (h : l[k]? = some x) : (l.take (k + 1)).all f = ((l.take k).all f && f x) := by
  rw [List.take_add_one, h]; simp
theorem all_of_take {α : Type} {l : List α} {k : Nat} {f : α → Bool} (h : (l.take k).all f = false) : l.all f = false := by
  refine Bool.eq_false_iff.2 fun h1 => ?_
  rw [List.all_eq_true] at h1
  have : (l.take k).all f = true := List.all_eq_true.2 fun x hx => h1 x (List.mem_of_mem_take hx)
  rw [this] at h
  cases h
theorem hall_no {P : Pr} {steps st : List Int} {k : Nat} {z : Int} (hk : steps[k]? = some z) (h : stepB P st (steps.take k) z = false) : hallB P steps st = false := by
  unfold hallB
  have hz : atI steps k = z := by unfold atI; rw [hk]; rfl
  rw [all_range_not (List.getElem?_eq_some_iff.1 hk).1 (by rw [hz]; exact h)]
  rfl

set_option maxHeartbeats 8000000 in
set_option maxRecDepth 100000 in
/-- hall. -/
theorem hall_any (p : PrV) (P : Pr) (A S : Option Addr) (n c nS cS : Nat) (l st : List Int) (w : World) (h : PrAt w w.heap.size p P) (hl : Sees w w.heap.size A (l.map iv)) (hn : l.length = n) (hb : n ≤ 1000000) (hcap : n ≤ c)
    (hs : Sees w w.heap.size S (st.map iv)) (hnS : st.length = nS) (hlS : st.length = P.elig.length) :
    Calls Tryz.prog 37 #[p.v, .slice A n c, .slice S nS cS] w fun e w' => e = .returned (.bool (hallB P l st)) ∧ Below w.heap.size w w' := by
  obtain ⟨⟨A1, n1, c1⟩, ⟨A2, n2, c2⟩, ⟨A3, n3, c3⟩, ⟨A4, n4, c4⟩, ⟨A5, n5, c5⟩⟩ := p
  obtain ⟨l1, l2, l3, l4, l5, e1, e2, e3, e4, e5, s1, s2, s3, s4, s5, _⟩ := h
  simp only at l1 l2 l3 l4 l5 e1 e2 e3 e4 e5 s1 s2 s3 s4 s5
  obtain rfl : nS = n1 := by omega
  have b1 : Below w.heap.size w ((w.alloc (.cells #[.slice A1 nS c1, .slice A2 n2 c2, .slice A3 n3 c3, .slice A4 n4 c4, .slice A5 n5 c5] 37)).alloc (.cells #[.slice none 0 0] 63)) := ((Below.refl _ _).alloc (Nat.le_refl _) _).alloc (by simp) _
  have bP := (Blk.new w 37 #[.slice A1 nS c1, .slice A2 n2 c2, .slice A3 n3 c3, .slice A4 n4 c4, .slice A5 n5 c5]).alloc (.cells #[.slice none 0 0] 63)
  have bU := Blk.new (w.alloc (.cells #[.slice A1 nS c1, .slice A2 n2 c2, .slice A3 n3 c3, .slice A4 n4 c4, .slice A5 n5 c5] 37)) 63 #[.slice none 0 0]
  rw [World.size_alloc] at bU
  unfold PrV.v Sl.v
  simp only []
  have Hn := Lib.hid hn
  have HS := Lib.hid hnS
  have L1 := Lib.hid l1
  have L2 := Lib.hid l2
  have hb1 : (n : Int) ≤ 1000000 := by omega
  have hs1 : (nS : Int) ≤ 1000000 := by omega
  clear hn hnS l1 l2 l3 l4 l5 hlS
  go_enter Tryz.func37, Tryz.ntmps37
  go_wp2_with fail
  have hsz1 : ((w.alloc (.cells #[.slice A1 nS c1, .slice A2 n2 c2, .slice A3 n3 c3, .slice A4 n4 c4, .slice A5 n5 c5] 37)).alloc (.cells #[.slice none 0 0] 63)).heap.size = w.heap.size + 2 := by simp
  generalize ((w.alloc (.cells #[.slice A1 nS c1, .slice A2 n2 c2, .slice A3 n3 c3, .slice A4 n4 c4, .slice A5 n5 c5] 37)).alloc (.cells #[.slice none 0 0] 63)) = W1 at b1 bP bU hsz1 ⊢
  go_loopw [14] (fun i wr => ∃ (k : Nat) (X : Value), k ≤ n ∧ i = .int .i64 k ∧ Hid (∀ j, j < k → stepB P st (l.take j) (atI l j) = true) ∧ Blk wr w.heap.size 37 #[.slice A1 nS c1, .slice A2 n2 c2, .slice A3 n3 c3, .slice A4 n4 c4, .slice A5 n5 c5] ∧ Blk wr (w.heap.size + 1) 63 #[X] ∧ SetAt wr wr.heap.size (.agg #[X]) (unionE P.elig (l.take k)) ∧ Below w.heap.size w wr) (fun i _ => n - (intOf i).toNat)
  case atStart => exact ⟨0, _, Nat.zero_le _, rfl, Lib.hid (fun j hj => absurd hj (Nat.not_lt_zero _)), bP, bU, ⟨none, 0, 0, rfl, Nat.le_refl _, by omega, by simp [unionE, len2], by simp [unionE]; exact Sees.nil _ _ _, fun _ _ _ h => absurd rfl h⟩, b1⟩
  case round =>
    obtain ⟨k, X, hk, rfl, HP, bPk, bUk, hU, bw⟩ := hrel
    obtain ⟨Au, nu, cu, hXe, _⟩ := id hU
    obtain rfl : X = .slice Au nu cu := by simpa using hXe
    clear hXe
    have p0 := (bPk.cell 0).trans rfl
    have p1 := (bPk.cell 1).trans rfl
    have u0 := (bUk.cell 0).trans rfl
    have fz := bUk.frozen 0
    by_cases hlt : k < n
    · have hlt' : (k : Int) < (n : Int) := by omega
      obtain ⟨b, o, z, rfl, hb2, Hz, hc⟩ := Sees.int (k := k) (hl.below bw) (by rw [Hn.out]; exact hlt)
      have hat : atI l k = z := by unfold atI; rw [Hz.out]; rfl
      have no : stepB P st (l.take k) z = false → hallB P l st = false := fun h1 => hall_no Hz.out h1
      have No := Lib.hid no
      have yes : stepB P st (l.take k) z = true → Hid (∀ j, j < k + 1 → stepB P st (l.take j) (atI l j) = true) := fun h1 => Lib.hid fun j hj => by
        rcases Nat.lt_succ_iff_lt_or_eq.1 hj with h2 | rfl
        · exact HP.out j h2
        · rw [hat]; exact h1
      have Yes := Lib.hid yes
      have htk : l.take (k + 1) = l.take k ++ [z] := by rw [List.take_add_one, Hz.out]; rfl
      have Htk := Lib.hid htk
      clear no yes hat htk
      by_cases z0 : z < 0
      · have e1 : Hid (hallB P l st = false) := Lib.hid (No.out (by unfold stepB; rw [decide_eq_false (by omega)]; rfl))
        go_wp2_with fail
        go_ret
        exact ⟨ret_bool e1.out.symm, bw⟩
      · by_cases z1 : (nS : Int) ≤ z
        · have e1 : Hid (hallB P l st = false) := Lib.hid (No.out (by unfold stepB; rw [decide_eq_false (p := z < _) (by rw [HS.out]; omega), Bool.and_false]; rfl))
          go_wp2_with fail
          go_ret
          exact ⟨ret_bool e1.out.symm, bw⟩
        · obtain ⟨m, rfl⟩ : ∃ m : Nat, z = (m : Int) := ⟨z.toNat, by omega⟩
          have hm : m < nS := by omega
          have hm' : (m : Int) < (nS : Int) := by omega
          obtain ⟨bs, os, v, rfl, hbs, Hv, hcv⟩ := Sees.int (k := m) (hs.below bw) (by rw [HS.out]; exact hm)
          have hv : atZ st (m : Int) = v := by unfold atZ atI; rw [Int.toNat_natCast, Hv.out]; rfl
          have Hv2 := Lib.hid hv
          clear hv
          by_cases v0 : v = 0
          · subst v0
            obtain ⟨M, hM⟩ : ∃ M, P.elig[m]? = some M := ⟨_, List.getElem?_eq_getElem (by rw [L1.out]; exact hm)⟩
            obtain ⟨be, oe, Xe, rfl, hbe, hce, hSe⟩ := (e1.below bw) m M hM
            obtain ⟨Ae, ne, ce, hXe, _⟩ := id hSe
            obtain rfl : Xe = .slice Ae ne ce := by simpa using hXe
            clear hXe
            have hun : unionE P.elig (l.take (k + 1)) = unionE P.elig (l.take k) ||| M := by
              rw [Htk.out, unionE_snoc, Int.toNat_natCast, hM]; rfl
            have Hun := Lib.hid hun
            clear hun hM
            have q0 : Below wr.heap.size wr wr.drew := (Below.refl _ _).drew
            have hor := or_any (.agg #[.slice Au nu cu]) (.agg #[.slice Ae ne ce]) (unionE P.elig (l.take k)) M wr.drew (hU.on q0) ((hSe.more bw.size).on q0)
            go_wp2_with fail
            go_region_with (first | (go_at_call 74; refine hor.mono ?_; rintro e u1 ⟨v', rfl, hv', bu1⟩; obtain ⟨A', n', c', rfl, _⟩ := id hv'; have qA : Below wr.heap.size wr u1 := q0.trans (bu1.mono q0.size); have uA := bUk.on qA; have pA := bPk.on qA; have ux := (uA.cell 0).trans rfl; have fx := uA.frozen 0))
            all_goals (
              have bU2 : Blk (u1.setCell ⟨w.heap.size + 1, 0, none⟩ (.slice A' n' c')) (w.heap.size + 1) 63 #[.slice A' n' c'] := by simpa using uA.put 0 (.slice A' n' c')
              have bP2 : Blk (u1.setCell ⟨w.heap.size + 1, 0, none⟩ (.slice A' n' c')) w.heap.size 37 #[.slice (some ⟨be, oe, none⟩) nS c1, .slice A2 n2 c2, .slice A3 n3 c3, .slice A4 n4 c4, .slice A5 n5 c5] := pA.far (p := ⟨w.heap.size + 1, 0, none⟩) (by simp) _
              have hU2 : SetAt (u1.setCell ⟨w.heap.size + 1, 0, none⟩ (.slice A' n' c')) (u1.setCell ⟨w.heap.size + 1, 0, none⟩ (.slice A' n' c')).heap.size (.agg #[.slice A' n' c']) (unionE P.elig (l.take (k + 1))) := by
                rw [Hun.out]
                exact (hv'.far (i := 0) (u := .slice A' n' c') uA (by decide)).more (by simp)
              have bw2 : Below w.heap.size w (u1.setCell ⟨w.heap.size + 1, 0, none⟩ (.slice A' n' c')) := (bw.trans (qA.mono bw.size)).setCell (p := ⟨w.heap.size + 1, 0, none⟩) (by simp) _
              generalize (u1.setCell ⟨w.heap.size + 1, 0, none⟩ (.slice A' n' c')) = u2 at bU2 bP2 hU2 bw2 ⊢
              clear uA pA ux fx hv' hor q0 qA bu1
              obtain ⟨F, hF⟩ : ∃ F : Int → Bool, Hid (F = fun j => decide (j ≠ (m : Int)) && pairedB P j m) := ⟨_, Lib.hid rfl⟩
              obtain ⟨L, hL⟩ : ∃ L, Hid (L = l.take k) := ⟨_, Lib.hid rfl⟩
              have hst : stepB P st (l.take k) (m : Int) = L.all F := by
                unfold stepB
                rw [hF.out, hL.out, decide_eq_true (by omega), decide_eq_true (p := (m : Int) < _) (by rw [HS.out]; omega), decide_eq_true Hv2.out]
                simp
              have Hst := Lib.hid hst
              have hlen : L.length = k := by rw [hL.out, List.length_take, Hn.out]; omega
              have HL := Lib.hid hlen
              clear hst hlen
              have hkc : (k : Int) ≤ (c : Int) := by omega
              have hkc' : k ≤ c := by omega
              go_wp2_with fail
              go_loopw [45] (fun i wq => ∃ j : Nat, j ≤ k ∧ i = .int .i64 j ∧ Hid ((L.take j).all F = true) ∧ Below u2.heap.size u2 wq) (fun i _ => k - (intOf i).toNat)
              case atStart => exact ⟨0, Nat.zero_le _, rfl, Lib.hid rfl, Below.refl _ _⟩
              case round =>
                obtain ⟨j, hj, rfl, HQ, hQ⟩ := hrel
                have bwq := bw2.trans (hQ.mono bw2.size)
                have bPq := bP2.on hQ
                have r1 := (bPq.cell 1).trans rfl
                by_cases hlj : j < k
                · have hlj' : (j : Int) < (k : Int) := by omega
                  obtain ⟨b9, o9, v9, e9, hb9, Hz9, hc9⟩ := Sees.int (k := j) (hl.below bwq) (by rw [Hn.out]; omega)
                  injection e9 with e9
                  injection e9 with e91 e92 _
                  subst e91 e92
                  have hg9 : L[j]? = some v9 := by rw [hL.out, List.getElem?_take_of_lt hlj]; exact Hz9.out
                  have hnx := all_take_succ F hg9
                  rw [HQ.out, Bool.true_and] at hnx
                  have hFv : F v9 = (decide (v9 ≠ (m : Int)) && (P.dif.contains (v9, (m : Int)) || P.dif.contains ((m : Int), v9))) := by rw [hF.out]; rfl
                  have Hbad : F v9 = false → Hid (hallB P l st = false) := fun h1 => Lib.hid (No.out (by rw [Hst.out]; exact all_of_take (hnx.trans h1)))
                  have Hgood : F v9 = true → Hid ((L.take (j + 1)).all F = true) := fun h1 => Lib.hid (hnx.trans h1)
                  have HB := Lib.hid Hbad
                  have HG := Lib.hid Hgood
                  have HF := Lib.hid hFv
                  clear hnx hFv Hbad Hgood hg9
                  by_cases d1 : v9 = (m : Int)
                  · have d1b : (v9 == (m : Int)) = true := by simpa using d1
                    have e1 := HB.out (by rw [HF.out]; simp [d1])
                    clear d1
                    go_wp2_with fail
                    go_ret
                    exact ⟨ret_bool e1.out.symm, bwq⟩
                  · have d1b : (v9 == (m : Int)) = false := by simpa using d1
                    have hk1 := contP_any A2 n2 c2 P.dif v9 (m : Int) wr ((e2.below bwq).more bwq.size) L2.out (by omega)
                    obtain ⟨d2, hd2⟩ : ∃ d, Hid (d = P.dif.contains (v9, (m : Int))) := ⟨_, Lib.hid rfl⟩
                    obtain ⟨d3, hd3⟩ : ∃ d, Hid (d = P.dif.contains ((m : Int), v9)) := ⟨_, Lib.hid rfl⟩
                    have hk2 := fun W (hW : Below wr.heap.size wr W) => contP_any A2 n2 c2 P.dif (m : Int) v9 W (((e2.below bwq).below (hW.mono bwq.size)).more (Nat.le_trans bwq.size hW.size)) L2.out (by omega)
                    rw [← hd2.out] at hk1
                    rw [← hd3.out] at hk2
                    have HF2 : Hid (F v9 = (d2 || d3)) := Lib.hid (by rw [HF.out, hd2.out, hd3.out]; simp [d1])
                    clear d1
                    cases d2
                    · cases d3
                      · have e1 := HB.out HF2.out
                        go_wp2_with fail
                        refine hk1.mono ?_
                        rintro e wa ⟨rfl, bwa⟩
                        have r2 := ((bPq.on bwa).cell 1).trans rfl
                        go_wp2_with fail
                        refine (hk2 _ bwa).mono ?_
                        rintro e wb ⟨rfl, bwb⟩
                        go_wp2_with fail
                        go_ret
                        exact ⟨ret_bool e1.out.symm, (bwq.trans (bwa.mono bwq.size)).trans (bwb.mono (Nat.le_trans bwq.size bwa.size))⟩
                      · have e1 := HG.out HF2.out
                        go_wp2_with fail
                        refine hk1.mono ?_
                        rintro e wa ⟨rfl, bwa⟩
                        have r2 := ((bPq.on bwa).cell 1).trans rfl
                        go_wp2_with fail
                        refine (hk2 _ bwa).mono ?_
                        rintro e wb ⟨rfl, bwb⟩
                        go_wp2_with fail
                        go_roundw
                        case rel => exact ⟨j + 1, by omega, by go_num, e1, (hQ.trans (bwa.mono hQ.size)).trans (bwb.mono (Nat.le_trans hQ.size bwa.size))⟩
                        case measure => simp [intOf]; omega
                    · have e1 := HG.out (by rw [HF2.out]; rfl)
                      go_wp2_with fail
                      refine hk1.mono ?_
                      rintro e wa ⟨rfl, bwa⟩
                      go_wp2_with fail
                      go_roundw
                      case rel => exact ⟨j + 1, by omega, by go_num, e1, hQ.trans (bwa.mono hQ.size)⟩
                      case measure => simp [intOf]; omega
                · obtain rfl : j = k := by omega
                  have e1 := Yes.out (by rw [Hst.out]; have h1 := HQ.out; rwa [List.take_of_length_le (by rw [HL.out]; exact Nat.le_refl _)] at h1)
                  go_wp2_with fail
                  go_roundw
                  case rel => exact ⟨j + 1, _, by omega, by go_num, e1, bPq, bU2.on hQ, hU2.on hQ, bwq⟩
                  case measure => simp [intOf]; omega)
          · have e1 : Hid (hallB P l st = false) := Lib.hid (No.out (by unfold stepB; rw [decide_eq_false (p := atZ st _ = 0) (by rw [Hv2.out]; exact v0), Bool.and_false]; rfl))
            have v0b : (v != 0) = true := by simpa using v0
            clear v0
            go_wp2_with fail
            go_ret
            exact ⟨ret_bool e1.out.symm, bw⟩
    · obtain rfl : k = n := by omega
      have hlt' : ¬ (k : Int) < (k : Int) := by omega
      have htk : l.take k = l := List.take_of_length_le (by rw [Hn.out]; exact Nat.le_refl _)
      rw [htk] at hU
      have hlen := lenE_any _ _ wr hU
      have hall : (List.range l.length).all (fun i => stepB P st (l.take i) (atI l i)) = true := all_range_of (by rw [Hn.out]; exact HP.out)
      obtain ⟨N, hN⟩ : ∃ N, Hid (N = (memM (unionE P.elig l)).length) := ⟨_, Lib.hid rfl⟩
      have hr : hallB P l st = decide (N < k) := by
        unfold hallB
        rw [hall, Bool.true_and, hN.out, Hn.out]
      rw [← hN.out] at hlen
      have Hr := Lib.hid hr
      clear hall hr htk
      go_wp2_with fail
      refine hlen.mono ?_
      rintro e w2 ⟨rfl, bw2⟩
      go_wp2_with fail
      go_ret
      exact ⟨ret_bool (by rw [Hr.out]), bw.trans (bw2.mono bw.size)⟩
end Go.Proofs.YtcnofhlgiffkjaaGreatDoor
/- The reference's nodes in memory; form. -/
namespace Go.Proofs.YtcnofhlgiffkjaaGreatDoor
open Go.RowKit
set_option linter.unusedVariables false
set_option linter.unusedSimpArgs false

/-- A holds these nodes, as the reference has them. -/
def RNodesAt (w : World) (B : Nat) (A : Option Addr) (l : List Nd) : Prop :=
  ∀ (i : Nat) (x : Nd), l[i]? = some x → ∃ b o C S, A = some ⟨b, o, none⟩ ∧ b < B ∧ w.cell? ⟨b, o + i * 4, none⟩ = some (.int .i64 (x.kind : Int)) ∧ w.cell? ⟨b, o + i * 4 + 1, none⟩ = some (.int .i64 x.step) ∧
    w.cell? ⟨b, o + i * 4 + 2, none⟩ = some (Sl.v C) ∧ w.cell? ⟨b, o + i * 4 + 3, none⟩ = some (Sl.v S) ∧ NdL w B C S x
theorem RNodesAt.below {w w' : World} {B : Nat} {A : Option Addr} {l : List Nd} (h : RNodesAt w B A l) (hb : Below B w w') : RNodesAt w' B A l := fun i x hi => by
  obtain ⟨b, o, C, S, e, h1, h2, h3, h4, h5, h6⟩ := h i x hi
  exact ⟨b, o, C, S, e, h1, (hb.cell (p := ⟨b, o + i * 4, none⟩) h1).trans h2, (hb.cell (p := ⟨b, o + i * 4 + 1, none⟩) h1).trans h3, (hb.cell (p := ⟨b, o + i * 4 + 2, none⟩) h1).trans h4, (hb.cell (p := ⟨b, o + i * 4 + 3, none⟩) h1).trans h5, h6.below hb⟩
theorem RNodesAt.more {w : World} {B B' : Nat} {A : Option Addr} {l : List Nd} (h : RNodesAt w B A l) (hb : B ≤ B') : RNodesAt w B' A l := fun i x hi => by
  obtain ⟨b, o, C, S, e, h1, h2, h3, h4, h5, h6⟩ := h i x hi
  exact ⟨b, o, C, S, e, by omega, h2, h3, h4, h5, h6.more hb⟩
theorem RNodesAt.on {w w' : World} {A : Option Addr} {l : List Nd} (h : RNodesAt w w.heap.size A l) (hb : Below w.heap.size w w') : RNodesAt w' w'.heap.size A l := (h.below hb).more hb.size

end Go.Proofs.YtcnofhlgiffkjaaGreatDoor
