/- Critical. (gencrit.py) -/
import Derived.Test.YtfnhaoindehjdaaDoorCrD
import Derived.LoopIn
import Derived.OwnWalkIn
import Derived.Deep.CutRange
import Derived.Deep.RegionWith
import Derived.Deep.QuietTactic
import Derived.BigQuiet
import Derived.Laws.ResultCell
import Derived.RangeFuncWrites
import Derived.RangeFuncLeaves
import Derived.Sort.CutIn
namespace Go.Proofs.YtfnhaoindehjdaaDoor
open Go.RowKit
set_option linter.unusedVariables false
set_option linter.unusedSimpArgs false
attribute [local go_sem] Oper.semAt_some

theorem crit_split : critBody = .seq (headC critBody) (.seq (critPart 1) (.seq (critPart 2) (.seq (critPart 3) (.seq (critPart 4) (.seq (critPart 5) (tailC 6 critBody)))))) := by kernel_rfl
theorem crit5 : critPart 5 = .seq (headC (critPart 5)) (.block 2 critRf) := by kernel_rfl
set_option maxHeartbeats 8000000 in
set_option maxRecDepth 100000 in
/-- Critical. -/
theorem critical_any (p : PrV) (P : Pr) (w : World) (h : PrAt w w.heap.size p P) (hT : Tab w) (hs : chkP P = 0 → SmP P) :
    Calls Tryd.prog 23 #[p.v] w fun e w' => ∃ A n c, e = .returned (.slice A n c) ∧ OwnI w' w.heap.size (.slice A n c) n (critL P) ∧ Below w.heap.size w w' := by
  have hg0 : 0 < w.heap.size := World.block_lt_of_cell? w _ (hT 0 (by omega))
  have hsv := fun (W : World) (hW : Below w.heap.size w W) => solvable_any p P W ((h.below hW).more hW.size) (hT.below hW hg0) hs
  obtain ⟨⟨A1, n1, c1⟩, ⟨A2, n2, c2⟩, ⟨A3, n3, c3⟩, ⟨A4, n4, c4⟩, ⟨A5, n5, c5⟩⟩ := p
  unfold PrV.v Sl.v at hsv ⊢
  simp only [] at hsv ⊢
  have hl1 : P.elig.length = n1 := h.l1
  have k0 := Blk.new w 32 #[.slice A1 n1 c1, .slice A2 n2 c2, .slice A3 n3 c3, .slice A4 n4 c4, .slice A5 n5 c5]
  have b0 := bAl (Below.refl w.heap.size w) (.cells #[.slice A1 n1 c1, .slice A2 n2 c2, .slice A3 n3 c3, .slice A4 n4 c4, .slice A5 n5 c5] 32)
  have H := Lib.hid h
  refine (callsIn_wide (n := 5)).1 ?_
  refine callsIn_of_wp_marks (c := critBody) Tryd.func23 rfl trivial ?_ rfl
  simp only [Tryd.ntmps23, List.size_toArray, List.length_cons, List.length_nil, Nat.reduceAdd, Nat.reduceSub, Array.replicate_succ, Array.replicate_zero, List.push_toArray, List.append_toArray, List.nil_append, List.cons_append]
  rw [crit_split]
  cases hvv : solvB P
  · rw [hvv] at hsv
    have e : critL P = [] := by unfold critL; rw [hvv]; rfl
    rw [e]
    clear hvv e hs h
    gi_wp2
    conv => arg 4; whnf
    gi_wp2
    generalize (w.alloc (.cells #[.slice A1 n1 c1, .slice A2 n2 c2, .slice A3 n3 c3, .slice A4 n4 c4, .slice A5 n5 c5] 32)) = W1 at k0 b0 ⊢
    have x0 : W1.cell? ⟨w.heap.size, 0, none⟩ = some (.slice A1 n1 c1) := (k0.cell 0).trans rfl
    have x1 : W1.cell? ⟨w.heap.size, 1, none⟩ = some (.slice A2 n2 c2) := (k0.cell 1).trans rfl
    have x2 : W1.cell? ⟨w.heap.size, 2, none⟩ = some (.slice A3 n3 c3) := (k0.cell 2).trans rfl
    have x3 : W1.cell? ⟨w.heap.size, 3, none⟩ = some (.slice A4 n4 c4) := (k0.cell 3).trans rfl
    have x4 : W1.cell? ⟨w.heap.size, 4, none⟩ = some (.slice A5 n5 c5) := (k0.cell 4).trans rfl

    have hk1 := hsv W1 b0
    conv => arg 4; whnf
    gi_wp2
    refine ⟨trivial, (callsIn_wide.2 hk1).mono ?_⟩
    rintro e W2 ⟨rfl, bb⟩
    have b1 := b0.trans (bb.mono b0.size)
    clear hk1 hsv x0 x1 x2 x3 x4 bb
    gi_wp2
    refine retMt rfl rfl [] rfl (OpenM.nil _ 0) ⟨none, 0, 0, rfl, OwnI.nil _ _, b1⟩
  · rw [hvv] at hsv
    have hc : chkP P = 0 := by
      unfold solvB at hvv
      simp at hvv
      exact hvv.1
    have sm := hs hc
    have ok := chkP_ok hc
    have hn5 : n1 ≤ 5 := by rw [← hl1]; exact sm.1
    have hM : ∀ x, x ∈ memM (unionA P) → 1 ≤ x ∧ x ≤ 256 := fun x hx => union_user ok hx
    have eL : critL P = ((memM (unionA P)).map fun x : Nat => (x : Int)).filter (ckB P) := by unfold critL; rw [hvv]; rfl
    obtain ⟨L, hL⟩ : ∃ L, Hid (L = critL P) := ⟨_, Lib.hid rfl⟩
    rw [← hL.out]
    have EL := Lib.hid eL
    have HM := Lib.hid hM
    have HC := Lib.hid hc
    clear hvv hs h hl1 eL hM hc ok
    gi_wp2
    conv => arg 4; whnf
    gi_wp2
    generalize (w.alloc (.cells #[.slice A1 n1 c1, .slice A2 n2 c2, .slice A3 n3 c3, .slice A4 n4 c4, .slice A5 n5 c5] 32)) = W1 at k0 b0 ⊢
    have x0 : W1.cell? ⟨w.heap.size, 0, none⟩ = some (.slice A1 n1 c1) := (k0.cell 0).trans rfl
    have x1 : W1.cell? ⟨w.heap.size, 1, none⟩ = some (.slice A2 n2 c2) := (k0.cell 1).trans rfl
    have x2 : W1.cell? ⟨w.heap.size, 2, none⟩ = some (.slice A3 n3 c3) := (k0.cell 2).trans rfl
    have x3 : W1.cell? ⟨w.heap.size, 3, none⟩ = some (.slice A4 n4 c4) := (k0.cell 3).trans rfl
    have x4 : W1.cell? ⟨w.heap.size, 4, none⟩ = some (.slice A5 n5 c5) := (k0.cell 4).trans rfl

    have hk1 := hsv W1 b0
    conv => arg 4; whnf
    gi_wp2
    refine ⟨trivial, (callsIn_wide.2 hk1).mono ?_⟩
    rintro e W2 ⟨rfl, bb⟩
    have b1 := b0.trans (bb.mono b0.size)
    have k1 := k0.on bb
    clear hk1 hsv x0 x1 x2 x3 x4 bb k0 b0
    gi_wp2
    conv => arg 4; whnf
    gi_wp2
    have bA := bAl (Below.refl W2.heap.size W2) (.cells #[.slice none 0 0] 63)
    have k3 := k1.on bA
    have b3 := b1.trans (bA.mono b1.size)
    have kA := Blk.new W2 63 #[.slice none 0 0]
    have hgA : w.heap.size < W2.heap.size := k1.lt
    clear k1 bA
    generalize (W2.alloc (.cells #[.slice none 0 0] 63)) = W3 at k3 b3 kA ⊢
    refine crit_or H.out hn5 W3 b3 k3 hgA kA _ _ _ _ _ _ _ _ _ _ _ _ _ _ _ _ _ _ _ _ _ _ _ _ _ _ _ _ _ _ _ _ _ _ _ _ _ _ _ _ _ _ _ _ _ _ _ _ _ _ _ _ ?_
    intro W4 Av nv cv u2 u4 u5 u6 u7 u8 u9 u10 u11 u12 u13 u14 u15 u16 u17 u18 u19 u20 u21 u22 u23 u24 u25 u26 u27 u28 u29 u30 u31 u32 u33 u34 u35 u36 u37 u38 u39 u40 u41 u42 u43 u44 u45 u46 u47 u48 u49 u50 u51 u52 u53 kA4 sA4 b4
    have k4 := k3.below b4 hgA
    have b14 := b3.trans (b4.mono (Nat.le_of_lt hgA))
    clear b3 k3 kA b4
    simp only [Exit.then]
    gi_wp2
    conv => arg 4; whnf
    gi_wp2
    obtain ⟨Av', nv', cv', eX, hnc, hnv, hlv, hss, _⟩ := id sA4
    injection eX with eX
    obtain ⟨rfl, rfl, rfl⟩ : Av' = Av ∧ nv' = nv ∧ cv' = cv := by simp at eX; exact ⟨eX.1.symm, eX.2.1.symm, eX.2.2.symm⟩
    have bA := bAl (Below.refl W4.heap.size W4) (.cells #[.slice none 0 0] 30)
    have k5 := k4.on bA
    have b5 := b14.trans (bA.mono b14.size)
    have kA5 := kA4.on bA
    have kO5 := Blk.new W4 30 #[.slice none 0 0]
    have s5 := hss.below bA
    have zO : (W4.alloc (.cells #[.slice none 0 0] 30)).heap.size = W4.heap.size + 1 := by simp
    have hgO : w.heap.size ≤ W4.heap.size := b14.size
    clear sA4 k4 b14 kA4 hss eX
    generalize (W4.alloc (.cells #[.slice none 0 0] 30)) = W5 at bA k5 b5 kA5 kO5 s5 zO ⊢
    have yA : W5.cell? ⟨W2.heap.size, 0, none⟩ = some (.slice Av' nv' cv') := (kA5.cell 0).trans rfl
    rw [crit5]
    gi_wp2
    conv => arg 4; whnf
    gi_wp2
    refine ⟨trivial, (allF_any _ _ _ _ trivial rfl).mono ?_⟩
    rintro e u0 ⟨rfl, rfl⟩
    have bB := bAl (Below.refl W5.heap.size W5) (.cells #[.slice Av' nv' cv'] 63)
    have k6 := k5.on bB
    have b6 := b5.trans (bB.mono b5.size)
    have kO6 := kO5.on bB
    have ka := Blk.new W5 63 #[.slice Av' nv' cv']
    have s6 := s5.below (bB.mono (by omega))
    clear k5 b5 kA5 kO5 s5 yA bA bB
    gi_wp2
    generalize (W5.alloc (.cells #[.slice Av' nv' cv'] 63)) = W6 at k6 b6 kO6 ka s6 ⊢
    have hcs : Cs w W6 P A1 A2 A3 A4 A5 n1 c1 n2 c2 n3 c3 n4 c4 n5 c5 W4.heap.size := ⟨hT, H.out, HC.out, sm, b6, k6, hgO, kO6⟩
    rw [zO] at ka
    refine crit_rf hcs (W4.heap.size + 1) (unionA P) HM.out Av' nv' cv' hnc hnv hlv s6 ((ka.cell 0).trans rfl) ka.lt _ _ _ _ _ _ _ _ _ _ _ _ _ _ _ _ _ _ _ _ _ _ _ _ _ _ _ _ _ _ _ _ _ _ _ _ _ _ _ _ _ _ _ _ _ _ _ _ _ _ _ ?_
    intro D W7 hD hC7 hDd
    obtain ⟨⟨A9, n9, c9, bO9, o9, _⟩, mv⟩ := hC7
    rw [← EL.out, ← hL.out] at o9
    have b7 : Below w.heap.size w W7 := b6.trans ((mv.below (Nat.le_of_lt kO6.lt) (Nat.le_refl _)).mono hgO)
    have o7 : OpenM W7 w.heap.size [D] := ⟨by simp, fun E hE => by obtain rfl : E = D := (by simpa using hE); exact ⟨Nat.le_trans b6.size hD, hDd⟩⟩
    have yO : W7.cell? ⟨W4.heap.size, 0, none⟩ = some (.slice A9 n9 c9) := (bO9.cell 0).trans rfl
    have O9 : OwnI (shut W7 [D]) w.heap.size (.slice A9 n9 c9) n9 L := by
      refine OwnI.same (OwnI.more o9 b6.size) fun j hj => shut_heap [D] W7 j fun hm => ?_
      obtain rfl : j = D := by simpa using hm
      obtain ⟨cs, hb, _⟩ := own_type o9 hj
      have h9 := hDd
      rw [show W7.heap[j]? = some (.cells cs 3 (0, 0)) from hb] at h9
      cases h9
    clear o9 bO9 mv hcs
    simp only [Exit.then]
    gi_wp2
    conv => arg 4; whnf
    gi_wp2
    refine retMt rfl rfl [D] rfl o7 ⟨_, _, _, rfl, O9, shut_below [D] w _ b7 o7⟩
end Go.Proofs.YtfnhaoindehjdaaDoor
