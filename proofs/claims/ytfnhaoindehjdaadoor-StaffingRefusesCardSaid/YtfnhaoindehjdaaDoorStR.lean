/- Plain: what Solve gives; solvable. -/
import Derived.Test.YtfnhaoindehjdaaDoorStS
import Derived.Test.YtfnhaoindehjdaaDoorStN
import Derived.Test.YtfnhaoindehjdaaDoorStC
namespace Go.Proofs.YtfnhaoindehjdaaDoor
open Go.RowKit
set_option linter.unusedVariables false
set_option linter.unusedSimpArgs false

/-- Few steps, and few users for each. -/
def SmP (P : Pr) : Prop := P.elig.length ≤ 5 ∧ ∀ z : Nat, (memZ (eligA P z)).length ≤ 6
theorem no_valid {P : Pr} (hc : chkP P = 0) (h : solsL P = []) (l : List Int) : ValidB P l = false := by
  cases hv : ValidB P l with
  | false => rfl
  | true =>
    have := (solsL_mem hc l).2 hv
    rw [h] at this
    cases this
/-- Solve without a limit. -/
theorem solveR_zero {P : Pr} (hc : chkP P = 0) : (∃ l ls, solsL P = l :: ls ∧ solveR P 0 = (some l, [], 0)) ∨ (solsL P = [] ∧ ∃ nds sts, solveR P 0 = (none, nds, 0) ∧ RefOk P nds sts ∧ chkR P nds = (1, 0)) := by
  have hrun := visitF_run (each := eachS) (P := P) P.fix.length P.fix 0 ⟨[nd0], 0, none⟩
  rw [show runS eachS (⟨[nd0], 0, none⟩ : VS (Option (List Int))).s (solsF P P.fix.length P.fix) = runS eachS none (solsL P) from rfl, runS_S] at hrun
  have h1 := congrArg Prod.fst hrun
  have h2 := congrArg Prod.snd hrun
  simp only [] at h1 h2
  have e : solveR P 0 = match (visitF P 0 eachS P.fix.length P.fix 0 ⟨[nd0], 0, none⟩).2.s with
    | some l => (some l, [], 0)
    | none => if fullB 0 (visitF P 0 eachS P.fix.length P.fix 0 ⟨[nd0], 0, none⟩).2.looked = true then (none, [], 3) else (none, (visitF P 0 eachS P.fix.length P.fix 0 ⟨[nd0], 0, none⟩).2.nds, 0) := by
    unfold solveR; rw [if_neg (by simpa using hc), if_neg (by omega)]; rfl
  cases hs : solsL P with
  | cons l ls =>
    rw [hs] at h2
    left
    refine ⟨l, ls, rfl, ?_⟩
    rw [e, h2]
    rfl
  | nil =>
    rw [hs] at h1 h2
    right
    refine ⟨rfl, ?_⟩
    obtain ⟨sts, hR⟩ := visitF_ref (limit := 0) hc (openN_le P.fix) none h1
    refine ⟨_, sts, ?_, hR, (chkR_ref hR hc).1 (no_valid hc hs)⟩
    rw [e, h2]
    rfl
/-- A limit is exceeded, or changes nothing. -/
theorem solveR_lim {P : Pr} (hc : chkP P = 0) (lim : Nat) : (0 < lim ∧ solveR P lim = (none, [], 3)) ∨ (solveR P lim = solveR P 0 ∧ fullB lim (visitF P lim eachS P.fix.length P.fix 0 ⟨[nd0], 0, none⟩).2.looked = false) := by
  have e : ∀ k : Nat, solveR P k = match (visitF P k eachS P.fix.length P.fix 0 ⟨[nd0], 0, none⟩).2.s with
    | some l => (some l, [], 0)
    | none => if fullB k (visitF P k eachS P.fix.length P.fix 0 ⟨[nd0], 0, none⟩).2.looked = true then (none, [], 3) else (none, (visitF P k eachS P.fix.length P.fix 0 ⟨[nd0], 0, none⟩).2.nds, 0) := fun k => by
    unfold solveR; rw [if_neg (by simpa using hc), if_neg (by omega)]; rfl
  rcases visit_lim (P := P) lim P.fix.length P.fix 0 ⟨[nd0], 0, none⟩ rfl (by simp [fullB]) with ⟨h1, h2, h3⟩ | ⟨h1, h2, h3⟩
  · left
    refine ⟨?_, ?_⟩
    · unfold fullB at h2
      simp only [Bool.and_eq_true, decide_eq_true_eq] at h2
      exact h2.1
    · rw [e, h3, h2]; rfl
  · right
    refine ⟨?_, h2⟩
    have e0 := e 0
    rw [e, h2, h1]
    rw [show ((0 : Nat) : Int) = 0 from rfl] at e0
    rw [e0]
    simp [fullB]
/-- Two thousand suffice. -/
theorem solveR_2000 {P : Pr} (hc : chkP P = 0) (h5 : P.elig.length ≤ 5) (h4 : ∀ z : Nat, (memZ (eligA P z)).length ≤ 4) : solveR P 2000 = solveR P 0 := by
  have ok := chkP_ok hc
  have hl := (visitF_le (limit := 2000) (each := eachS) ok h4 P.fix.length P.fix 0 ⟨[nd0], 0, none⟩ (openN_le _)).2
  have hb : bnd 4 P.fix.length ≤ 1364 := (by decide : ∀ n, n ≤ 5 → bnd 4 n ≤ 1364) _ (by rw [ok.fixl]; exact h5)
  rcases solveR_lim hc 2000 with ⟨_, h⟩ | ⟨h, _⟩
  · exfalso
    rcases visit_lim (P := P) 2000 P.fix.length P.fix 0 ⟨[nd0], 0, none⟩ rfl (by simp [fullB]) with ⟨h1, h2, h3⟩ | ⟨h1, h2, h3⟩
    · unfold fullB at h2
      simp only [Bool.and_eq_true, decide_eq_true_eq] at h2
      have := h2.2
      simp only [] at hl
      omega
    · have e : solveR P 2000 = match (visitF P 2000 eachS P.fix.length P.fix 0 ⟨[nd0], 0, none⟩).2.s with
        | some l => (some l, [], 0)
        | none => if fullB 2000 (visitF P 2000 eachS P.fix.length P.fix 0 ⟨[nd0], 0, none⟩).2.looked = true then (none, [], 3) else (none, (visitF P 2000 eachS P.fix.length P.fix 0 ⟨[nd0], 0, none⟩).2.nds, 0) := by
        unfold solveR; rw [if_neg (by simpa using hc), if_neg (by omega)]; rfl
      rw [show ((2000 : Nat) : Int) = 2000 from rfl, e, h2] at h
      revert h
      cases (visitF P 2000 eachS P.fix.length P.fix 0 ⟨[nd0], 0, none⟩).2.s with
      | none => intro h; have := congrArg (fun x => x.2.2) h; simp at this
      | some l => intro h; have := congrArg (fun x => x.2.2) h; simp at this
  · exact h
/-- What solvable reads. -/
theorem solveR_solv (P : Pr) : ((solveR P 0).1.isSome && decide ((solveR P 0).2.2 = 0)) = solvB P := by
  unfold solvB
  by_cases hc : chkP P = 0
  · rcases solveR_zero hc with ⟨l, ls, h1, h2⟩ | ⟨h1, nds, sts, h2, _⟩
    · rw [h1, h2]; simp [hc]
    · rw [h1, h2]; simp
  · have e : solveR P 0 = (none, [], chkP P) := by unfold solveR; rw [if_pos hc]
    rw [e]
    simp [hc]
set_option maxHeartbeats 4000000 in
set_option maxRecDepth 100000 in
/-- solvable. -/
theorem solvable_any (p : PrV) (P : Pr) (w : World) (h : PrAt w w.heap.size p P) (hT : Tab w) (hs : chkP P = 0 → SmP P) :
    Calls Tryd.prog 48 #[p.v] w fun e w' => e = .returned (.bool (solvB P)) ∧ Below w.heap.size w w' := by
  have hg0 : 0 < w.heap.size := World.block_lt_of_cell? w _ (hT 0 (by omega))
  have hsv := fun (W : World) (hW : Below w.heap.size w W) => solve_any p P 0 W ((h.below hW).more hW.size) (hT.below hW hg0) hs
  have hR := Lib.hid (solveR_solv P)
  obtain ⟨⟨A1, n1, c1⟩, ⟨A2, n2, c2⟩, ⟨A3, n3, c3⟩, ⟨A4, n4, c4⟩, ⟨A5, n5, c5⟩⟩ := p
  unfold PrV.v Sl.v at hsv ⊢
  simp only [] at hsv ⊢
  have b0 := bAl (Below.refl w.heap.size w) (.cells #[.slice A1 n1 c1, .slice A2 n2 c2, .slice A3 n3 c3, .slice A4 n4 c4, .slice A5 n5 c5] 32)
  obtain ⟨r, hr⟩ : ∃ r, Hid (r = solveR P 0) := ⟨_, Lib.hid rfl⟩
  obtain ⟨v, hv⟩ : ∃ v, Hid (v = solvB P) := ⟨_, Lib.hid rfl⟩
  rw [← hv.out]
  rw [← hr.out] at hsv
  have hfin : Hid ((r.1.isSome && decide (r.2.2 = 0)) = v) := Lib.hid (by rw [hr.out, hv.out]; exact hR.out)
  clear h hT hs
  obtain ⟨b, hb⟩ : ∃ b, Hid (b = r.1.isSome) := ⟨_, Lib.hid rfl⟩
  obtain ⟨z, hz⟩ : ∃ z, Hid (z = r.2.2) := ⟨_, Lib.hid rfl⟩
  have hf2 : Hid ((b && decide (z = 0)) = v) := Lib.hid (by rw [hb.out, hz.out]; exact hfin.out)
  by_cases hz0 : z = 0
  all_goals (
    go_enter Tryd.func48, Tryd.ntmps48
    go_wp2_with fail
    generalize (w.alloc (.cells #[.slice A1 n1 c1, .slice A2 n2 c2, .slice A3 n3 c3, .slice A4 n4 c4, .slice A5 n5 c5] 32)) = W1 at b0 ⊢
    refine (hsv W1 b0).mono ?_
    rintro e W2 ⟨A, n, c, An, nn, cn, rfl, -, -, bb⟩
    have b1 := b0.trans (bb.mono b0.size)
    rw [← hb.out, ← hz.out])
  · subst hz0
    have e1 : b = v := by have := hf2.out; simpa using this
    clear hsv bb
    go_wp2_with fail
    go_ret
    exact ⟨by first | rfl | exact ret_bool e1, bAl b1 _⟩
  · have e1 : v = false := by have := hf2.out; rw [decide_eq_false hz0, Bool.and_false] at this; exact this.symm
    have hzb : (z == 0) = false := by simpa using hz0
    clear hsv bb
    go_wp2_with fail
    go_ret
    exact ⟨ret_bool e1.symm, bAl b1 _⟩
end Go.Proofs.YtfnhaoindehjdaaDoor
