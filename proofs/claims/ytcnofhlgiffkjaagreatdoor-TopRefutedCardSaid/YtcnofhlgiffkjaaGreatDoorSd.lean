/- A pack of texts: MkQ, MkR, FixP, ShrP. -/
import Derived.Test.YtcnofhlgiffkjaaGreatDoorSc
import Derived.Test.YtcnofhlgiffkjaaGreatDoorSa
import Derived.Test.YtcnofhlgiffkjaaGreatDoorPm
/- Plain: the problems that layer 42's laws are about. -/
namespace Go.Proofs.YtcnofhlgiffkjaaGreatDoor
open Go.RowKit
set_option linter.unusedVariables false

theorem mkP_fix6 (R : Rw) : ∀ u ∈ (mkP R).fix, u ≤ 6 := fun u hu => by
  obtain ⟨k, _, rfl⟩ := List.mem_map.1 (show u ∈ (List.range (rn R)).map (mkF R) from hu)
  unfold mkF
  split <;> omega
theorem mkP_four (R : Rw) (z : Nat) : (memZ (eligA (mkP R) (z : Int))).length ≤ 4 := by
  have hlt : eligA (mkP R) (z : Int) < 2 ^ 5 := by
    unfold eligA
    rw [Int.toNat_natCast]
    cases hz : (mkP R).elig[z]? with
    | none => simp
    | some M => simpa using mkP_32 R M (List.mem_of_getElem? hz)
  have hb : (eligA (mkP R) (z : Int)).testBit 0 = false := by
    unfold eligA
    rw [Int.toNat_natCast]
    cases hz : (mkP R).elig[z]? with
    | none => simp
    | some M => simpa using ((chkP_ok (chkP_mkP R)).eli M (List.mem_of_getElem? hz)).1
  unfold memZ
  rw [List.length_map, memM_memT hlt]
  unfold memT
  rw [show List.range 5 = [0, 1, 2, 3, 4] from rfl, List.filter_cons, hb]
  simp only [Bool.false_eq_true, if_false]
  exact Nat.le_trans (List.length_filter_le _ _) (by simp)
theorem mkP_sm (R : Rw) : SmP (mkP R) := ⟨(mkP_few R).e1, fun z => Nat.le_trans (mkP_four R z) (by omega)⟩
theorem mkP_sols (R : Rw) : solsL (mkP R) = allL (mkP R) := solsL_all (chkP_mkP R) (few128_of (mkP_32 R)) (mkP_fix6 R)
end Go.Proofs.YtcnofhlgiffkjaaGreatDoor
/- Plain: the refutation that Solve finds is small, and has a node. -/
namespace Go.Proofs.YtcnofhlgiffkjaaGreatDoor
open Go.RowKit
set_option linter.unusedVariables false

theorem solveR_len {P : Pr} (hc : chkP P = 0) (h5 : P.elig.length ≤ 5) (h4 : ∀ z : Nat, (memZ (eligA P z)).length ≤ 6) (lim : Nat) : (solveR P lim).2.1.length ≤ 1000000 := by
  have ok := chkP_ok hc
  have hl := (visitF_le (limit := lim) (each := eachS) ok h4 P.fix.length P.fix 0 ⟨[nd0], 0, none⟩ (openN_le _)).1
  have hb : bnd 6 P.fix.length ≤ 20000 := (by decide : ∀ n, n ≤ 5 → bnd 6 n ≤ 20000) _ (by rw [ok.fixl]; exact h5)
  simp only [List.length_cons, List.length_nil] at hl
  unfold solveR
  rw [if_neg (by simpa using hc), if_neg (by omega)]
  simp only [Int.toNat_natCast]
  split
  · simp
  · split
    · simp
    · exact Nat.le_trans hl (by omega)
theorem nodes_pos {P : Pr} {l : List Nd} (hc : chkP P = 0) (h : chkR P l = (1, 0)) : 0 < l.length := by
  unfold chkR at h
  rw [if_neg (by simpa using hc)] at h
  split at h
  · cases h
  · rename_i ht
    exact (tree_ok (by simpa using ht)).pos
end Go.Proofs.YtcnofhlgiffkjaaGreatDoor
/- Plain: what StaffingFixes compares: a user can be fixed for a step exactly if the user is possible there; critical users. -/
namespace Go.Proofs.YtcnofhlgiffkjaaGreatDoor
open Go.RowKit
set_option linter.unusedVariables false
set_option linter.unusedSimpArgs false

theorem bool_of_iff {a b : Bool} (h : a = true ↔ b = true) : a = b := by cases a <;> cases b <;> simp_all
theorem chk_setFix {P : Pr} (hc : chkP P = 0) {k : Nat} {u : Int} (hu : 0 ≤ u ∧ u ≤ 256) : chkP (setFix P k u) = 0 := chkP_of (ok_setFix (chkP_ok hc) hu)
theorem sm_setFix {P : Pr} (h : SmP P) (k : Nat) (u : Int) : SmP (setFix P k u) := h
theorem fix_poss {P : Pr} (hc : chkP P = 0) {k : Nat} {u : Int} (hk : k < P.elig.length) (hu : 1 ≤ u ∧ u ≤ 256) (h0 : atI P.fix k = 0) : (possK P k).contains u = solvB (setFix P k u) := by
  refine bool_of_iff ?_
  rw [List.contains_iff_mem, possK_spec hc hk, solvB_iff (chk_setFix hc ⟨by omega, hu.2⟩)]
  exact ⟨fun ⟨l, h1, h2⟩ => ⟨l, (valid_setFix hc hk hu (.inl h0) l).2 ⟨h1, h2⟩⟩, fun ⟨l, h⟩ => ⟨l, (valid_setFix hc hk hu (.inl h0) l).1 h⟩⟩
theorem solveR_some {P : Pr} (hc : chkP P = 0) : (solveR P 0).1.isSome = solvB P := by
  rw [← solveR_solv P]
  rcases solveR_zero hc with ⟨l, ls, _, h⟩ | ⟨_, nds, sts, h, _⟩ <;> rw [h] <;> rfl
/-- What Solve finds where a user was fixed. -/
theorem fix_at {P : Pr} (hc : chkP P = 0) {k : Nat} {u : Int} (hk : k < P.elig.length) (hu : 1 ≤ u ∧ u ≤ 256) (h0 : atI P.fix k = 0) {l : List Int} (h : (solveR (setFix P k u) 0).1 = some l) : l.length = P.elig.length ∧ l[k]? = some u := by
  have hc' := chk_setFix (P := P) (k := k) (u := u) hc ⟨by omega, hu.2⟩
  rcases solveR_zero hc' with ⟨l', ls, h1, h2⟩ | ⟨_, nds, sts, h2, _⟩
  · rw [h2] at h
    injection h with h
    subst h
    have hv := (solsL_mem hc' l').1 (by rw [h1]; simp)
    obtain ⟨h3, h4⟩ := (valid_setFix hc hk hu (.inl h0) l').1 hv
    have hl := valid_len h3
    refine ⟨hl, ?_⟩
    unfold atI at h4
    have hk' : k < l'.length := by rw [hl]; exact hk
    rw [List.getElem?_eq_getElem hk'] at h4 ⊢
    simpa using h4
  · rw [h2] at h; cases h
theorem chk_without {P : Pr} (hc : chkP P = 0) (u : Nat) : chkP (without P u) = 0 := chkP_of (ok_without (chkP_ok hc) u)
theorem fix_crit {P : Pr} (hc : chkP P = 0) {u : Nat} (hu : 1 ≤ u) : (critL P).contains (u : Int) = (solvB P && !solvB (without P u)) := by
  refine bool_of_iff ?_
  rw [List.contains_iff_mem, critL_spec hc, Bool.and_eq_true, solvB_iff hc]
  have hw : (!solvB (without P u)) = true ↔ ∀ l, ValidB P l = true → (u : Int) ∈ l := by
    rw [Bool.not_eq_true', ← Bool.not_eq_true, solvB_iff (chk_without hc u)]
    constructor
    · intro h l hl
      by_cases hm : (u : Int) ∈ l
      · exact hm
      · exact absurd ⟨l, (valid_without hc u hu l).2 ⟨hl, hm⟩⟩ h
    · rintro h ⟨l, hl⟩
      obtain ⟨h1, h2⟩ := (valid_without hc u hu l).1 hl
      exact h2 (h l h1)
  rw [hw]
  constructor
  · exact fun ⟨_, h1, h2⟩ => ⟨h1, h2⟩
  · exact fun ⟨h1, h2⟩ => ⟨by omega, h1, h2⟩
end Go.Proofs.YtcnofhlgiffkjaaGreatDoor
/- Plain: what StaffingShrinks compares: with further conditions and fewer eligible users there are fewer staffings. -/
namespace Go.Proofs.YtcnofhlgiffkjaaGreatDoor
open Go.RowKit
set_option linter.unusedVariables false
set_option linter.unusedSimpArgs false

/-- The harder problem: Q's conditions too (b), and step k without user u. -/
def shrP (P Q : Pr) (b : Bool) (k u : Nat) : Pr :=
  ⟨P.elig.set k (clrU (P.elig[k]?.getD 0) u), P.dif ++ (if b = true then Q.dif else []), P.sam ++ (if b = true then Q.sam else []), P.mst ++ (if b = true then Q.mst else []), P.fix⟩
theorem shr_elig {P Q : Pr} {b : Bool} {k u : Nat} (hk : k < P.elig.length) (M : Nat) (h : M ∈ (shrP P Q b k u).elig) : ∃ N, N ∈ P.elig ∧ (M = N ∨ M = clrU N u) := by
  rcases List.mem_or_eq_of_mem_set (show M ∈ P.elig.set k _ from h) with h | rfl
  · exact ⟨M, h, .inl rfl⟩
  · have e : P.elig[k]? = some P.elig[k] := List.getElem?_eq_getElem hk
    exact ⟨P.elig[k], List.mem_of_getElem? e, .inr (by rw [e]; rfl)⟩
theorem shr_ok {P Q : Pr} (oP : PrOk P) (oQ : PrOk Q) (fP : FewP P) (fQ : FewP Q) {b : Bool} (hb : b = true → Q.elig.length = P.elig.length) {k u : Nat} (hk : k < P.elig.length) : PrOk (shrP P Q b k u) where
  n0 := by simpa [shrP] using oP.n0
  n10 := by simpa [shrP] using oP.n10
  d20 := by have := fP.d1; have := fQ.d1; simp only [shrP, List.length_append]; split <;> simp <;> omega
  s20 := by have := fP.s1; have := fQ.s1; simp only [shrP, List.length_append]; split <;> simp <;> omega
  m20 := by have := fP.m1; have := fQ.m1; simp only [shrP, List.length_append]; split <;> simp <;> omega
  fixl := by simpa [shrP] using oP.fixl
  eli := fun M hM => by
    obtain ⟨N, h1, h2⟩ := shr_elig hk M hM
    obtain ⟨h3, h4⟩ := oP.eli N h1
    rcases h2 with rfl | rfl
    · exact ⟨h3, h4⟩
    · have h5 := clrU_lt (u := u) h4
      exact ⟨by rw [clrU_bit, h3]; rfl, h5⟩
  fixu := oP.fixu
  difu := fun x hx => by
    have hl : (shrP P Q b k u).elig.length = P.elig.length := by simp [shrP]
    rw [hl]
    rcases List.mem_append.1 (show x ∈ P.dif ++ _ from hx) with h | h
    · exact oP.difu x h
    · split at h
      · rename_i hb'; rw [← hb hb']; exact oQ.difu x h
      · cases h
  samu := fun x hx => by
    have hl : (shrP P Q b k u).elig.length = P.elig.length := by simp [shrP]
    rw [hl]
    rcases List.mem_append.1 (show x ∈ P.sam ++ _ from hx) with h | h
    · exact oP.samu x h
    · split at h
      · rename_i hb'; rw [← hb hb']; exact oQ.samu x h
      · cases h
  mstu := fun x hx => by
    have hl : (shrP P Q b k u).elig.length = P.elig.length := by simp [shrP]
    rw [hl]
    rcases List.mem_append.1 (show x ∈ P.mst ++ _ from hx) with h | h
    · exact oP.mstu x h
    · split at h
      · rename_i hb'; rw [← hb hb']; exact oQ.mstu x h
      · cases h
theorem shr_128 {P Q : Pr} (h : Few128 P) {b : Bool} {k u : Nat} (hk : k < P.elig.length) : Few128 (shrP P Q b k u) := fun M hM => by
  obtain ⟨N, h1, h2⟩ := shr_elig hk M hM
  have h3 : N < 2 ^ 7 := h N h1
  rcases h2 with rfl | rfl
  · exact h3
  · exact clrU_lt h3
theorem shr_bit (P Q : Pr) (b : Bool) (k u z x : Nat) (h : ((shrP P Q b k u).elig[z]?.getD 0).testBit x = true) : (P.elig[z]?.getD 0).testBit x = true := by
  have e : (shrP P Q b k u).elig[z]? = (P.elig.set k (clrU (P.elig[k]?.getD 0) u))[z]? := rfl
  rw [e, List.getElem?_set] at h
  split at h
  · rename_i hk
    subst hk
    split at h
    · simp only [Option.getD_some, clrU_bit, Bool.and_eq_true] at h
      exact h.1
    · simp at h
  · exact h
theorem shr_sm {P Q : Pr} (h : SmP P) (b : Bool) (k u : Nat) : SmP (shrP P Q b k u) := by
  refine ⟨by simpa [shrP] using h.1, fun z => Nat.le_trans ?_ (h.2 z)⟩
  unfold memZ
  rw [List.length_map, List.length_map]
  obtain ⟨n, h1, h2⟩ : ∃ n, eligA (shrP P Q b k u) z < 2 ^ n ∧ eligA P z < 2 ^ n := ⟨eligA (shrP P Q b k u) z + eligA P z, Nat.lt_of_lt_of_le Nat.lt_two_pow_self (Nat.pow_le_pow_right (by decide) (by omega)), Nat.lt_of_lt_of_le Nat.lt_two_pow_self (Nat.pow_le_pow_right (by decide) (by omega))⟩
  rw [memM_memT h1, memM_memT h2]
  unfold memT
  rw [← List.countP_eq_length_filter, ← List.countP_eq_length_filter]
  refine List.countP_mono_left fun i _ hi => ?_
  unfold eligA at hi ⊢
  exact shr_bit P Q b k u _ i hi
theorem shr_brk {P Q : Pr} {b : Bool} {k u : Nat} {l : List Int} (h : brk P l = true) : brk (shrP P Q b k u) l = true := by
  unfold brk at h ⊢
  simp only [Bool.or_eq_true] at h ⊢
  rcases h with ((h | h) | h) | h
  · left; left; left
    obtain ⟨z, hz, h1⟩ := List.any_eq_true.1 h
    refine List.any_eq_true.2 ⟨z, hz, ?_⟩
    unfold brkE at h1 ⊢
    simp only [Bool.and_eq_true, Bool.not_eq_true'] at h1 ⊢
    refine ⟨h1.1, ?_⟩
    cases hx : ((shrP P Q b k u).elig[z]?.getD 0).testBit (atI l z).toNat
    · rfl
    · rw [shr_bit P Q b k u z _ hx] at h1; exact absurd h1.2 (by simp)
  · left; left; right
    simp only [shrP, List.any_append, h, Bool.true_or]
  · left; right
    simp only [shrP, List.any_append, h, Bool.true_or]
  · right
    simp only [shrP, List.any_append, h, Bool.true_or]
theorem shr_valid {P Q : Pr} (hc : chkP P = 0) {b : Bool} {k u : Nat} (hc' : chkP (shrP P Q b k u) = 0) {l : List Int} (h : ValidB (shrP P Q b k u) l = true) : ValidB P l = true := by
  obtain ⟨h1, h2, h3, h4⟩ := (valid_iff hc' l).1 h
  refine (valid_iff hc l).2 ⟨by simpa [shrP] using h1, h2, ?_, h4⟩
  cases hb : brk P l
  · rfl
  · rw [shr_brk hb] at h3; cases h3
theorem shr_sols {P Q : Pr} (hc : chkP P = 0) {b : Bool} {k u : Nat} (hk : k < P.elig.length) (hc' : chkP (shrP P Q b k u) = 0) (hf : Few128 P) (h6 : ∀ v ∈ P.fix, v ≤ 6) : (solsL (shrP P Q b k u)).length ≤ (solsL P).length := by
  rw [solsL_all hc hf h6, solsL_all hc' (shr_128 hf hk) h6]
  unfold allL
  rw [show (shrP P Q b k u).elig.length = P.elig.length by simp [shrP]]
  rw [← List.countP_eq_length_filter, ← List.countP_eq_length_filter]
  exact List.countP_mono_left fun l _ hl => shr_valid hc hc' hl
theorem sols_few {P : Pr} (hc : chkP P = 0) (sm : SmP P) : (solsL P).length ≤ 7776 := by
  have ok := chkP_ok hc
  have h1 := solsF_len ok sm.2 P.fix.length P.fix (openN_le _)
  have h5 : P.fix.length ≤ 5 := by rw [ok.fixl]; exact sm.1
  exact Nat.le_trans h1 (Nat.le_trans (Nat.pow_le_pow_right (by omega) h5) (by decide))
theorem count_10000 {P : Pr} (hc : chkP P = 0) (sm : SmP P) : countR P 10000 = (((solsL P).length : Int), 0) := by
  have := sols_few hc sm
  unfold countR
  rw [if_neg (by simpa using hc), if_neg (by omega), if_neg (by omega)]
end Go.Proofs.YtcnofhlgiffkjaaGreatDoor
