/- Plain: the users that some staffing gives to a step, and those in every one. -/
import Derived.Test.YtfnhaoindehjdaaDoorStX
namespace Go.Proofs.YtfnhaoindehjdaaDoor
open Go.RowKit
set_option linter.unusedVariables false
set_option linter.unusedSimpArgs false

/-- Whether there is a staffing. -/
def solvB (P : Pr) : Bool := decide (chkP P = 0) && !(solsL P).isEmpty
theorem solvB_iff {P : Pr} (hc : chkP P = 0) : solvB P = true ↔ ∃ l, ValidB P l = true := by
  unfold solvB
  simp only [hc, decide_true, Bool.true_and, Bool.not_eq_true']
  constructor
  · intro h
    obtain ⟨l, hl⟩ := List.exists_mem_of_ne_nil (solsL P) (by intro e; rw [e] at h; cases h)
    exact ⟨l, (solsL_mem hc l).1 hl⟩
  · rintro ⟨l, hl⟩
    have := (solsL_mem hc l).2 hl
    cases hs : solsL P with
    | nil => rw [hs] at this; cases this
    | cons a b => rfl
/-- A step is fixed. -/
def setFix (P : Pr) (k : Nat) (u : Int) : Pr := ⟨P.elig, P.dif, P.sam, P.mst, P.fix.set k u⟩
theorem brk_setFix (P : Pr) (k : Nat) (u : Int) (l : List Int) : brk (setFix P k u) l = brk P l := rfl
theorem any_fix_set {l : List Int} {k : Nat} {u : Int} (h : l.any fixBad = false) (hu : 0 ≤ u ∧ u ≤ 256) : (l.set k u).any fixBad = false := by
  refine Bool.eq_false_iff.2 fun hb => ?_
  obtain ⟨v, hv, h2⟩ := List.any_eq_true.1 hb
  rcases List.mem_or_eq_of_mem_set hv with h1 | h1
  · exact List.any_eq_false.1 h v h1 h2
  · subst h1
    unfold fixBad at h2
    have h3 := of_decide_eq_true h2
    omega
theorem fixBad_of {P : Pr} (ok : PrOk P) : P.fix.any fixBad = false := by
  refine Bool.eq_false_iff.2 fun hb => ?_
  obtain ⟨v, hv, hb⟩ := List.any_eq_true.1 hb
  have := ok.fixu v hv
  unfold fixBad at hb
  simp only [decide_eq_true_eq] at hb
  omega
theorem chkP_of {P : Pr} (ok : PrOk P) : chkP P = 0 := by
  unfold chkP
  rw [if_neg ok.n0, if_neg (by have := ok.n10; have := ok.d20; have := ok.s20; have := ok.m20; omega), if_neg (by simpa using ok.fixl)]
  rw [if_neg (by
    rw [Bool.not_eq_true]
    refine List.any_eq_false.2 fun M hM hb => ?_
    obtain ⟨h1, h2⟩ := ok.eli M hM
    unfold eligBad at hb
    rw [h1, withinB_pow (M := M) (n := 257), decide_eq_true h2] at hb
    cases hb)]
  rw [if_neg (by rw [fixBad_of ok]; simp)]
  rw [chkPairs_zero ok.difu, chkPairs_zero ok.samu, if_neg (by simp), if_neg (by simp)]
  rw [if_neg (by
    rw [Bool.not_eq_true]
    refine List.any_eq_false.2 fun m hm hb => ?_
    obtain ⟨h1, h2, h3, h4⟩ := ok.mstu m hm
    unfold mstBad at hb
    rw [withinB_pow, decide_eq_true h4] at hb
    simp only [Bool.or_eq_true, decide_eq_true_eq, Bool.not_true, Bool.false_eq_true, or_false] at hb
    omega)]
theorem ok_setFix {P : Pr} (ok : PrOk P) {k : Nat} {u : Int} (hu : 0 ≤ u ∧ u ≤ 256) : PrOk (setFix P k u) :=
  ⟨ok.n0, ok.n10, ok.d20, ok.s20, ok.m20, by show (P.fix.set k u).length = _; rw [List.length_set]; exact ok.fixl, ok.eli, fun v hv => by
    rcases List.mem_or_eq_of_mem_set hv with h1 | rfl
    · exact ok.fixu v h1
    · exact hu, ok.difu, ok.samu, ok.mstu⟩
/-- What is valid, in parts. -/
theorem valid_iff {P : Pr} (hc : chkP P = 0) (l : List Int) : ValidB P l = true ↔ (l.length = P.elig.length ∧ (∀ u ∈ l, 1 ≤ u ∧ u ≤ 256) ∧ brk P l = false ∧ ∀ k, atI P.fix k = 0 ∨ atI P.fix k = atI l k) := by
  constructor
  · intro h
    obtain ⟨_, hg, hs⟩ := good_of_valid h
    refine ⟨hg.len, fun u hu => ?_, hg.ok, hs.at_⟩
    obtain ⟨k, hk⟩ := List.mem_iff_getElem?.1 hu
    have h1 := hg.pos k (List.getElem?_eq_some_iff.1 hk).1
    have h2 : atI l k = u := by unfold atI; rw [hk]; rfl
    unfold ValidB at h
    simp only [Bool.and_eq_true] at h
    have h3 := (proper_ok h.1.1.1).2.2 u hu
    omega
  · rintro ⟨h1, h2, h3, h4⟩
    refine Part.valid hc ⟨h1, fun u hu => by have := h2 u hu; omega, h4⟩ (fun k hk => ?_) h3
    have := h2 l[k] (List.getElem_mem hk)
    unfold atI
    rw [List.getElem?_eq_getElem hk]
    simp only [Option.getD_some]
    omega
theorem valid_setFix {P : Pr} (hc : chkP P = 0) {k : Nat} {u : Int} (hk : k < P.elig.length) (hu : 1 ≤ u ∧ u ≤ 256) (hf : atI P.fix k = 0 ∨ atI P.fix k = u) (l : List Int) :
    ValidB (setFix P k u) l = true ↔ ValidB P l = true ∧ atI l k = u := by
  have ok := chkP_ok hc
  have hc' : chkP (setFix P k u) = 0 := chkP_of (ok_setFix ok (by omega))
  have hkf : k < P.fix.length := by rw [ok.fixl]; exact hk
  have he : ∀ j, atI (setFix P k u).fix j = if j = k then u else atI P.fix j := fun j => atI_set _ _ _ _ hkf
  rw [valid_iff hc', valid_iff hc, brk_setFix]
  constructor
  · rintro ⟨h1, h2, h3, h4⟩
    have h5 := h4 k
    rw [he, if_pos rfl] at h5
    refine ⟨⟨h1, h2, h3, fun j => ?_⟩, by omega⟩
    by_cases hj : j = k
    · subst hj; omega
    · have := h4 j
      rw [he, if_neg hj] at this
      exact this
  · rintro ⟨⟨h1, h2, h3, h4⟩, h5⟩
    refine ⟨h1, h2, h3, fun j => ?_⟩
    rw [he]
    by_cases hj : j = k
    · rw [if_pos hj, hj]; exact .inr h5.symm
    · rw [if_neg hj]; exact h4 j
/-- The users that some staffing gives to step k. -/
def possK (P : Pr) (k : Nat) : List Int := if solvB P = true then (memZ (eligA P (k : Int))).filter (fun u => (decide (atI P.fix k = 0) || decide (atI P.fix k = u)) && solvB (setFix P k u)) else []
theorem valid_len {P : Pr} {l : List Int} (h : ValidB P l = true) : l.length = P.elig.length := (valid_good h).len
theorem valid_elig {P : Pr} {l : List Int} (h : ValidB P l = true) {k : Nat} (hk : k < P.elig.length) : atI l k ∈ memZ (eligA P (k : Int)) := by
  have hg := valid_good h
  have hkl : k < l.length := by rw [hg.len]; exact hk
  have h2 := mem_memM (hg.elig hkl)
  have h3 := hg.pos k hkl
  unfold memZ
  refine List.mem_map.2 ⟨(atI l k).toNat, ?_, by omega⟩
  unfold eligA
  rw [Int.toNat_natCast]
  exact h2
theorem possK_spec {P : Pr} (hc : chkP P = 0) {k : Nat} (hk : k < P.elig.length) {u : Int} : u ∈ possK P k ↔ ∃ l, ValidB P l = true ∧ atI l k = u := by
  have ok := chkP_ok hc
  unfold possK
  constructor
  · intro h
    split at h
    · obtain ⟨h1, h2⟩ := List.mem_filter.1 h
      simp only [Bool.and_eq_true, Bool.or_eq_true, decide_eq_true_eq] at h2
      have hu := memZ_user ok h1
      obtain ⟨l, hl⟩ := (solvB_iff (chkP_of (ok_setFix ok (by omega)))).1 h2.2
      exact ⟨l, (valid_setFix hc hk hu h2.1 l).1 hl⟩
    · cases h
  · rintro ⟨l, hl, rfl⟩
    rw [if_pos ((solvB_iff hc).2 ⟨l, hl⟩)]
    have hm := valid_elig hl hk
    have hu := memZ_user ok hm
    have hf := ((valid_iff hc l).1 hl).2.2.2 k
    refine List.mem_filter.2 ⟨hm, ?_⟩
    simp only [Bool.and_eq_true, Bool.or_eq_true, decide_eq_true_eq]
    exact ⟨hf, (solvB_iff (chkP_of (ok_setFix ok (by omega)))).2 ⟨l, (valid_setFix hc hk hu hf l).2 ⟨hl, rfl⟩⟩⟩
theorem possK_six {P : Pr} (hc : chkP P = 0) (hf : Few128 P) {k : Nat} (hk : k < P.elig.length) {f : Int → Bool} (h : ∀ u ∈ six, f u = true ↔ ∃ l, ValidB P l = true ∧ atI l k = u) : possK P k = six.filter f := by
  have ok := chkP_ok hc
  have h1 : possK P k = six.filter fun u => decide (u ∈ possK P k) := by
    conv => lhs; unfold possK
    split
    · rename_i hs
      rw [memZ_six (elig_128 hf _) (elig_bit0 ok _), List.filter_filter]
      refine List.filter_congr fun u hu => ?_
      rw [Bool.eq_iff_iff]
      simp only [decide_eq_true_eq]
      unfold possK
      rw [if_pos hs, memZ_six (elig_128 hf _) (elig_bit0 ok _), List.filter_filter, List.mem_filter]
      simp [hu]
    · rename_i hs
      symm
      refine List.filter_eq_nil_iff.2 fun u hu hn => ?_
      simp only [decide_eq_true_eq] at hn
      unfold possK at hn
      rw [if_neg hs] at hn
      cases hn
  rw [h1]
  refine List.filter_congr fun u hu => ?_
  rw [Bool.eq_iff_iff, h u hu]
  simp only [decide_eq_true_eq]
  exact possK_spec hc hk
/-- A set without a user. -/
def clrU (M u : Nat) : Nat := if M.testBit u = true then M ^^^ 2 ^ u else M
theorem clrU_bit (M u j : Nat) : (clrU M u).testBit j = (M.testBit j && !decide (j = u)) := by
  unfold clrU
  by_cases h : M.testBit u = true
  · rw [if_pos h, Nat.testBit_xor, Nat.testBit_two_pow]
    by_cases hj : j = u
    · subst hj; simp [h]
    · simp [hj, Ne.symm hj]
  · rw [if_neg h]
    by_cases hj : j = u
    · subst hj; simp [h]
    · simp [hj]
theorem clrU_lt {M u n : Nat} (h : M < 2 ^ n) : clrU M u < 2 ^ n := by
  refine Nat.lt_pow_two_of_testBit _ fun i hi => ?_
  rw [clrU_bit, Nat.testBit_lt_two_pow (Nat.lt_of_lt_of_le h (Nat.pow_le_pow_right (by decide) hi))]
  rfl
/-- A problem without a user. -/
def without (P : Pr) (u : Nat) : Pr := ⟨P.elig.map (clrU · u), P.dif, P.sam, P.mst, P.fix⟩
theorem ok_without {P : Pr} (ok : PrOk P) (u : Nat) : PrOk (without P u) :=
  ⟨by simpa [without] using ok.n0, by simpa [without] using ok.n10, ok.d20, ok.s20, ok.m20, by simpa [without] using ok.fixl, fun M hM => by
    obtain ⟨N, hN, rfl⟩ := List.mem_map.1 hM
    obtain ⟨h1, h2⟩ := ok.eli N hN
    exact ⟨by rw [clrU_bit, h1]; rfl, clrU_lt (n := 257) h2⟩, ok.fixu, by simpa [without] using ok.difu, by simpa [without] using ok.samu, by simpa [without] using ok.mstu⟩
theorem brkE_without {P : Pr} {u : Nat} {l : List Int} {k : Nat} (hk : k < P.elig.length) : brkE (without P u).elig l k = (brkE P.elig l k || (decide (atI l k ≠ 0) && decide ((atI l k).toNat = u))) := by
  unfold brkE without
  simp only [List.getElem?_map, List.getElem?_eq_getElem hk, Option.map_some, Option.getD_some, clrU_bit]
  cases decide (atI l k ≠ 0) <;> cases (P.elig[k]).testBit (atI l k).toNat <;> cases decide ((atI l k).toNat = u) <;> rfl
theorem any_or2 {α : Type} (f g : α → Bool) : ∀ l : List α, (l.any f || l.any g) = l.any fun x => f x || g x
  | [] => rfl
  | x :: l => by
    rw [List.any_cons, List.any_cons, List.any_cons, ← any_or2 f g l]
    cases f x <;> cases g x <;> cases l.any f <;> cases l.any g <;> rfl
theorem brk_without {P : Pr} {u : Nat} {l : List Int} (hl : l.length = P.elig.length) : brk (without P u) l = (brk P l || (List.range l.length).any fun k => decide (atI l k ≠ 0) && decide ((atI l k).toNat = u)) := by
  have e : (List.range l.length).any (brkE (without P u).elig l) = ((List.range l.length).any (brkE P.elig l) || (List.range l.length).any fun k => decide (atI l k ≠ 0) && decide ((atI l k).toNat = u)) := by
    rw [any_or2]
    have h : ∀ L : List Nat, (∀ k ∈ L, k < P.elig.length) → L.any (brkE (without P u).elig l) = L.any fun k => brkE P.elig l k || (decide (atI l k ≠ 0) && decide ((atI l k).toNat = u)) := by
      intro L
      induction L with
      | nil => intro _; rfl
      | cons a L ih => intro h; rw [List.any_cons, List.any_cons, brkE_without (h a (by simp)), ih fun k hk => h k (by simp [hk])]
    exact h _ fun k hk => by rw [← hl]; exact List.mem_range.1 hk
  unfold brk
  rw [e]
  simp only [without]
  cases (List.range l.length).any (brkE P.elig l) <;> cases ((List.range l.length).any fun k => decide (atI l k ≠ 0) && decide ((atI l k).toNat = u)) <;> simp
theorem valid_without {P : Pr} (hc : chkP P = 0) (u : Nat) (hu : 1 ≤ u) (l : List Int) : ValidB (without P u) l = true ↔ ValidB P l = true ∧ (u : Int) ∉ l := by
  have ok := chkP_ok hc
  have hc' : chkP (without P u) = 0 := chkP_of (ok_without ok u)
  rw [valid_iff hc', valid_iff hc]
  have e1 : (without P u).elig.length = P.elig.length := by simp [without]
  have e2 : (without P u).fix = P.fix := rfl
  rw [e1, e2]
  constructor
  · rintro ⟨h1, h2, h3, h4⟩
    rw [brk_without h1, Bool.or_eq_false_iff] at h3
    refine ⟨⟨h1, h2, h3.1, h4⟩, fun hm => ?_⟩
    obtain ⟨k, hk⟩ := List.mem_iff_getElem?.1 hm
    have hkl := (List.getElem?_eq_some_iff.1 hk).1
    have ha : atI l k = (u : Int) := by unfold atI; rw [hk]; rfl
    have h5 := List.any_eq_false.1 h3.2 k (List.mem_range.2 hkl)
    rw [ha] at h5
    simp only [Bool.and_eq_true, decide_eq_true_eq] at h5
    omega
  · rintro ⟨⟨h1, h2, h3, h4⟩, h5⟩
    refine ⟨h1, h2, ?_, h4⟩
    rw [brk_without h1, h3, Bool.false_or]
    refine List.any_eq_false.2 fun k hk hb => ?_
    have hkl := List.mem_range.1 hk
    simp only [Bool.and_eq_true, decide_eq_true_eq] at hb
    have h6 := h2 l[k] (List.getElem_mem hkl)
    have ha : atI l k = l[k] := by unfold atI; rw [List.getElem?_eq_getElem hkl]; rfl
    rw [ha] at hb
    refine h5 ?_
    have : l[k] = (u : Int) := by omega
    rw [← this]
    exact List.getElem_mem hkl
/-- All eligible users. -/
def unionA (P : Pr) : Nat := P.elig.foldl (· ||| ·) 0
theorem foldl_or_bit (x : Nat) : ∀ (l : List Nat) (a : Nat), (l.foldl (· ||| ·) a).testBit x = (a.testBit x || l.any fun M => M.testBit x)
  | [], a => by simp
  | M :: l, a => by rw [List.foldl_cons, foldl_or_bit x l, Nat.testBit_or, List.any_cons, Bool.or_assoc]
theorem unionA_bit (P : Pr) (x : Nat) : (unionA P).testBit x = P.elig.any fun M => M.testBit x := by
  unfold unionA; rw [foldl_or_bit]; simp
/-- The users without whom there is no staffing. -/
def critL (P : Pr) : List Int := if solvB P = true then (memZ (unionA P)).filter (fun u => !solvB (without P u.toNat)) else []
theorem unionA_lt {P : Pr} {n : Nat} (h : ∀ M ∈ P.elig, M < 2 ^ n) : unionA P < 2 ^ n := by
  refine Nat.lt_pow_two_of_testBit _ fun i hi => ?_
  rw [unionA_bit]
  refine List.any_eq_false.2 fun M hM hb => ?_
  rw [Nat.testBit_lt_two_pow (Nat.lt_of_lt_of_le (h M hM) (Nat.pow_le_pow_right (by decide) hi))] at hb
  cases hb
theorem critL_spec {P : Pr} (hc : chkP P = 0) (u : Int) : u ∈ critL P ↔ 1 ≤ u ∧ (∃ l, ValidB P l = true) ∧ ∀ l, ValidB P l = true → u ∈ l := by
  have ok := chkP_ok hc
  unfold critL
  constructor
  · intro h
    split at h
    · rename_i hs
      obtain ⟨h1, h2⟩ := List.mem_filter.1 h
      unfold memZ at h1
      obtain ⟨x, hx, rfl⟩ := List.mem_map.1 h1
      have hb := memM_bit hx
      rw [unionA_bit] at hb
      obtain ⟨M, hM, hb⟩ := List.any_eq_true.1 hb
      have hx0 : x ≠ 0 := fun e => by subst e; rw [(ok.eli M hM).1] at hb; cases hb
      refine ⟨by omega, (solvB_iff hc).1 hs, fun l hl => ?_⟩
      by_cases hm : (x : Int) ∈ l
      · exact hm
      · have := (solvB_iff (chkP_of (ok_without ok x))).2 ⟨l, (valid_without hc x (by omega) l).2 ⟨hl, hm⟩⟩
        rw [Int.toNat_natCast, this] at h2
        cases h2
    · cases h
  · rintro ⟨h0, ⟨l, hl⟩, hall⟩
    rw [if_pos ((solvB_iff hc).2 ⟨l, hl⟩)]
    obtain ⟨x, rfl⟩ : ∃ x : Nat, u = (x : Int) := ⟨u.toNat, by omega⟩
    refine List.mem_filter.2 ⟨?_, ?_⟩
    · have hm := hall l hl
      obtain ⟨k, hk⟩ := List.mem_iff_getElem?.1 hm
      have hkl := (List.getElem?_eq_some_iff.1 hk).1
      have ha : atI l k = (x : Int) := by unfold atI; rw [hk]; rfl
      have hg := valid_good hl
      have hb := hg.elig hkl
      rw [ha, Int.toNat_natCast] at hb
      unfold memZ
      refine List.mem_map.2 ⟨x, mem_memM ?_, rfl⟩
      rw [unionA_bit]
      have hke : k < P.elig.length := by rw [← hg.len]; exact hkl
      rw [List.getElem?_eq_getElem hke] at hb
      exact List.any_eq_true.2 ⟨_, List.getElem_mem hke, hb⟩
    · rw [Int.toNat_natCast]
      cases hs : solvB (without P x) with
      | false => rfl
      | true =>
        obtain ⟨l', hl'⟩ := (solvB_iff (chkP_of (ok_without ok x))).1 hs
        have h2 := (valid_without hc x (by omega) l').1 hl'
        exact absurd (hall l' h2.1) h2.2
theorem critL_six {P : Pr} (hc : chkP P = 0) (hf : Few128 P) {f : Int → Bool} (h : ∀ u ∈ six, f u = true ↔ (∃ l, ValidB P l = true) ∧ ∀ l, ValidB P l = true → u ∈ l) : critL P = six.filter f := by
  have ok := chkP_ok hc
  have hu : unionA P < 2 ^ 7 := unionA_lt fun M hM => hf M hM
  have h0 : (unionA P).testBit 0 = false := by
    rw [unionA_bit]
    refine List.any_eq_false.2 fun M hM hb => ?_
    rw [(ok.eli M hM).1] at hb
    cases hb
  have h1 : critL P = six.filter fun u => decide (u ∈ critL P) := by
    conv => lhs; unfold critL
    split
    · rename_i hs
      rw [memZ_six hu h0, List.filter_filter]
      refine List.filter_congr fun u hm => ?_
      rw [Bool.eq_iff_iff]
      simp only [decide_eq_true_eq]
      unfold critL
      rw [if_pos hs, memZ_six hu h0, List.filter_filter, List.mem_filter]
      simp [hm]
    · rename_i hs
      symm
      refine List.filter_eq_nil_iff.2 fun u hm hn => ?_
      simp only [decide_eq_true_eq] at hn
      unfold critL at hn
      rw [if_neg hs] at hn
      cases hn
  have hp : ∀ u ∈ six, 1 ≤ u := by decide
  rw [h1]
  refine List.filter_congr fun u hm => ?_
  rw [Bool.eq_iff_iff, h u hm]
  simp only [decide_eq_true_eq]
  rw [critL_spec hc]
  exact ⟨fun h => h.2, fun h2 => ⟨hp u hm, h2⟩⟩
end Go.Proofs.YtfnhaoindehjdaaDoor
