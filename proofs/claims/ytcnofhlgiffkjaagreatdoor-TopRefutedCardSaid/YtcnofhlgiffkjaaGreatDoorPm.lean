/- A pack of texts: RClaimP, SndP, Snd2, MoreP, MkFew, MkOk, RCkP, RefP, RefQ, RefL. -/
import Derived.Test.YtcnofhlgiffkjaaGreatDoorPi
import Derived.Test.YtcnofhlgiffkjaaGreatDoorPf
import Derived.Test.YtcnofhlgiffkjaaGreatDoorPt
import Derived.Test.YtcnofhlgiffkjaaGreatDoorPh
/- Plain: the flaw of a node's claim. -/
namespace Go.Proofs.YtcnofhlgiffkjaaGreatDoor
open Go.RowKit
set_option linter.unusedVariables false

/-- The flaw of a node's claim. -/
def claimR (P : Pr) (x : Nd) (st : List Int) : Int :=
  if x.kind = 1 then (if branchB P x st then 1 else 3) else if x.kind = 2 then (if BrokenB P st then 1 else 4) else if x.kind = 3 then (if hallB P x.st st then 1 else 5) else 1
end Go.Proofs.YtcnofhlgiffkjaaGreatDoor
/- Plain: a sound refutation refutes. First: what contradicts a part contradicts the whole; a Hall node. -/
namespace Go.Proofs.YtcnofhlgiffkjaaGreatDoor
open Go.RowKit
set_option linter.unusedVariables false
set_option linter.unusedSimpArgs false

/-- st is a part of s. -/
structure Sub (st s : List Int) : Prop where
  len : st.length = s.length
  at_ : ∀ k, atI st k = 0 ∨ atI st k = atI s k
theorem Sub.ne {st s : List Int} (h : Sub st s) {k : Nat} (h0 : atI st k ≠ 0) : atI st k = atI s k := (h.at_ k).resolve_left h0
theorem brkE_sub {e : List Nat} {st s : List Int} (h : Sub st s) {k : Nat} (hb : brkE e st k = true) : brkE e s k = true := by
  unfold brkE at hb ⊢
  simp only [Bool.and_eq_true, decide_eq_true_eq] at hb
  rw [← h.ne hb.1]
  simp only [Bool.and_eq_true, decide_eq_true_eq]
  exact hb
theorem brkD_sub {st s : List Int} (h : Sub st s) {x : Int × Int} (hb : brkD st x = true) : brkD s x = true := by
  unfold brkD atZ at hb ⊢
  simp only [Bool.and_eq_true, decide_eq_true_eq] at hb ⊢
  have h1 := h.ne hb.1
  have h2 := h.ne (k := x.2.toNat) (by rw [← hb.2]; exact hb.1)
  rw [← h1, ← h2]
  exact hb
theorem brkS_sub {st s : List Int} (h : Sub st s) {x : Int × Int} (hb : brkS st x = true) : brkS s x = true := by
  unfold brkS atZ at hb ⊢
  simp only [Bool.and_eq_true, decide_eq_true_eq] at hb ⊢
  have h1 := h.ne hb.1.1
  have h2 := h.ne hb.1.2
  rw [← h1, ← h2]
  exact hb
theorem cntU_sub {st s : List Int} (h : Sub st s) (ks : List Nat) {u : Int} (hu : u ≠ 0) : cntU st ks u ≤ cntU s ks u := by
  unfold cntU
  induction ks with
  | nil => simp
  | cons k ks ih =>
    by_cases h1 : atI st k = u
    · have h2 : atI s k = u := by rw [← h.ne (by rw [h1]; exact hu)]; exact h1
      simp only [List.filter, h1, h2, decide_true, List.length_cons]
      omega
    · by_cases h2 : atI s k = u
      · simp only [List.filter, h1, h2, decide_true, decide_false, List.length_cons]
        omega
      · simp only [List.filter, h1, h2, decide_false]
        exact ih
theorem brkM_sub {st s : List Int} (h : Sub st s) {m : Int × Nat} (hb : brkM st m = true) : brkM s m = true := by
  unfold brkM at hb ⊢
  obtain ⟨k, hk, h1⟩ := List.any_eq_true.1 hb
  simp only [Bool.and_eq_true, decide_eq_true_eq] at h1
  refine List.any_eq_true.2 ⟨k, hk, ?_⟩
  have h2 := h.ne h1.1
  have h3 := cntU_sub h (memM m.2) h1.1
  simp only [Bool.and_eq_true, decide_eq_true_eq]
  rw [← h2]
  exact ⟨h1.1, by omega⟩
theorem any_sub {α : Type} {l : List α} {f g : α → Bool} (h : ∀ x, f x = true → g x = true) (hf : l.any f = true) : l.any g = true := by
  obtain ⟨x, hx, h1⟩ := List.any_eq_true.1 hf
  exact List.any_eq_true.2 ⟨x, hx, h x h1⟩
theorem brk_sub {P : Pr} {st s : List Int} (h : Sub st s) (hb : brk P st = true) : brk P s = true := by
  unfold brk at hb ⊢
  simp only [Bool.or_eq_true] at hb ⊢
  rw [h.len] at hb
  rcases hb with ((h1 | h1) | h1) | h1
  · exact .inl (.inl (.inl (any_sub (fun k hk => brkE_sub h hk) h1)))
  · exact .inl (.inl (.inr (any_sub (fun k hk => brkD_sub h hk) h1)))
  · exact .inl (.inr (any_sub (fun k hk => brkS_sub h hk) h1))
  · exact .inr (any_sub (fun k hk => brkM_sub h hk) h1)
/-- A part with one more user. -/
theorem atI_set (st : List Int) (z : Nat) (u : Int) (k : Nat) (hz : z < st.length) : atI (st.set z u) k = if k = z then u else atI st k := by
  unfold atI
  by_cases h : k = z
  · subst h
    rw [List.getElem?_set_self hz, if_pos rfl]; rfl
  · rw [List.getElem?_set_ne (by omega), if_neg h]
theorem Sub.set {st s : List Int} (h : Sub st s) {z : Nat} (hz : z < st.length) : Sub (st.set z (atI s z)) s :=
  ⟨by rw [List.length_set]; exact h.len, fun k => by
    rw [atI_set _ _ _ _ hz]
    by_cases hk : k = z
    · rw [if_pos hk, hk]; exact .inr rfl
    · rw [if_neg hk]; exact h.at_ k⟩
theorem nodup_len : ∀ {l l' : List Nat}, l.Pairwise (· ≠ ·) → (∀ x ∈ l, x ∈ l') → l.length ≤ l'.length
  | [], l', _, _ => by simp
  | a :: l, l', hn, hs => by
    obtain ⟨h1, h2⟩ := List.pairwise_cons.1 hn
    have ha := hs a (by simp)
    have := nodup_len (l' := l'.erase a) h2 fun x hx => (List.mem_erase_of_ne (Ne.symm (h1 x hx))).2 (hs x (by simp [hx]))
    have hl := List.length_erase_of_mem ha
    have hp := List.length_pos_of_mem ha
    rw [List.length_cons]
    omega
theorem mem_memM {M x : Nat} (h : M.testBit x = true) : x ∈ memM M := by
  obtain ⟨n, hn⟩ : ∃ n, M < 2 ^ n := ⟨M, Nat.lt_two_pow_self⟩
  rw [memM_memT hn]
  exact List.mem_filter.2 ⟨List.mem_range.2 (bit_lt hn h), h⟩
theorem unionE_bit (e : List Nat) (x : Nat) : ∀ (l : List Int) (a : Nat), (l.foldl (fun a k => a ||| (e[k.toNat]?.getD 0)) a).testBit x = (a.testBit x || l.any fun k => (e[k.toNat]?.getD 0).testBit x)
  | [], a => by simp
  | k :: l, a => by rw [List.foldl_cons, unionE_bit e x l, Nat.testBit_or, List.any_cons, Bool.or_assoc]
/-- What a whole staffing without a contradiction says. -/
structure Good (P : Pr) (s : List Int) : Prop where
  len : s.length = P.elig.length
  pos : ∀ k, k < s.length → 0 < atI s k
  ok : brk P s = false
theorem Good.elig {P : Pr} {s : List Int} (h : Good P s) {k : Nat} (hk : k < s.length) : ((P.elig[k]?).getD 0).testBit (atI s k).toNat = true := by
  have h1 := h.ok
  unfold brk at h1
  simp only [Bool.or_eq_false_iff] at h1
  have h2 : brkE P.elig s k = false := by
    rcases hb : brkE P.elig s k with _ | _
    · rfl
    · have := List.any_eq_true.2 ⟨k, List.mem_range.2 hk, hb⟩
      rw [h1.1.1.1] at this
      cases this
  unfold brkE at h2
  rw [decide_eq_true (show atI s k ≠ 0 by have := h.pos k hk; omega), Bool.true_and] at h2
  simpa using h2
theorem Good.dif {P : Pr} {s : List Int} (h : Good P s) {j k : Int} (hj : j.toNat < s.length) (hk : k.toNat < s.length) (hp : pairedB P j k = true) : atZ s j ≠ atZ s k := by
  have h1 := h.ok
  unfold brk at h1
  simp only [Bool.or_eq_false_iff] at h1
  have h2 : ∀ x ∈ P.dif, brkD s x = false := fun x hx => by
    rcases hb : brkD s x with _ | _
    · rfl
    · have := List.any_eq_true.2 ⟨x, hx, hb⟩
      rw [h1.1.1.2] at this
      cases this
  have key : ∀ a b : Int, a.toNat < s.length → (a, b) ∈ P.dif → atZ s a ≠ atZ s b := fun a b ha hm e => by
    have h3 := h2 _ hm
    unfold brkD at h3
    have := h.pos a.toNat ha
    rw [decide_eq_true (show atZ s a ≠ 0 by unfold atZ; omega), decide_eq_true e] at h3
    cases h3
  unfold pairedB at hp
  simp only [Bool.or_eq_true, List.contains_iff_mem] at hp
  rcases hp with h3 | h3
  · exact key j k hj h3
  · exact (key k j hk h3).symm
theorem hall_sub {P : Pr} {st s steps : List Int} (h : Sub st s) (hg : Good P s) (hh : hallB P steps st = true) : False := by
  unfold hallB at hh
  simp only [Bool.and_eq_true, decide_eq_true_eq, List.all_eq_true] at hh
  obtain ⟨h1, h2⟩ := hh
  have hs : ∀ i, i < steps.length → (atI steps i).toNat < s.length ∧ ∀ j ∈ steps.take i, pairedB P j (atI steps i) = true := fun i hi => by
    have h3 := h1 i (List.mem_range.2 hi)
    unfold stepB at h3
    simp only [Bool.and_eq_true, decide_eq_true_eq, List.all_eq_true] at h3
    refine ⟨by rw [← h.len]; omega, fun j hj => (h3.2 j hj).2⟩
  have hm : ∀ k ∈ steps, k.toNat < s.length := fun k hk => by
    obtain ⟨i, hi⟩ := List.mem_iff_getElem?.1 hk
    have h3 := (hs i (List.getElem?_eq_some_iff.1 hi).1).1
    unfold atI at h3
    rw [hi] at h3
    exact h3
  have hle := nodup_len (l := steps.map fun k => (atZ s k).toNat) (l' := memM (unionE P.elig steps)) ?_ ?_
  · rw [List.length_map] at hle
    omega
  · rw [List.pairwise_iff_getElem]
    intro i j hi hj hij
    rw [List.length_map] at hi hj
    rw [List.getElem_map, List.getElem_map]
    have h4 := (hs j hj).2 steps[i] (by
      refine List.mem_of_getElem? (i := i) ?_
      rw [List.getElem?_take_of_lt hij]
      exact List.getElem?_eq_getElem hi)
    have ej : atI steps j = steps[j] := by unfold atI; rw [List.getElem?_eq_getElem hj]; rfl
    rw [ej] at h4
    have h5 := hg.dif (hm _ (List.getElem_mem hi)) (hm _ (List.getElem_mem hj)) h4
    have p1 := hg.pos _ (hm _ (List.getElem_mem hi))
    have p2 := hg.pos _ (hm _ (List.getElem_mem hj))
    unfold atZ at h5 ⊢
    omega
  · intro x hx
    obtain ⟨k, hk, rfl⟩ := List.mem_map.1 hx
    refine mem_memM ?_
    unfold unionE
    rw [unionE_bit]
    have := hg.elig (hm k hk)
    rw [List.any_eq_true.2 ⟨k, hk, this⟩]
    simp
end Go.Proofs.YtcnofhlgiffkjaaGreatDoor
/- Plain: a sound refutation refutes. -/
namespace Go.Proofs.YtcnofhlgiffkjaaGreatDoor
open Go.RowKit
set_option linter.unusedVariables false
set_option linter.unusedSimpArgs false

theorem tree_one {l : List Nd} (h : (treeR l).2 = true) {k : Nat} (hk : k < l.length) (h0 : k ≠ 0) : cntC (kids l) k = 1 := by
  unfold treeR at h
  cases hf : (List.range l.length).find? (formAt l) with
  | some i => rw [hf] at h; cases h
  | none =>
    rw [hf] at h
    cases hp : (List.range l.length).find? (parAt l) with
    | some i => rw [hp] at h; cases h
    | none =>
      have h1 := List.find?_range_eq_none.1 hp k hk
      unfold parAt at h1
      rw [if_neg h0] at h1
      simpa using h1
theorem cntC_app (a b : List Int) (j : Nat) : cntC (a ++ b) j = cntC a j + cntC b j := by
  unfold cntC
  rw [List.filter_append, List.length_append]
theorem cntC_mem {a : List Int} {j : Nat} (h : (j : Int) ∈ a) : 1 ≤ cntC a j := by
  unfold cntC
  exact List.length_pos_of_mem (List.mem_filter.2 ⟨h, by simp⟩)
theorem kids_split {l : List Nd} {k : Nat} {x : Nd} (h : l[k]? = some x) : kids l = kids (l.take k) ++ (x.ch ++ kids (l.drop (k + 1))) := by
  obtain ⟨hk, he⟩ := List.getElem?_eq_some_iff.1 h
  unfold kids
  conv => lhs; rw [← List.take_append_drop k l, List.drop_eq_getElem_cons hk, he]
  rw [List.flatMap_append, List.flatMap_cons]
theorem once_idx {a : List Int} {j q q' : Nat} (h : cntC a j ≤ 1) (h1 : a[q]? = some (j : Int)) (h2 : a[q']? = some (j : Int)) : q = q' := by
  have key : ∀ {p p' : Nat}, p < p' → a[p]? = some (j : Int) → a[p']? = some (j : Int) → False := fun {p p'} hlt h1 h2 => by
    have e := cntC_app (a.take p') (a.drop p') j
    rw [List.take_append_drop] at e
    have m1 : 1 ≤ cntC (a.take p') j := cntC_mem (List.mem_of_getElem? (i := p) (by rw [List.getElem?_take_of_lt hlt]; exact h1))
    have m2 : 1 ≤ cntC (a.drop p') j := cntC_mem (List.mem_of_getElem? (i := 0) (by rw [List.getElem?_drop]; exact h2))
    omega
  rcases Nat.lt_trichotomy q q' with h3 | h3 | h3
  · exact (key h3 h1 h2).elim
  · exact h3
  · exact (key h3 h2 h1).elim
theorem fillS_other (st : List Int) (z : Nat) {j : Nat} : ∀ (l : List (Int × Int)) (sts : List (List Int)), (∀ cu ∈ l, cu.1.toNat ≠ j) → (fillS st z sts l)[j]? = sts[j]?
  | [], sts, _ => rfl
  | a :: l, sts, h => by
    show (fillS st z (sts.set a.1.toNat (st.set z a.2)) l)[j]? = _
    rw [fillS_other st z l _ fun cu hc => h cu (by simp [hc]), List.getElem?_set_ne (h a (by simp))]
/-- There is an open node whose state is a part of s. -/
structure Open (l : List Nd) (s : List Int) (k : Nat) (sts : List (List Int)) : Prop where
  ex : ∃ j st, k ≤ j ∧ j < l.length ∧ sts[j]? = some st ∧ Sub st s ∧ (j = 0 ∨ (j : Int) ∈ kids (l.take k))
theorem walkN_sound {P : Pr} {l : List Nd} (h : (treeR l).2 = true) {s : List Int} (hg : Good P s) : ∀ (m k : Nat) (sts : List (List Int)), l.length - k = m → sts.length = l.length → Open l s k sts → (walkN P (l.drop k) k sts).1 ≠ 1 := by
  have T := tree_ok h
  intro m
  induction m with
  | zero =>
    intro k sts hm hs hO
    obtain ⟨j, st, h1, h2, _⟩ := hO.ex
    omega
  | succ m ih =>
    intro k sts hm hs hO
    obtain ⟨j, st, h1, h2, h3, h4, h5⟩ := hO.ex
    obtain ⟨x, hx⟩ : ∃ x, l[k]? = some x := ⟨_, List.getElem?_eq_getElem (by omega)⟩
    have hform := T.form k x hx
    have hkid := form_kids hform
    have hsnoc := kids_snoc hx
    rw [walkN_drop P hx]
    have hsk : (sts[k]?.getD []) = (sts[k]?.getD []) := rfl
    by_cases hkj : k = j
    · subst hkj
      rw [h3, Option.getD_some]
      by_cases q1 : x.kind = 1
      · rw [if_pos q1]
        cases hb : branchB P x st
        · simp
        · simp only [if_true]
          unfold branchB at hb
          simp only [Bool.and_eq_true, decide_eq_true_eq] at hb
          obtain ⟨⟨⟨b1, b2⟩, b3⟩, b4⟩ := hb
          have hz : x.step.toNat < st.length := by omega
          have hzs : x.step.toNat < s.length := by rw [← h4.len]; exact hz
          have hu := hg.pos _ hzs
          have hmem : atI s x.step.toNat ∈ memZ (eligA P x.step) := by
            unfold memZ eligA
            exact List.mem_map.2 ⟨_, mem_memM (hg.elig hzs), by omega⟩
          obtain ⟨q, hq⟩ := List.mem_iff_getElem?.1 hmem
          have hql := (List.getElem?_eq_some_iff.1 hq).1
          obtain ⟨c, hc⟩ : ∃ c, x.ch[q]? = some c := ⟨_, List.getElem?_eq_getElem (by rw [← b4]; exact hql)⟩
          have hck := hkid c (List.mem_of_getElem? hc)
          obtain ⟨j', rfl⟩ : ∃ j' : Nat, c = (j' : Int) := ⟨c.toNat, by omega⟩
          have hone := tree_one h (k := j') (by omega) (by omega)
          rw [kids_split hx, cntC_app, cntC_app] at hone
          have hmc := cntC_mem (List.mem_of_getElem? hc)
          refine ih (k + 1) _ (by omega) (by rw [fillS_len]; exact hs) ⟨?_⟩
          obtain ⟨st', hst'⟩ : ∃ st', (fillS st x.step.toNat sts (x.ch.zip (memZ (eligA P x.step))))[j']? = some st' := ⟨_, List.getElem?_eq_getElem (by rw [fillS_len, hs]; omega)⟩
          refine ⟨j', st', by omega, by omega, hst', ?_, .inr (by rw [hsnoc]; exact List.mem_append_right _ (List.mem_of_getElem? hc))⟩
          have hzip : ((j' : Int), atI s x.step.toNat) ∈ x.ch.zip (memZ (eligA P x.step)) := List.mem_of_getElem? (List.getElem?_zip_eq_some.2 ⟨hc, hq⟩)
          rcases fillS_get st _ _ sts j' st' hst' with ⟨_, f2⟩ | ⟨cu, f1, f2, rfl⟩
          · exact absurd (by simp) (f2 _ hzip)
          · obtain ⟨q', hq'⟩ := List.mem_iff_getElem?.1 f1
            obtain ⟨g1, g2⟩ := List.getElem?_zip_eq_some.1 hq'
            have hcu := hkid cu.1 (List.mem_of_getElem? g1)
            have e1 : cu.1 = (j' : Int) := by omega
            rw [e1] at g1
            have e2 := once_idx (by omega) hc g1
            subst e2
            rw [hq] at g2
            injection g2 with g2
            rw [← g2]
            exact h4.set hz
      · rw [if_neg q1]
        by_cases q2 : x.kind = 2
        · rw [if_pos q2]
          cases hb : brk P st
          · simp
          · have := brk_sub h4 hb
            rw [hg.ok] at this
            cases this
        · rw [if_neg q2]
          cases hb : hallB P x.st st
          · simp
          · exact (hall_sub h4 hg hb).elim
    · have hlt : k < j := by omega
      have next : ∀ sts', sts'.length = l.length → sts'[j]? = some st → (walkN P (l.drop (k + 1)) (k + 1) sts').1 ≠ 1 := fun sts' e1 e2 =>
        ih (k + 1) sts' (by omega) e1 ⟨j, st, by omega, h2, e2, h4, by
          rcases h5 with h6 | h6
          · exact .inl h6
          · exact .inr (by rw [hsnoc]; exact List.mem_append_left _ h6)⟩
      by_cases q1 : x.kind = 1
      · rw [if_pos q1]
        split
        · refine next _ (by rw [fillS_len]; exact hs) ?_
          rw [fillS_other]
          · exact h3
          · intro cu hcu e
            have hc := (List.of_mem_zip hcu).1
            have hck := hkid _ hc
            rcases h5 with h6 | h6
            · omega
            · have hone := tree_one h (k := j) h2 (by omega)
              rw [kids_split hx, cntC_app, cntC_app] at hone
              have m1 := cntC_mem h6
              have e1 : cu.1 = (j : Int) := by omega
              rw [e1] at hc
              have m2 := cntC_mem hc
              omega
        · simp
      · rw [if_neg q1]
        by_cases q2 : x.kind = 2
        · rw [if_pos q2]
          split
          · exact next _ hs h3
          · simp
        · rw [if_neg q2]
          split
          · exact next _ hs h3
          · simp
/-- What is valid is good, and has the fixed users. -/
theorem good_of_valid {P : Pr} {s : List Int} (h : ValidB P s = true) : chkP P = 0 ∧ Good P s ∧ Sub P.fix s := by
  rw [ValidB] at h
  simp only [Bool.and_eq_true, Bool.not_eq_true', List.all_eq_true] at h
  obtain ⟨⟨⟨h1, h2⟩, h3⟩, h4⟩ := h
  obtain ⟨k1, k2, k3⟩ := proper_ok h1
  have ok := chkP_ok k1
  refine ⟨k1, ⟨k2, fun k hk => ?_, h3⟩, ⟨by rw [ok.fixl, k2], fun k => ?_⟩⟩
  · have hm : atI s k ∈ s := by
      unfold atI
      rw [List.getElem?_eq_getElem hk]
      exact List.getElem_mem _
    have := k3 _ hm
    have h0 : atI s k ≠ 0 := fun e => by
      rw [e] at hm
      have := List.contains_iff_mem.2 hm
      rw [h2] at this
      cases this
    omega
  · by_cases hk : k < s.length
    · have h5 := h4 k (List.mem_range.2 hk)
      unfold fixOk at h5
      simpa using h5
    · left
      unfold atI
      rw [List.getElem?_eq_none (by rw [ok.fixl]; omega)]
      rfl
/-- A refutation that is sound refutes. -/
theorem chkR_sound {P : Pr} {l : List Nd} (h : (chkR P l).1 = 1) (s : List Int) : ValidB P s = false := by
  rcases hv : ValidB P s with _ | _
  · rfl
  · obtain ⟨h1, h2, h3⟩ := good_of_valid hv
    unfold chkR at h
    rw [if_neg (by simpa using h1)] at h
    by_cases ht : (treeR l).2 = false
    · rw [if_pos ht] at h; cases h
    · rw [if_neg ht] at h
      have ht' : (treeR l).2 = true := by simpa using ht
      have hp := (tree_ok ht').pos
      have := walkN_sound ht' h2 l.length 0 ((List.replicate l.length []).set 0 P.fix) (by omega) (by simp) ⟨0, P.fix, Nat.le_refl _, hp, by rw [List.getElem?_set_self (by simpa using hp)], h3, .inl rfl⟩
      rw [List.drop_zero] at this
      exact (this h).elim
end Go.Proofs.YtcnofhlgiffkjaaGreatDoor
/- Plain: with further conditions a sound refutation stays sound. -/
namespace Go.Proofs.YtcnofhlgiffkjaaGreatDoor
open Go.RowKit
set_option linter.unusedVariables false
set_option linter.unusedSimpArgs false

structure More (P P' : Pr) : Prop where
  elig : P'.elig = P.elig
  fix : P'.fix = P.fix
  dif : ∀ x ∈ P.dif, x ∈ P'.dif
  sam : ∀ x ∈ P.sam, x ∈ P'.sam
  mst : ∀ x ∈ P.mst, x ∈ P'.mst
theorem any_more {α : Type} {l l' : List α} {f : α → Bool} (h : ∀ x ∈ l, x ∈ l') (hf : l.any f = true) : l'.any f = true := by
  obtain ⟨x, hx, h1⟩ := List.any_eq_true.1 hf
  exact List.any_eq_true.2 ⟨x, h x hx, h1⟩
theorem More.brk {P P' : Pr} (h : More P P') {st : List Int} (hb : brk P st = true) : Go.Proofs.YtcnofhlgiffkjaaGreatDoor.brk P' st = true := by
  unfold Go.Proofs.YtcnofhlgiffkjaaGreatDoor.brk at hb ⊢
  rw [h.elig]
  simp only [Bool.or_eq_true] at hb ⊢
  rcases hb with ((h1 | h1) | h1) | h1
  · exact .inl (.inl (.inl h1))
  · exact .inl (.inl (.inr (any_more h.dif h1)))
  · exact .inl (.inr (any_more h.sam h1))
  · exact .inr (any_more h.mst h1)
theorem More.paired {P P' : Pr} (h : More P P') {j k : Int} (hb : pairedB P j k = true) : pairedB P' j k = true := by
  unfold pairedB at hb ⊢
  simp only [Bool.or_eq_true, List.contains_iff_mem] at hb ⊢
  rcases hb with h1 | h1
  · exact .inl (h.dif _ h1)
  · exact .inr (h.dif _ h1)
theorem More.hall {P P' : Pr} (h : More P P') {steps st : List Int} (hb : hallB P steps st = true) : hallB P' steps st = true := by
  unfold hallB at hb ⊢
  simp only [Bool.and_eq_true, decide_eq_true_eq, List.all_eq_true] at hb ⊢
  rw [h.elig]
  refine ⟨fun i hi => ?_, hb.2⟩
  have h1 := hb.1 i hi
  unfold stepB at h1 ⊢
  simp only [Bool.and_eq_true, decide_eq_true_eq, List.all_eq_true] at h1 ⊢
  exact ⟨h1.1, fun j hj => ⟨(h1.2 j hj).1, h.paired (h1.2 j hj).2⟩⟩
theorem More.branch {P P' : Pr} (h : More P P') (x : Nd) (st : List Int) : branchB P' x st = branchB P x st := by
  unfold branchB eligA
  rw [h.elig]
theorem walkN_more {P P' : Pr} (h : More P P') : ∀ (l : List Nd) (k : Nat) (sts : List (List Int)), (walkN P l k sts).1 = 1 → walkN P' l k sts = walkN P l k sts
  | [], k, sts, _ => rfl
  | x :: l, k, sts, hw => by
    unfold walkN at hw ⊢
    have he : eligA P' x.step = eligA P x.step := by unfold eligA; rw [h.elig]
    by_cases q1 : x.kind = 1
    · rw [if_pos q1] at hw ⊢
      rw [if_pos q1, h.branch, he]
      cases hb : branchB P x (sts[k]?.getD [])
      · rw [hb] at hw; simp at hw
      · rw [hb] at hw
        simp only [if_true] at hw ⊢
        exact walkN_more h l _ _ hw
    · rw [if_neg q1] at hw ⊢
      rw [if_neg q1]
      by_cases q2 : x.kind = 2
      · rw [if_pos q2] at hw ⊢
        rw [if_pos q2]
        cases hb : Go.Proofs.YtcnofhlgiffkjaaGreatDoor.brk P (sts[k]?.getD [])
        · rw [hb] at hw; simp at hw
        · rw [hb] at hw
          rw [h.brk hb]
          simp only [if_true] at hw ⊢
          exact walkN_more h l _ _ hw
      · rw [if_neg q2] at hw ⊢
        rw [if_neg q2]
        cases hb : hallB P x.st (sts[k]?.getD [])
        · rw [hb] at hw; simp at hw
        · rw [hb] at hw
          rw [h.hall hb]
          simp only [if_true] at hw ⊢
          exact walkN_more h l _ _ hw
theorem chkR_more {P P' : Pr} (h : More P P') (hc : chkP P' = 0) {l : List Nd} (hs : (chkR P l).1 = 1) : chkR P' l = chkR P l := by
  unfold chkR at hs ⊢
  rw [if_neg (show ¬ chkP P' ≠ 0 by simpa using hc)]
  by_cases h0 : chkP P ≠ 0
  · rw [if_pos h0] at hs; cases hs
  · rw [if_neg h0] at hs ⊢
    by_cases ht : (treeR l).2 = false
    · rw [if_pos ht] at hs; cases hs
    · rw [if_neg ht] at hs ⊢
      rw [if_neg ht, h.fix]
      exact walkN_more h l 0 _ hs
/-- All staffings are none exactly if nothing is valid: what the reference's list says. -/
theorem allL_nil_of {P : Pr} (h : ∀ s, ValidB P s = false) (n : Nat) (L : List (List Int)) : L.filter (ValidB P) = [] := by
  rw [List.filter_eq_nil_iff]
  intro s _
  rw [h s]
  simp
end Go.Proofs.YtcnofhlgiffkjaaGreatDoor
/- A problem that stands for a Raw is small. -/
namespace Go.Proofs.YtcnofhlgiffkjaaGreatDoor
open Go.RowKit
set_option linter.unusedVariables false
set_option linter.unusedSimpArgs false

structure FewP (P : Pr) : Prop where
  e0 : 0 < P.elig.length
  e1 : P.elig.length ≤ 5
  d1 : P.dif.length ≤ 4
  s1 : P.sam.length ≤ 4
  m1 : P.mst.length ≤ 3
  f1 : P.fix.length = P.elig.length
theorem mkP_few (R : Rw) : FewP (mkP R) := by
  refine ⟨?_, ?_, ?_, ?_, ?_, ?_⟩
  · simp [mkP, rn]; omega
  · simp [mkP, rn]; omega
  · exact Nat.le_trans (List.length_filterMap_le _ _) (by simp; omega)
  · exact Nat.le_trans (List.length_filterMap_le _ _) (by simp; omega)
  · exact Nat.le_trans (List.length_filterMap_le _ _) (by simp; omega)
  · simp [mkP]
end Go.Proofs.YtcnofhlgiffkjaaGreatDoor
/- Plain: the problem that stands for a Raw has no error; a single Hall node. -/
namespace Go.Proofs.YtcnofhlgiffkjaaGreatDoor
open Go.RowKit
set_option linter.unusedVariables false
set_option linter.unusedSimpArgs false

theorem chkPairs_zero {n : Nat} : ∀ {l : List (Int × Int)}, (∀ x ∈ l, 0 ≤ x.1 ∧ x.1 < n ∧ 0 ≤ x.2 ∧ x.2 < n ∧ x.1 ≠ x.2) → chkPairs n l = 0
  | [], _ => rfl
  | (a, b) :: l, h => by
    have h1 := h (a, b) (by simp)
    simp only at h1
    unfold chkPairs
    rw [if_neg (by omega), if_neg (by omega)]
    exact chkPairs_zero fun x hx => h x (by simp [hx])
theorem fitL_ok {n : Nat} (hn : 0 < n) (l : List (UInt8 × UInt8)) : ∀ x ∈ fitL n l, 0 ≤ x.1 ∧ x.1 < n ∧ 0 ≤ x.2 ∧ x.2 < n ∧ x.1 ≠ x.2 := by
  intro x hx
  obtain ⟨y, _, hy⟩ := List.mem_filterMap.1 hx
  unfold fit1 at hy
  split at hy
  · cases hy
  · rename_i hne
    injection hy with hy
    subst hy
    have h1 := Nat.mod_lt y.1.toNat hn
    have h2 := Nat.mod_lt y.2.toNat hn
    simp only
    omega
theorem chkP_mkP (R : Rw) : chkP (mkP R) = 0 := by
  have f := mkP_few R
  have hr : 0 < rn R := by unfold rn; omega
  have hr5 : rn R ≤ 5 := by unfold rn; omega
  have hl : (mkP R).elig.length = rn R := by simp [mkP]
  have e1 : (mkP R).elig.any eligBad = false := by
    refine Bool.eq_false_iff.2 fun h => ?_
    obtain ⟨M, hM, hb⟩ := List.any_eq_true.1 h
    obtain ⟨k, _, rfl⟩ := List.mem_map.1 (show M ∈ (List.range (rn R)).map (mkE R) from hM)
    have hlt : mkE R k < 32 := by unfold mkE; omega
    rw [eligBad_small (by omega)] at hb
    simp only [decide_eq_true_eq] at hb
    unfold mkE at hb
    omega
  have e2 : (mkP R).fix.any fixBad = false := by
    refine Bool.eq_false_iff.2 fun h => ?_
    obtain ⟨u, hu, hb⟩ := List.any_eq_true.1 h
    obtain ⟨k, _, rfl⟩ := List.mem_map.1 (show u ∈ (List.range (rn R)).map (mkF R) from hu)
    unfold fixBad mkF at hb
    simp only [decide_eq_true_eq] at hb
    split at hb <;> omega
  have e3 : chkPairs (rn R) (mkP R).dif = 0 := chkPairs_zero (fitL_ok hr _)
  have e4 : chkPairs (rn R) (mkP R).sam = 0 := chkPairs_zero (fitL_ok hr _)
  have e5 : (mkP R).mst.any (mstBad (rn R)) = false := by
    refine Bool.eq_false_iff.2 fun h => ?_
    obtain ⟨x, hx, hb⟩ := List.any_eq_true.1 h
    obtain ⟨y, _, hy⟩ := List.mem_filterMap.1 (show x ∈ (R.mst.take 3).filterMap (mk1 (rn R)) from hx)
    unfold mk1 at hy
    split at hy
    · cases hy
    · rename_i hne
      injection hy with hy
      subst hy
      rw [mstBad_small] at hb
      simp only [Bool.or_eq_true, decide_eq_true_eq] at hb
      have h1 : y.2.toNat % 2 ^ rn R < 2 ^ rn R := Nat.mod_lt _ (Nat.two_pow_pos _)
      have h2 : y.2.toNat % 2 ^ rn R / 2 ^ rn R = 0 := Nat.div_eq_of_lt h1
      rw [h2] at hb
      omega
  unfold chkP
  rw [hl, if_neg (by omega), if_neg (by have := f.d1; have := f.s1; have := f.m1; omega), if_neg (by have := f.f1; rw [hl] at this; omega), if_neg (by rw [e1]; simp), if_neg (by rw [e2]; simp), if_neg (by rw [e3]; simp), if_neg (by rw [e4]; simp), if_neg (by rw [e5]; simp)]
theorem chkR_hall {P : Pr} (h : chkP P = 0) (steps : List Int) : chkR P [⟨3, 0, [], steps⟩] = if hallB P steps P.fix then (1, 0) else (5, 0) := by
  have ht : treeR [⟨3, 0, [], steps⟩] = (0, true) := by
    unfold treeR
    have hf : (List.range [(⟨3, 0, [], steps⟩ : Nd)].length).find? (formAt [⟨3, 0, [], steps⟩]) = none := by
      simp [formAt, formB]
    have hp : (List.range [(⟨3, 0, [], steps⟩ : Nd)].length).find? (parAt [⟨3, 0, [], steps⟩]) = none := by
      simp [parAt, kids, cntC]
    rw [hf, hp]
    simp
  unfold chkR
  rw [if_neg (by simpa using h), ht, if_neg (by simp)]
  rfl
end Go.Proofs.YtcnofhlgiffkjaaGreatDoor
/- Plain: the reference's Check in the words of the program's. -/
namespace Go.Proofs.YtcnofhlgiffkjaaGreatDoor
open Go.RowKit
set_option linter.unusedVariables false
set_option linter.unusedSimpArgs false

theorem form_kind {i n : Int} {x : Nd} (h : formB i n x = true) : x.kind = 1 ∨ x.kind = 2 ∨ x.kind = 3 := by
  unfold formB at h
  by_cases h1 : x.kind = 1
  · exact .inl h1
  · by_cases h2 : x.kind = 2
    · exact .inr (.inl h2)
    · by_cases h3 : x.kind = 3
      · exact .inr (.inr h3)
      · rw [if_neg h1, if_neg h2, if_neg h3] at h; cases h
theorem proper_of {P : Pr} {st : List Int} (hc : chkP P = 0) (hl : st.length = P.elig.length) (hu : ∀ u ∈ st, 0 ≤ u ∧ u ≤ 256) : properB P st = true := by
  unfold properB
  simp only [Bool.and_eq_true, decide_eq_true_eq, Bool.not_eq_true']
  refine ⟨⟨hc, hl⟩, Bool.eq_false_iff.2 fun hh => ?_⟩
  obtain ⟨u, hm, hb⟩ := List.any_eq_true.1 hh
  have := hu u hm
  unfold fixBad at hb
  simp only [decide_eq_true_eq] at hb
  omega
/-- One round of the walk, by the claim. -/
theorem claim_walk {P : Pr} {l : List Nd} {k : Nat} {x : Nd} {st : List Int} {sts : List (List Int)} (hx : l[k]? = some x) (hst : sts[k]? = some st) (hf : x.kind = 1 ∨ x.kind = 2 ∨ x.kind = 3) (hp : properB P st = true) :
    (claimR P x st ≠ 1 → walkN P (l.drop k) k sts = ((claimR P x st).toNat, (k : Int)) ∧ 0 ≤ claimR P x st) ∧
    (claimR P x st = 1 → x.kind ≠ 1 → walkN P (l.drop k) k sts = walkN P (l.drop (k + 1)) (k + 1) sts) ∧
    (claimR P x st = 1 → x.kind = 1 → branchB P x st = true ∧ walkN P (l.drop k) k sts = walkN P (l.drop (k + 1)) (k + 1) (fillS st x.step.toNat sts (x.ch.zip (memZ (eligA P x.step))))) := by
  have hb : BrokenB P st = brk P st := by unfold BrokenB; rw [hp]; rfl
  rw [walkN_drop P hx sts, hst, Option.getD_some]
  unfold claimR
  rw [hb]
  by_cases h1 : x.kind = 1
  · simp only [if_pos h1]
    cases branchB P x st <;> simp [h1]
  · simp only [if_neg h1]
    by_cases h2 : x.kind = 2
    · simp only [if_pos h2]
      cases brk P st <;> simp [h1]
    · have h3 : x.kind = 3 := by omega
      simp only [if_neg h2, if_pos h3]
      cases hallB P x.st st <;> simp [h1]
theorem fillS_keep {st : List Int} {z : Nat} {sts : List (List Int)} {ch us : List Int} {k n : Nat} (hc : ∀ c ∈ ch, (k : Int) < c ∧ c < (n : Int)) (j : Nat) : (fillS st z sts ((ch.zip us).take j))[k]? = sts[k]? :=
  fillS_other st z _ _ fun cu hcu => by
    have h1 := (List.of_mem_zip (List.mem_of_mem_take hcu)).1
    have := hc _ h1
    omega
theorem formAt_get {l : List Nd} {k : Nat} {x : Nd} (hx : l[k]? = some x) : formAt l k = !formB k l.length x := by
  unfold formAt; rw [hx]
theorem tree_form {l : List Nd} {k : Nat} {x : Nd} (hx : l[k]? = some x) (h0 : ∀ j, j < k → formAt l j = false) (hf : formB k l.length x = false) : treeR l = ((k : Int), false) := by
  unfold treeR
  rw [find_range (p := formAt l) (List.getElem?_eq_some_iff.1 hx).1 (by rw [formAt_get hx, hf]; rfl) h0]
theorem tree_par {l : List Nd} {k : Nat} (hk : k < l.length) (h0 : ∀ j, j < l.length → formAt l j = false) (h1 : ∀ j, j < k → parAt l j = false) (hp : parAt l k = true) : treeR l = ((k : Int), false) := by
  unfold treeR
  rw [find_range_none h0]
  simp only []
  rw [find_range (p := parAt l) hk hp h1]
theorem tree_all {l : List Nd} (hl : 0 < l.length) (h0 : ∀ j, j < l.length → formAt l j = false) (h1 : ∀ j, j < l.length → parAt l j = false) : treeR l = (0, true) := by
  unfold treeR
  rw [find_range_none h0]
  simp only []
  rw [find_range_none h1]
  simp [hl]
theorem kid_of_form {l : List Nd} (h0 : ∀ j, j < l.length → formAt l j = false) {i : Nat} {x : Nd} (hx : l[i]? = some x) : formB i l.length x = true := by
  have := h0 i (List.getElem?_eq_some_iff.1 hx).1
  rw [formAt_get hx] at this
  simpa using this
theorem memZ_64 {P : Pr} {m M : Nat} (hM : P.elig[m]? = some M) (hb : M < 2 ^ 64) : memZ (eligA P (m : Int)) = (memT 64 M).map fun x : Nat => (x : Int) := by
  have : eligA P (m : Int) = M := by
    show (P.elig[(m : Int).toNat]?).getD 0 = M
    rw [Int.toNat_natCast, hM]; rfl
  rw [this]
  unfold memZ
  rw [memM_memT hb]
end Go.Proofs.YtcnofhlgiffkjaaGreatDoor
/- Plain: the cases of a problem refute it exactly if it has no solution. -/
namespace Go.Proofs.YtcnofhlgiffkjaaGreatDoor
open Go.RowKit
set_option linter.unusedVariables false
set_option linter.unusedSimpArgs false

/-- A finished node of the cases. -/
inductive NodeOk (P : Pr) (sts : List (List Int)) (i : Nat) (st : List Int) : Nd → Prop where
  | clash (h : brk P st = true ∨ ∀ k, k < st.length → atI st k ≠ 0) : NodeOk P sts i st ⟨2, 0, [], []⟩
  | hall (steps : List Int) (h : hallB P steps st = true) : NodeOk P sts i st ⟨3, 0, [], steps⟩
  | branch (z c0 : Nat) (hz : z < st.length) (h0 : atI st z = 0) (hc : i < c0) (hk : ∀ (q : Nat) (u : Int), (memZ (eligA P z))[q]? = some u → sts[c0 + q]? = some (st.set z u)) :
      NodeOk P sts i st ⟨1, z, (List.range (memZ (eligA P z)).length).map (fun q => ((c0 + q : Nat) : Int)), []⟩
/-- The cases of a problem. -/
structure RefOk (P : Pr) (l : List Nd) (sts : List (List Int)) : Prop where
  len : sts.length = l.length
  root : sts[0]? = some P.fix
  node : ∀ (i : Nat) (x : Nd), l[i]? = some x → ∃ st, sts[i]? = some st ∧ NodeOk P sts i st x
  kids : (kids l).Perm ((List.range (l.length - 1)).map fun q => ((q + 1 : Nat) : Int))
theorem RefOk.pos {P : Pr} {l : List Nd} {sts : List (List Int)} (h : RefOk P l sts) : 0 < l.length := by
  rw [← h.len]
  exact (List.getElem?_eq_some_iff.1 h.root).1
theorem cntC_perm {a b : List Int} (h : a.Perm b) (j : Nat) : cntC a j = cntC b j := by
  unfold cntC; exact (h.filter _).length_eq
theorem cntC_range (n j : Nat) : cntC ((List.range n).map fun q => ((q + 1 : Nat) : Int)) j = if 1 ≤ j ∧ j ≤ n then 1 else 0 := by
  induction n with
  | zero => simp [cntC]; omega
  | succ n ih =>
    rw [List.range_succ, List.map_append, cntC_app, ih]
    have : cntC ([n].map fun q => ((q + 1 : Nat) : Int)) j = if j = n + 1 then 1 else 0 := by
      unfold cntC
      by_cases h : j = n + 1
      · subst h; simp
      · rw [if_neg h]
        simp only [List.map_cons, List.map_nil, List.filter]
        rw [decide_eq_false (by omega)]
        rfl
    rw [this]
    by_cases h1 : 1 ≤ j ∧ j ≤ n
    · rw [if_pos h1, if_neg (by omega), if_pos (by omega)]
    · rw [if_neg h1]
      by_cases h2 : j = n + 1
      · rw [if_pos h2, if_pos (by omega)]
      · rw [if_neg h2, if_neg (by omega)]
theorem RefOk.child {P : Pr} {l : List Nd} {sts : List (List Int)} (h : RefOk P l sts) {i : Nat} {x : Nd} (hx : l[i]? = some x) {c : Int} (hc : c ∈ x.ch) : 1 ≤ c ∧ c < l.length := by
  have h1 : c ∈ Go.Proofs.YtcnofhlgiffkjaaGreatDoor.kids l := by
    rw [kids_split hx]
    exact List.mem_append_right _ (List.mem_append_left _ hc)
  rw [h.kids.mem_iff] at h1
  obtain ⟨q, hq, rfl⟩ := List.mem_map.1 h1
  have := List.mem_range.1 hq
  omega
theorem RefOk.form {P : Pr} {l : List Nd} {sts : List (List Int)} (h : RefOk P l sts) {i : Nat} {x : Nd} (hx : l[i]? = some x) : formB i l.length x = true := by
  obtain ⟨st, _, hN⟩ := h.node i x hx
  cases hN with
  | clash _ => simp [formB]
  | hall steps _ => simp [formB]
  | branch z c0 hz h0 hc hk =>
    unfold formB
    simp only [if_true, List.length_nil, decide_true, Bool.true_and, Bool.not_eq_true']
    refine Bool.eq_false_iff.2 fun hb => ?_
    obtain ⟨c, hm, hb⟩ := List.any_eq_true.1 hb
    have h1 := h.child hx hm
    obtain ⟨q, _, rfl⟩ := List.mem_map.1 hm
    unfold chBad at hb
    simp only [Bool.or_eq_true, decide_eq_true_eq] at hb
    omega
theorem RefOk.tree {P : Pr} {l : List Nd} {sts : List (List Int)} (h : RefOk P l sts) : treeR l = (0, true) := by
  have hp := h.pos
  unfold treeR
  rw [find_range_none (p := formAt l) fun j hj => by
    obtain ⟨x, hx⟩ : ∃ x, l[j]? = some x := ⟨_, List.getElem?_eq_getElem hj⟩
    unfold formAt
    rw [hx]
    simp [h.form hx]]
  rw [find_range_none (p := parAt l) fun j hj => by
    unfold parAt
    rw [cntC_perm h.kids, cntC_range]
    by_cases h0 : j = 0
    · subst h0; simp
    · rw [if_neg h0, if_pos (by omega)]; simp]
  simp [hp]
/-- A list of users that has, so far, the fixed ones, and users from the sets. -/
structure Part (P : Pr) (st : List Int) : Prop where
  len : st.length = P.elig.length
  rng : ∀ u ∈ st, 0 ≤ u ∧ u ≤ 256
  fix : ∀ k, atI P.fix k = 0 ∨ atI P.fix k = atI st k
theorem Part.set {P : Pr} (ok : PrOk P) {st : List Int} (h : Part P st) {z : Nat} (hz : z < st.length) (h0 : atI st z = 0) {u : Int} (hu : u ∈ memZ (eligA P z)) : Part P (st.set z u) := by
  have hr := memZ_user ok hu
  refine ⟨by rw [List.length_set]; exact h.len, fun v hv => ?_, fun k => ?_⟩
  · rcases List.mem_or_eq_of_mem_set hv with h1 | rfl
    · exact h.rng v h1
    · omega
  · rw [atI_set _ _ _ _ hz]
    by_cases hk : k = z
    · rw [if_pos hk, hk]
      left
      rcases h.fix z with h1 | h1
      · exact h1
      · rw [h1, h0]
    · rw [if_neg hk]; exact h.fix k
theorem Part.valid {P : Pr} (hc : chkP P = 0) {st : List Int} (h : Part P st) (hf : ∀ k, k < st.length → atI st k ≠ 0) (hb : brk P st = false) : ValidB P st = true := by
  unfold ValidB
  have h1 : properB P st = true := by
    unfold properB
    simp only [Bool.and_eq_true, decide_eq_true_eq, Bool.not_eq_true']
    refine ⟨⟨hc, h.len⟩, Bool.eq_false_iff.2 fun hh => ?_⟩
    obtain ⟨u, hu, hb⟩ := List.any_eq_true.1 hh
    have := h.rng u hu
    unfold fixBad at hb
    simp only [decide_eq_true_eq] at hb
    omega
  have h2 : st.contains 0 = false := Bool.eq_false_iff.2 fun hh => by
    obtain ⟨k, hk⟩ := List.mem_iff_getElem?.1 (List.contains_iff_mem.1 hh)
    have := hf k (List.getElem?_eq_some_iff.1 hk).1
    unfold atI at this
    rw [hk] at this
    exact this rfl
  rw [h1, h2, hb, all_range_of fun k hk => by
    unfold fixOk
    have := h.fix k
    simpa using this]
  rfl
end Go.Proofs.YtcnofhlgiffkjaaGreatDoor
/- Plain: the cases of a problem refute it exactly if it has no solution: the walk over them. -/
namespace Go.Proofs.YtcnofhlgiffkjaaGreatDoor
open Go.RowKit
set_option linter.unusedVariables false
set_option linter.unusedSimpArgs false

theorem RefOk.part {P : Pr} {l : List Nd} {sts : List (List Int)} (h : RefOk P l sts) (ok : PrOk P) : ∀ (j : Nat) (st : List Int), sts[j]? = some st → Part P st := by
  intro j
  induction j using Nat.strongRecOn with
  | ind j ih =>
    intro st hst
    by_cases h0 : j = 0
    · subst h0
      rw [h.root] at hst
      injection hst with hst
      subst hst
      exact ⟨ok.fixl, ok.fixu, fun k => .inr rfl⟩
    · have hj : j < l.length := by rw [← h.len]; exact (List.getElem?_eq_some_iff.1 hst).1
      have hm : (j : Int) ∈ Go.Proofs.YtcnofhlgiffkjaaGreatDoor.kids l := by
        rw [h.kids.mem_iff]
        exact List.mem_map.2 ⟨j - 1, List.mem_range.2 (by omega), by omega⟩
      unfold Go.Proofs.YtcnofhlgiffkjaaGreatDoor.kids at hm
      obtain ⟨x, hx, hc⟩ := List.mem_flatMap.1 hm
      obtain ⟨i, hi⟩ := List.mem_iff_getElem?.1 hx
      obtain ⟨st0, hs0, hN⟩ := h.node i x hi
      cases hN with
      | clash _ => cases hc
      | hall _ _ => cases hc
      | branch z c0 hz h0' hc0 hk =>
        obtain ⟨q, hq, e⟩ := List.mem_map.1 hc
        have hql := List.mem_range.1 hq
        obtain ⟨u, hu⟩ : ∃ u, (memZ (eligA P z))[q]? = some u := ⟨_, List.getElem?_eq_getElem hql⟩
        have h1 := hk q u hu
        have e' : c0 + q = j := by omega
        rw [e', hst] at h1
        injection h1 with h1
        subst h1
        exact (ih i (by omega) st0 hs0).set ok hz h0' (List.mem_of_getElem? hu)
theorem walkN_ref {P : Pr} {l : List Nd} {sts : List (List Int)} (h : RefOk P l sts) (hc : chkP P = 0) : ∀ (m k : Nat) (s' : List (List Int)), l.length - k = m → s'.length = l.length →
    (∀ (j : Nat) (st : List Int), (j = 0 ∨ (j : Int) ∈ kids (l.take k)) → sts[j]? = some st → s'[j]? = some st) →
    walkN P (l.drop k) k s' = (1, 0) ∨ ((walkN P (l.drop k) k s').1 = 4 ∧ ∃ st, ValidB P st = true) := by
  have ht : (treeR l).2 = true := by rw [h.tree]
  have T := tree_ok ht
  have ok := chkP_ok hc
  intro m
  induction m with
  | zero =>
    intro k s' hm hs ha
    left
    rw [List.drop_eq_nil_of_le (by omega)]
    rfl
  | succ m ih =>
    intro k s' hm hs ha
    obtain ⟨x, hx⟩ : ∃ x, l[k]? = some x := ⟨_, List.getElem?_eq_getElem (by omega)⟩
    obtain ⟨st, hst, hN⟩ := h.node k x hx
    have hreach : k = 0 ∨ (k : Int) ∈ kids (l.take k) := by
      by_cases h0 : k = 0
      · exact .inl h0
      · exact .inr (T.par k (by omega) h0)
    have hsk := ha k st hreach hst
    have hsnoc := kids_snoc hx
    have hpart := h.part ok k st hst
    rw [walkN_drop P hx, hsk, Option.getD_some]
    cases hN with
    | clash hcl =>
      rw [if_neg (by decide), if_pos rfl]
      cases hb : brk P st
      · right
        rw [hb] at hcl
        refine ⟨rfl, st, hpart.valid hc (hcl.resolve_left (by simp)) hb⟩
      · simp only [if_true]
        refine ih (k + 1) s' (by omega) hs fun j st' hj hs2 => ha j st' ?_ hs2
        rw [hsnoc, List.append_nil] at hj
        exact hj
    | hall steps hh =>
      rw [if_neg (by simp), if_neg (by simp)]
      simp only [hh, if_true]
      refine ih (k + 1) s' (by omega) hs fun j st' hj hs2 => ha j st' ?_ hs2
      rw [hsnoc, List.append_nil] at hj
      exact hj
    | branch z c0 hz h0 hc0 hk =>
      rw [if_pos rfl]
      have hb : branchB P ⟨1, z, (List.range (memZ (eligA P z)).length).map (fun q => ((c0 + q : Nat) : Int)), []⟩ st = true := by
        unfold branchB
        simp only [List.length_map, List.length_range, Bool.and_eq_true, decide_eq_true_eq]
        refine ⟨⟨⟨by omega, by omega⟩, ?_⟩, trivial⟩
        unfold atZ
        rw [Int.toNat_natCast]
        exact h0
      rw [hb]
      simp only [if_true, Int.toNat_natCast]
      refine ih (k + 1) _ (by omega) (by rw [fillS_len]; exact hs) fun j st' hj hs2 => ?_
      rw [hsnoc] at hj
      by_cases hmem : (j : Int) ∈ (List.range (memZ (eligA P z)).length).map (fun q => ((c0 + q : Nat) : Int))
      · obtain ⟨q, hq, e⟩ := List.mem_map.1 hmem
        have hql := List.mem_range.1 hq
        have ej : j = c0 + q := by omega
        obtain ⟨u, hu⟩ : ∃ u, (memZ (eligA P z))[q]? = some u := ⟨_, List.getElem?_eq_getElem hql⟩
        have h1 := hk q u hu
        rw [← ej, hs2] at h1
        injection h1 with h1
        subst h1
        have hjl : j < l.length := by rw [← h.len]; exact (List.getElem?_eq_some_iff.1 hs2).1
        obtain ⟨st2, hst2⟩ : ∃ st2, (fillS st z s' (((List.range (memZ (eligA P z)).length).map (fun q => ((c0 + q : Nat) : Int))).zip (memZ (eligA P z))))[j]? = some st2 := ⟨_, List.getElem?_eq_getElem (by rw [fillS_len, hs]; exact hjl)⟩
        rw [hst2]
        have hcq : ((List.range (memZ (eligA P z)).length).map (fun q => ((c0 + q : Nat) : Int)))[q]? = some (j : Int) := by
          rw [List.getElem?_map, List.getElem?_range hql, ej]; rfl
        rcases fillS_get st z _ s' j st2 hst2 with ⟨_, f2⟩ | ⟨cu, f1, f2, rfl⟩
        · exact absurd (by simp) (f2 ((j : Int), u) (List.mem_of_getElem? (List.getElem?_zip_eq_some.2 ⟨hcq, hu⟩)))
        · obtain ⟨q', hq'⟩ := List.mem_iff_getElem?.1 f1
          obtain ⟨g1, g2⟩ := List.getElem?_zip_eq_some.1 hq'
          have hq'l := (List.getElem?_eq_some_iff.1 g2).1
          rw [List.getElem?_map, List.getElem?_range hq'l] at g1
          injection g1 with g1
          have g3 : ((c0 + q' : Nat) : Int) = cu.1 := g1
          have e2 : q' = q := by omega
          subst e2
          rw [hu] at g2
          injection g2 with g2
          rw [g2]
      · have hj2 : j = 0 ∨ (j : Int) ∈ kids (l.take k) := by
          rcases hj with h1 | h1
          · exact .inl h1
          · rcases List.mem_append.1 h1 with h2 | h2
            · exact .inr h2
            · exact absurd h2 hmem
        rw [fillS_other]
        · exact ha j st' hj2 hs2
        · intro cu hcu e
          have hm := (List.of_mem_zip hcu).1
          obtain ⟨q, _, e2⟩ := List.mem_map.1 hm
          refine hmem ?_
          have : cu.1 = (j : Int) := by omega
          rw [← this]
          exact hm
/-- The cases of a problem refute it exactly if it has no solution. -/
theorem chkR_ref {P : Pr} {l : List Nd} {sts : List (List Int)} (h : RefOk P l sts) (hc : chkP P = 0) : ((∀ s, ValidB P s = false) → chkR P l = (1, 0)) ∧ ((∃ s, ValidB P s = true) → (chkR P l).1 = 4) := by
  have hp := h.pos
  have e : chkR P l = walkN P l 0 ((List.replicate l.length []).set 0 P.fix) := by
    unfold chkR
    rw [if_neg (by simpa using hc), h.tree, if_neg (by simp)]
  have hw := walkN_ref h hc l.length 0 ((List.replicate l.length []).set 0 P.fix) (by omega) (by simp) fun j st hj hst => by
    rcases hj with h1 | h1
    · subst h1
      rw [h.root] at hst
      rw [List.getElem?_set_self (by simpa using hp)]
      exact hst
    · simp [kids] at h1
  rw [List.drop_zero, ← e] at hw
  refine ⟨fun hn => ?_, fun ⟨s, hs⟩ => ?_⟩
  · rcases hw with h1 | ⟨_, s, hs⟩
    · exact h1
    · rw [hn s] at hs; cases hs
  · rcases hw with h1 | ⟨h1, _⟩
    · have := chkR_sound (P := P) (l := l) (by rw [h1]) s
      rw [hs] at this
      cases this
    · exact h1
end Go.Proofs.YtcnofhlgiffkjaaGreatDoor
/- Plain: the loop of Refute keeps what its nodes must show. -/
namespace Go.Proofs.YtcnofhlgiffkjaaGreatDoor
open Go.RowKit
set_option linter.unusedVariables false
set_option linter.unusedSimpArgs false

/-- The open steps. -/
def openN : List Int → Nat
  | [] => 0
  | u :: l => (if u = 0 then 1 else 0) + openN l
theorem openN_set : ∀ {st : List Int} {z : Nat} {u : Int}, z < st.length → atI st z = 0 → u ≠ 0 → openN st = openN (st.set z u) + 1
  | [], z, u, hz, _, _ => by simp at hz
  | v :: l, 0, u, _, h0, hu => by
    have : v = 0 := h0
    subst this
    simp [openN, hu]; omega
  | v :: l, z + 1, u, hz, h0, hu => by
    have h1 := openN_set (st := l) (z := z) (u := u) (by simpa using hz) h0 hu
    simp only [List.set_cons_succ, openN]
    omega
theorem openN_le : ∀ st : List Int, openN st ≤ st.length
  | [] => Nat.le_refl _
  | v :: l => by
    have := openN_le l
    simp only [openN, List.length_cons]
    split <;> omega
/-- What is still to be done. -/
def pot : List (List Int) → Nat
  | [] => 0
  | st :: l => 6 ^ openN st + pot l
theorem pot_app : ∀ a b : List (List Int), pot (a ++ b) = pot a + pot b
  | [], b => by simp [pot]
  | x :: a, b => by
    have := pot_app a b
    simp only [List.cons_append, pot, this]
    omega
theorem pot_len : ∀ a : List (List Int), a.length ≤ pot a
  | [] => Nat.le_refl _
  | x :: a => by
    have := pot_len a
    have h : 0 < 6 ^ openN x := Nat.pow_pos (by omega)
    simp only [pot, List.length_cons]
    omega
theorem pot_same {m : Nat} : ∀ {a : List (List Int)}, (∀ st ∈ a, openN st = m) → pot a = a.length * 6 ^ m
  | [], _ => by simp [pot]
  | x :: a, h => by
    have h1 := pot_same (m := m) (a := a) fun st hs => h st (by simp [hs])
    have h2 := h x (by simp)
    simp only [pot, List.length_cons, h1, h2]
    rw [Nat.add_mul]
    omega
/-- A node that is not done yet. -/
def nd0 : Nd := ⟨0, 0, [], []⟩
/-- The loop of Refute at node i. -/
structure RefIn (P : Pr) (l : List Nd) (sts : List (List Int)) (i : Nat) : Prop where
  len : sts.length = l.length
  le : i ≤ l.length
  pos : 0 < l.length
  root : sts[0]? = some P.fix
  node : ∀ (j : Nat) (x : Nd), j < i → l[j]? = some x → ∃ st, sts[j]? = some st ∧ NodeOk P sts j st x
  kids : kids (l.take i) = (List.range (l.length - 1)).map fun q => ((q + 1 : Nat) : Int)
  todo : ∀ (j : Nat), i ≤ j → j < l.length → l[j]? = some nd0
  part : ∀ (j : Nat) (st : List Int), sts[j]? = some st → Part P st
  pot : i + Go.Proofs.YtcnofhlgiffkjaaGreatDoor.pot (sts.drop i) ≤ 10000
theorem RefIn.small {P : Pr} {l : List Nd} {sts : List (List Int)} {i : Nat} (h : RefIn P l sts i) : l.length ≤ 10000 := by
  have h1 := h.pot
  have h2 := pot_len (sts.drop i)
  rw [List.length_drop, h.len] at h2
  have := h.le
  omega
theorem RefIn.start {P : Pr} (ok : PrOk P) (h5 : P.elig.length ≤ 5) : RefIn P [nd0] [P.fix] 0 := by
  refine ⟨rfl, by simp, by simp, rfl, fun j x hj => by omega, rfl, fun j h1 h2 => ?_, fun j st hj => ?_, ?_⟩
  · obtain rfl : j = 0 := by simp at h2; omega
    rfl
  · obtain rfl : j = 0 := by have := (List.getElem?_eq_some_iff.1 hj).1; simp at this; omega
    injection hj with hj
    subst hj
    exact ⟨ok.fixl, ok.fixu, fun k => .inr rfl⟩
  · have h1 := openN_le P.fix
    rw [ok.fixl] at h1
    have h2 : 6 ^ openN P.fix ≤ 6 ^ 5 := Nat.pow_le_pow_right (by omega) (by omega)
    simp only [List.drop_zero, Go.Proofs.YtcnofhlgiffkjaaGreatDoor.pot]
    omega
theorem RefIn.end_ {P : Pr} {l : List Nd} {sts : List (List Int)} (h : RefIn P l sts l.length) : RefOk P l sts :=
  ⟨h.len, h.root, fun i x hx => h.node i x (List.getElem?_eq_some_iff.1 hx).1 hx, by
    have := h.kids
    rw [List.take_length] at this
    rw [this]⟩
theorem NodeOk.more {P : Pr} {sts sts' : List (List Int)} {i : Nat} {st : List Int} {x : Nd} (h : NodeOk P sts i st x) : NodeOk P (sts ++ sts') i st x := by
  cases h with
  | clash h => exact .clash h
  | hall s h => exact .hall s h
  | branch z c0 hz h0 hc hk =>
    refine .branch z c0 hz h0 hc fun q u hu => ?_
    have h1 := hk q u hu
    rw [List.getElem?_append_left (List.getElem?_eq_some_iff.1 h1).1]
    exact h1
theorem kids_take_set {l : List Nd} {i : Nat} {x : Nd} (hi : i < l.length) : Go.Proofs.YtcnofhlgiffkjaaGreatDoor.kids ((l.set i x).take (i + 1)) = Go.Proofs.YtcnofhlgiffkjaaGreatDoor.kids (l.take i) ++ x.ch := by
  have h1 : (l.set i x)[i]? = some x := List.getElem?_set_self hi
  rw [kids_snoc h1]
  congr 2
  rw [List.take_set_of_le (Nat.le_refl _)]
theorem pot_drop {sts : List (List Int)} {i : Nat} {st : List Int} (h : sts[i]? = some st) : Go.Proofs.YtcnofhlgiffkjaaGreatDoor.pot (sts.drop i) = 6 ^ openN st + Go.Proofs.YtcnofhlgiffkjaaGreatDoor.pot (sts.drop (i + 1)) := by
  obtain ⟨hi, e⟩ := List.getElem?_eq_some_iff.1 h
  rw [List.drop_eq_getElem_cons hi, e]
  rfl
/-- A leaf. -/
theorem RefIn.leaf {P : Pr} {l : List Nd} {sts : List (List Int)} {i : Nat} {st : List Int} {x : Nd} (h : RefIn P l sts i) (hi : i < l.length) (hst : sts[i]? = some st) (hN : NodeOk P sts i st x) (hc : x.ch = []) : RefIn P (l.set i x) sts (i + 1) := by
  refine ⟨by rw [List.length_set]; exact h.len, by rw [List.length_set]; omega, by rw [List.length_set]; exact h.pos, h.root, fun j y hj hy => ?_, ?_, fun j h1 h2 => ?_, h.part, ?_⟩
  · by_cases e : j = i
    · subst e
      rw [List.getElem?_set_self hi] at hy
      injection hy with hy
      subst hy
      exact ⟨st, hst, hN⟩
    · rw [List.getElem?_set_ne (by omega)] at hy
      exact h.node j y (by omega) hy
  · rw [kids_take_set hi, hc, List.append_nil, List.length_set]
    exact h.kids
  · rw [List.getElem?_set_ne (by omega)]
    exact h.todo j (by omega) (by simpa using h2)
  · have h1 := h.pot
    rw [pot_drop hst] at h1
    have h2 : 0 < 6 ^ openN st := Nat.pow_pos (by omega)
    omega
theorem range_app (a b : Nat) : (List.range a).map (fun q => ((q + 1 : Nat) : Int)) ++ (List.range b).map (fun q => ((a + 1 + q : Nat) : Int)) = (List.range (a + b)).map (fun q => ((q + 1 : Nat) : Int)) := by
  induction b with
  | zero => simp
  | succ b ih =>
    rw [← Nat.add_assoc, List.range_succ, List.range_succ (n := a + b), List.map_append, List.map_append, ← List.append_assoc, ih]
    congr 1
    simp only [List.map_cons, List.map_nil]
    congr 2
    omega
/-- A branch. -/
theorem RefIn.branch {P : Pr} (ok : PrOk P) {l : List Nd} {sts : List (List Int)} {i : Nat} {st : List Int} {z : Nat} (h : RefIn P l sts i) (hi : i < l.length) (hst : sts[i]? = some st) (hz : z < st.length) (h0 : atI st z = 0)
    (hm : (memZ (eligA P z)).length ≤ 5) :
    RefIn P ((l ++ List.replicate (memZ (eligA P z)).length nd0).set i ⟨1, z, (List.range (memZ (eligA P z)).length).map (fun q => ((l.length + q : Nat) : Int)), []⟩) (sts ++ (memZ (eligA P z)).map (st.set z)) (i + 1) := by
  have hp := h.pos
  have hil : i < (l ++ List.replicate (memZ (eligA P z)).length nd0).length := by simp; omega
  have hN : NodeOk P (sts ++ (memZ (eligA P z)).map (st.set z)) i st ⟨1, z, (List.range (memZ (eligA P z)).length).map (fun q => ((l.length + q : Nat) : Int)), []⟩ := by
    refine .branch z l.length hz h0 hi fun q u hu => ?_
    rw [← h.len, List.getElem?_append_right (by omega), Nat.add_sub_cancel_left, List.getElem?_map, hu]; rfl
  refine ⟨by simp [h.len], by simp; omega, by simp; omega, ?_, fun j y hj hy => ?_, ?_, fun j h1 h2 => ?_, fun j s hj => ?_, ?_⟩
  · rw [List.getElem?_append_left (by rw [h.len]; exact hp)]; exact h.root
  · by_cases e : j = i
    · subst e
      rw [List.getElem?_set_self hil] at hy
      injection hy with hy
      subst hy
      refine ⟨st, ?_, hN⟩
      rw [List.getElem?_append_left (List.getElem?_eq_some_iff.1 hst).1]
      exact hst
    · rw [List.getElem?_set_ne (by omega), List.getElem?_append_left (by omega)] at hy
      obtain ⟨s, hs, hn⟩ := h.node j y (by omega) hy
      refine ⟨s, ?_, hn.more⟩
      rw [List.getElem?_append_left (List.getElem?_eq_some_iff.1 hs).1]
      exact hs
  · rw [kids_take_set hil, List.take_append_of_le_length (by omega), h.kids]
    have e := range_app (l.length - 1) (memZ (eligA P z)).length
    rw [show l.length - 1 + 1 = l.length by omega] at e
    rw [e]
    congr 2
    simp
    omega
  · simp only [List.length_set, List.length_append, List.length_replicate] at h2
    rw [List.getElem?_set_ne (by omega)]
    by_cases hj : j < l.length
    · rw [List.getElem?_append_left hj]
      exact h.todo j (by omega) hj
    · rw [List.getElem?_append_right (by omega), List.getElem?_replicate, if_pos (by omega)]
  · by_cases hl : j < sts.length
    · rw [List.getElem?_append_left hl] at hj
      exact h.part j s hj
    · rw [List.getElem?_append_right (by omega), List.getElem?_map] at hj
      cases hu : (memZ (eligA P z))[j - sts.length]? with
      | none => rw [hu] at hj; cases hj
      | some u =>
        rw [hu] at hj
        injection hj with hj
        subst hj
        exact (h.part i st hst).set ok hz h0 (List.mem_of_getElem? hu)
  · have h1 := h.pot
    rw [pot_drop hst] at h1
    have hsi := (List.getElem?_eq_some_iff.1 hst).1
    rw [List.drop_append_of_le_length (by omega), pot_app]
    by_cases hnil : memZ (eligA P z) = []
    · rw [hnil]
      have h2 : 0 < 6 ^ openN st := Nat.pow_pos (by omega)
      simp only [List.map_nil, Go.Proofs.YtcnofhlgiffkjaaGreatDoor.pot]
      omega
    · obtain ⟨u0, hu0⟩ := List.exists_mem_of_ne_nil _ hnil
      have hu1 := memZ_user ok hu0
      have ho := openN_set (u := u0) hz h0 (by omega)
      have h2 := pot_same (m := openN (st.set z u0)) (a := (memZ (eligA P z)).map (st.set z)) fun s hs => by
        obtain ⟨u, hu, rfl⟩ := List.mem_map.1 hs
        have hu2 := memZ_user ok hu
        have := openN_set (u := u) hz h0 (by omega)
        omega
      rw [List.length_map] at h2
      have h3 : 0 < 6 ^ openN (st.set z u0) := Nat.pow_pos (by omega)
      have h4 : (memZ (eligA P z)).length * 6 ^ openN (st.set z u0) ≤ 5 * 6 ^ openN (st.set z u0) := Nat.mul_le_mul_right _ hm
      have h5 : 6 ^ openN st = 6 * 6 ^ openN (st.set z u0) := by rw [ho, Nat.pow_succ, Nat.mul_comm]
      omega
end Go.Proofs.YtcnofhlgiffkjaaGreatDoor
