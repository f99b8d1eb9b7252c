/- Plain: where a search meets no staffing its nodes are a refutation; what it meets are the valid lists. -/
import Derived.Test.YtfnhaoindehjdaaDoorStP
namespace Go.Proofs.YtfnhaoindehjdaaDoor
open Go.RowKit
set_option linter.unusedVariables false
set_option linter.unusedSimpArgs false

/-- The nodes of a search, of which those of T are still to be visited. -/
structure InT (P : Pr) (l : List Nd) (sts : List (List Int)) (T : Nat → Prop) : Prop where
  len : sts.length = l.length
  node : ∀ (i : Nat) (x : Nd), l[i]? = some x → ¬ T i → ∃ st, sts[i]? = some st ∧ NodeOk P sts i st x
  todo : ∀ i, T i → l[i]? = some nd0
  kids : (kids l).Perm ((List.range (l.length - 1)).map fun q => ((q + 1 : Nat) : Int))
  pos : 0 < l.length
theorem kids_set {l : List Nd} {i : Nat} {y x : Nd} (h : l[i]? = some y) (hy : y.ch = []) : (kids (l.set i x)).Perm (kids l ++ x.ch) := by
  have hi := (List.getElem?_eq_some_iff.1 h).1
  have h2 : (l.set i x)[i]? = some x := List.getElem?_set_self hi
  rw [kids_split h2, kids_split h, hy, List.nil_append, List.take_set_of_le (Nat.le_refl _), List.drop_set_of_lt (Nat.lt_succ_self _)]
  rw [List.append_assoc]
  exact List.Perm.append_left _ List.perm_append_comm
theorem InT.leaf {P : Pr} {l : List Nd} {sts : List (List Int)} {T : Nat → Prop} {i : Nat} {st : List Int} {x : Nd} (h : InT P l sts T) (hT : T i) (hst : sts[i]? = some st) (hN : NodeOk P sts i st x) (hc : x.ch = []) : InT P (l.set i x) sts (fun j => T j ∧ j ≠ i) := by
  have hi := (List.getElem?_eq_some_iff.1 (h.todo i hT)).1
  refine ⟨by rw [List.length_set]; exact h.len, fun j y hj hn => ?_, fun j hj => ?_, ?_, by rw [List.length_set]; exact h.pos⟩
  · by_cases e : j = i
    · subst e
      rw [List.getElem?_set_self hi] at hj
      injection hj with hj
      subst hj
      exact ⟨st, hst, hN⟩
    · rw [List.getElem?_set_ne (Ne.symm e)] at hj
      exact h.node j y hj fun hh => hn ⟨hh, e⟩
  · rw [List.getElem?_set_ne (Ne.symm hj.2)]
    exact h.todo j hj.1
  · refine (kids_set (h.todo i hT) rfl).trans ?_
    rw [hc, List.append_nil, List.length_set]
    exact h.kids
theorem kids_rep (l : List Nd) (n : Nat) : kids (l ++ List.replicate n nd0) = kids l := by
  unfold kids
  rw [List.flatMap_append]
  have : (List.replicate n nd0).flatMap (·.ch) = [] := by
    induction n with
    | zero => rfl
    | succ n ih => rw [List.replicate_succ, List.flatMap_cons, ih]; rfl
  rw [this, List.append_nil]
/-- A Branch: its node is done, its children are to be visited. -/
theorem InT.branch {P : Pr} {l : List Nd} {sts : List (List Int)} {T : Nat → Prop} {i z : Nat} {st : List Int} (h : InT P l sts T) (hT : T i) (hst : sts[i]? = some st) (hz : z < st.length) (h0 : atI st z = 0) :
    InT P ((l ++ List.replicate (memZ (eligA P z)).length nd0).set i ⟨1, z, kidsN l.length (memZ (eligA P z)).length, []⟩) (sts ++ (memZ (eligA P z)).map fun u => st.set z u)
      (fun j => (T j ∧ j ≠ i) ∨ (l.length ≤ j ∧ j < l.length + (memZ (eligA P z)).length)) := by
  have hi := (List.getElem?_eq_some_iff.1 (h.todo i hT)).1
  have hlt : ∀ j, T j → j < l.length := fun j hj => (List.getElem?_eq_some_iff.1 (h.todo j hj)).1
  have hli : (l ++ List.replicate (memZ (eligA P z)).length nd0)[i]? = some nd0 := by rw [List.getElem?_append_left hi]; exact h.todo i hT
  have hii := (List.getElem?_eq_some_iff.1 hli).1
  refine ⟨?_, fun j y hj hn => ?_, fun j hj => ?_, ?_, ?_⟩
  · simp [h.len]
  · by_cases e : j = i
    · subst e
      rw [List.getElem?_set_self hii] at hj
      injection hj with hj
      subst hj
      refine ⟨st, ?_, ?_⟩
      · rw [List.getElem?_append_left (List.getElem?_eq_some_iff.1 hst).1]; exact hst
      · refine .branch z l.length hz h0 hi fun q u hu => ?_
        rw [List.getElem?_append_right (by rw [h.len]; omega), h.len, show l.length + q - l.length = q by omega, List.getElem?_map, hu]
        rfl
    · rw [List.getElem?_set_ne (Ne.symm e)] at hj
      have hjl : j < l.length := by
        by_cases hh : j < l.length
        · exact hh
        · refine absurd (.inr ⟨by omega, ?_⟩) hn
          have := (List.getElem?_eq_some_iff.1 hj).1
          simpa using this
      rw [List.getElem?_append_left hjl] at hj
      obtain ⟨st', h1, h2⟩ := h.node j y hj fun hh => hn (.inl ⟨hh, e⟩)
      exact ⟨st', by rw [List.getElem?_append_left (List.getElem?_eq_some_iff.1 h1).1]; exact h1, h2.more⟩
  · rcases hj with ⟨h1, h2⟩ | ⟨h1, h2⟩
    · rw [List.getElem?_set_ne (Ne.symm h2), List.getElem?_append_left (hlt j h1)]
      exact h.todo j h1
    · rw [List.getElem?_set_ne (by omega), List.getElem?_append_right h1, List.getElem?_replicate_of_lt (by omega)]
  · refine (kids_set hli rfl).trans ?_
    rw [kids_rep]
    have hp := h.pos
    refine (List.Perm.append_right _ h.kids).trans ?_
    have e : l.length = (l.length - 1) + 1 := by omega
    have e2 : kidsN l.length (memZ (eligA P z)).length = (List.range (memZ (eligA P z)).length).map (fun q => ((l.length - 1 + 1 + q : Nat) : Int)) := by
      unfold kidsN; rw [← e]
    simp only [e2, range_app]
    rw [List.length_set, List.length_append, List.length_replicate, show l.length - 1 + (memZ (eligA P z)).length = l.length + (memZ (eligA P z)).length - 1 by omega]
  · simp; omega
section
variable {σ : Type}
/-- What a visit that goes to its end leaves. -/
def DoneV (P : Pr) (f : List Int → Nat → VS σ → Bool × VS σ) (st : List Int) : Prop := ∀ (i : Nat) (s : VS σ) (sts : List (List Int)) (T : Nat → Prop), InT P s.nds sts T → T i → sts[i]? = some st → (f st i s).1 = false →
  ∃ sts', InT P (f st i s).2.nds (sts ++ sts') (fun j => T j ∧ j ≠ i)
theorem InT.weak {P : Pr} {l : List Nd} {sts : List (List Int)} {T T' : Nat → Prop} (h : InT P l sts T) (he : ∀ j, T j ↔ T' j) : InT P l sts T' :=
  ⟨h.len, fun i x hx hn => h.node i x hx fun hh => hn ((he i).1 hh), fun i hi => h.todo i ((he i).2 hi), h.kids, h.pos⟩
theorem visitL_done {P : Pr} {f : List Int → Nat → VS σ → Bool × VS σ} {st : List Int} {z : Nat} : ∀ (us : List Int) (c : Nat) (s : VS σ) (sts : List (List Int)) (T : Nat → Prop), (∀ u ∈ us, DoneV P f (st.set z u)) →
    InT P s.nds sts (fun j => T j ∨ (c ≤ j ∧ j < c + us.length)) → (∀ j, T j → j < c) → (∀ (q : Nat) (u : Int), us[q]? = some u → sts[c + q]? = some (st.set z u)) → (visitL f st z us c s).1 = false →
    ∃ sts', InT P (visitL f st z us c s).2.nds (sts ++ sts') T
  | [], c, s, sts, T, _, h, _, _, _ => ⟨[], by rw [List.append_nil]; exact h.weak fun j => ⟨fun h => h.elim id fun h => by simp at h; omega, .inl⟩⟩
  | u :: us, c, s, sts, T, hf, h, hT, hs, hr => by
    unfold visitL at hr ⊢
    by_cases hb : (f (st.set z u) c s).1 = true
    · rw [if_pos hb] at hr; cases hr
    · rw [if_neg hb] at hr ⊢
      obtain ⟨s1, h1⟩ := hf u (by simp) c s sts _ h (.inr ⟨Nat.le_refl _, by simp⟩) (by simpa using hs 0 u rfl) (by simpa using hb)
      obtain ⟨s2, h2⟩ := visitL_done us (c + 1) _ (sts ++ s1) T (fun v hv => hf v (by simp [hv])) (h1.weak fun j => by
        constructor
        · rintro ⟨h1 | ⟨h1, h2⟩, h3⟩
          · exact .inl h1
          · rw [List.length_cons] at h2; exact .inr ⟨by omega, by omega⟩
        · rintro (h1 | ⟨h1, h2⟩)
          · have := hT j h1; exact ⟨.inl h1, by omega⟩
          · exact ⟨.inr ⟨by omega, by rw [List.length_cons]; omega⟩, by omega⟩) (fun j hj => by have := hT j hj; omega) (fun q v hv => by
        have h3 := hs (q + 1) v hv
        rw [show c + (q + 1) = c + 1 + q by omega] at h3
        rw [List.getElem?_append_left (List.getElem?_eq_some_iff.1 h3).1]
        exact h3) hr
      exact ⟨s1 ++ s2, by rw [← List.append_assoc]; exact h2⟩
theorem visitF_done {P : Pr} {limit : Nat} {each : σ → List Int → Bool × σ} (he : ∀ s l, (each s l).1 = true) (ok : PrOk P) : ∀ (m : Nat) (st : List Int), openN st ≤ m → DoneV P (visitF P limit each m) st := by
  have hB : ∀ (rec : List Int → Nat → VS σ → Bool × VS σ) (st : List Int), (∀ z, idx0 st = some z → ∀ u ∈ memZ (eligA P z), DoneV P rec (st.set z u)) → DoneV P (visitB P limit each rec) st := by
    intro rec st hrec i s sts T h hT hst hr
    unfold visitB at hr ⊢
    split at hr
    · cases hr
    · rename_i h0
      rw [if_neg h0]
      split at hr
      · rename_i h1
        rw [if_pos h1]
        refine ⟨[], ?_⟩
        rw [List.append_nil]
        refine h.leaf hT hst (.clash (.inl ?_)) rfl
        unfold BrokenB at h1
        simp only [Bool.and_eq_true] at h1
        exact h1.2
      · rename_i h1
        rw [if_neg h1]
        cases hz : idx0 st with
        | none =>
          rw [hz] at hr
          simp only [] at hr
          rw [he] at hr
          cases hr
        | some z =>
          rw [hz] at hr
          simp only [] at hr ⊢
          obtain ⟨z1, z2, _⟩ := idx0_some hz
          have hb := h.branch hT hst z1 z2
          have hlt : ∀ j, T j → j < s.nds.length := fun j hj => (List.getElem?_eq_some_iff.1 (h.todo j hj)).1
          obtain ⟨s1, h2⟩ := visitL_done (f := rec) (memZ (eligA P z)) s.nds.length (laidB P i z ⟨s.nds, s.looked + 1, s.s⟩) _ (fun j => T j ∧ j ≠ i) (hrec z hz) hb (fun j hj => hlt j hj.1) (fun q u hu => by
            have hl := h.len
            rw [List.getElem?_append_right (by omega), hl, show s.nds.length + q - s.nds.length = q by omega, List.getElem?_map, hu]; rfl) hr
          exact ⟨_, by rw [List.append_assoc] at h2; exact h2⟩
  intro m
  induction m with
  | zero =>
    intro st hm
    exact hB _ st fun z hz => by rw [openN_zero hm] at hz; cases hz
  | succ m ih =>
    intro st hm
    refine hB _ st fun z hz u hu => ih _ ?_
    obtain ⟨z1, z2, _⟩ := idx0_some hz
    have hu1 := memZ_user ok hu
    have := openN_set (u := u) z1 z2 (by omega)
    omega
end
/-- A search without an end refutes the problem. -/
theorem visitF_ref {P : Pr} {limit m : Nat} (hc : chkP P = 0) (hm : openN P.fix ≤ m) (s0 : Option (List Int)) (hr : (visitF P limit eachS m P.fix 0 ⟨[nd0], 0, s0⟩).1 = false) :
    ∃ sts, RefOk P (visitF P limit eachS m P.fix 0 ⟨[nd0], 0, s0⟩).2.nds sts := by
  have ok := chkP_ok hc
  have h0 : InT P [nd0] [P.fix] (fun j => j = 0) := by
    refine ⟨rfl, fun i x hx hn => ?_, fun i hi => ?_, by simp [kids, nd0], by simp⟩
    · cases i with
      | zero => exact absurd rfl hn
      | succ i => cases hx
    · subst hi; rfl
  obtain ⟨sts', h⟩ := visitF_done (P := P) (limit := limit) (each := eachS) (fun _ _ => rfl) ok m P.fix hm 0 ⟨[nd0], 0, s0⟩ [P.fix] _ h0 rfl rfl hr
  exact ⟨_, h.len, rfl, fun i x hx => h.node i x hx fun hh => hh.2 hh.1, h.kids⟩
/-- What a search meets is valid. -/
theorem solsF_valid {P : Pr} (hc : chkP P = 0) : ∀ (m : Nat) (st l : List Int), Part P st → l ∈ solsF P m st → ValidB P l = true ∧ Sub st l := by
  have ok := chkP_ok hc
  have hB : ∀ (rec : List Int → List (List Int)), (∀ st l, Part P st → l ∈ rec st → ValidB P l = true ∧ Sub st l) → ∀ st l, Part P st → l ∈ solsB P rec st → ValidB P l = true ∧ Sub st l := by
    intro rec hrec st l hp hl
    unfold solsB at hl
    split at hl
    · cases hl
    · rename_i hb
      cases hz : idx0 st with
      | none =>
        rw [hz] at hl
        simp only [List.mem_singleton] at hl
        subst hl
        have hb' : brk P l = false := by
          unfold BrokenB at hb
          rw [proper_of hc hp.len hp.rng] at hb
          simpa using hb
        exact ⟨hp.valid hc (idx0_none hz) hb', ⟨rfl, fun k => .inr rfl⟩⟩
      | some z =>
        rw [hz] at hl
        obtain ⟨u, hu, hl⟩ := List.mem_flatMap.1 hl
        obtain ⟨z1, z2, _⟩ := idx0_some hz
        obtain ⟨h1, h2⟩ := hrec _ l (hp.set ok z1 z2 hu) hl
        refine ⟨h1, ⟨by rw [← h2.len, List.length_set], fun k => ?_⟩⟩
        have h3 := h2.at_ k
        rw [atI_set _ _ _ _ z1] at h3
        by_cases hk : k = z
        · rw [hk, z2]; exact .inl rfl
        · rw [if_neg hk] at h3; exact h3
  intro m
  induction m with
  | zero => exact hB _ fun _ _ _ h => by cases h
  | succ m ih => exact hB _ ih
theorem valid_good {P : Pr} {l : List Int} (hv : ValidB P l = true) : Good P l := (good_of_valid hv).2.1
/-- Every valid list is met. -/
theorem solsF_all {P : Pr} (hc : chkP P = 0) : ∀ (m : Nat) (st l : List Int), openN st ≤ m → ValidB P l = true → Sub st l → l ∈ solsF P m st := by
  have ok := chkP_ok hc
  have hB : ∀ (rec : List Int → List (List Int)) (st l : List Int), ValidB P l = true → Sub st l → (∀ z, idx0 st = some z → ∀ u ∈ memZ (eligA P z), Sub (st.set z u) l → l ∈ rec (st.set z u)) → l ∈ solsB P rec st := by
    intro rec st l hv hs hrec
    have hg := valid_good hv
    unfold solsB
    rw [if_neg fun hb => by
      unfold BrokenB at hb
      simp only [Bool.and_eq_true] at hb
      have := brk_sub hs hb.2
      rw [hg.ok] at this
      cases this]
    cases hz : idx0 st with
    | none =>
      simp only [List.mem_singleton]
      refine List.ext_getElem? fun k => ?_
      by_cases hk : k < st.length
      · have h1 := hs.ne (idx0_none hz k hk)
        have hk2 : k < l.length := by rw [← hs.len]; exact hk
        rw [List.getElem?_eq_getElem hk, List.getElem?_eq_getElem hk2]
        unfold atI at h1
        rw [List.getElem?_eq_getElem hk, List.getElem?_eq_getElem hk2] at h1
        exact congrArg some h1.symm
      · have hl := hs.len
        rw [List.getElem?_eq_none (l := st) (by omega), List.getElem?_eq_none (l := l) (by omega)]
    | some z =>
      obtain ⟨z1, z2, _⟩ := idx0_some hz
      have hzl : z < l.length := by rw [← hs.len]; exact z1
      have hmem : atI l z ∈ memZ (eligA P z) := by
        have h1 := hg.elig hzl
        have h2 := mem_memM h1
        have h3 := hg.pos z hzl
        unfold memZ
        refine List.mem_map.2 ⟨(atI l z).toNat, ?_, by omega⟩
        unfold eligA
        rw [Int.toNat_natCast]
        exact h2
      exact List.mem_flatMap.2 ⟨atI l z, hmem, hrec z hz _ hmem (hs.set z1)⟩
  intro m
  induction m with
  | zero => intro st l hm hv hs; exact hB _ st l hv hs fun z hz => by rw [openN_zero hm] at hz; cases hz
  | succ m ih =>
    intro st l hm hv hs
    refine hB _ st l hv hs fun z hz u hu h => ih _ l ?_ hv h
    obtain ⟨z1, z2, _⟩ := idx0_some hz
    have hu1 := memZ_user ok hu
    have := openN_set (u := u) z1 z2 (by omega)
    omega
/-- All staffings of a problem, as the search meets them. -/
def solsL (P : Pr) : List (List Int) := solsF P P.fix.length P.fix
theorem part_fix {P : Pr} (hc : chkP P = 0) : Part P P.fix := by
  have ok := chkP_ok hc
  exact ⟨ok.fixl, ok.fixu, fun k => .inr rfl⟩
theorem solsL_mem {P : Pr} (hc : chkP P = 0) (l : List Int) : l ∈ solsL P ↔ ValidB P l = true := by
  constructor
  · exact fun h => (solsF_valid hc _ _ l (part_fix hc) h).1
  · exact fun h => solsF_all hc _ _ l (openN_le _) h (good_of_valid h).2.2
end Go.Proofs.YtfnhaoindehjdaaDoor
