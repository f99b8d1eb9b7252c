/- Plain: the staffings of a problem whose steps all differ are the matchings. -/
import Derived.Test.YtfnhaoindehjdaaDoorMtM
import Derived.Test.YtfnhaoindehjdaaDoorSd
namespace Go.Proofs.YtfnhaoindehjdaaDoor
open Go.RowKit
set_option linter.unusedVariables false
set_option linter.unusedSimpArgs false

/-- All pairs of steps, in the order in which the law lays them. -/
def dpairs (n : Nat) : List (Int × Int) := (List.range n).flatMap fun a => (List.range a).map fun (b : Nat) => ((b : Int), (a : Int))
def matP (P : Pr) : Pr := ⟨P.elig, dpairs P.elig.length, [], [], List.replicate P.elig.length 0⟩
/-- The users of a step. -/
def grP (P : Pr) (a : Nat) : List Nat := memM (P.elig[a]?.getD 0)
theorem dpairs_succ (n : Nat) : dpairs (n + 1) = dpairs n ++ (List.range n).map fun (b : Nat) => ((b : Int), (n : Int)) := by
  unfold dpairs
  rw [List.range_succ, List.flatMap_append]
  simp
theorem mem_dpairs {n : Nat} {x : Int × Int} : x ∈ dpairs n ↔ ∃ a b : Nat, b < a ∧ a < n ∧ x = ((b : Int), (a : Int)) := by
  unfold dpairs
  rw [List.mem_flatMap]
  constructor
  · rintro ⟨a, ha, hx⟩
    obtain ⟨b, hb, rfl⟩ := List.mem_map.1 hx
    exact ⟨a, b, List.mem_range.1 hb, List.mem_range.1 ha, rfl⟩
  · rintro ⟨a, b, hb, ha, rfl⟩
    exact ⟨a, List.mem_range.2 ha, List.mem_map.2 ⟨b, List.mem_range.2 hb, rfl⟩⟩
theorem dpairs_few {n : Nat} (h : n ≤ 5) : (dpairs n).length ≤ 20 := by
  have : ∀ n, n ≤ 5 → (dpairs n).length ≤ 20 := by decide
  exact this n h
theorem mat_ok {P : Pr} (ok : PrOk P) (h5 : P.elig.length ≤ 5) : PrOk (matP P) where
  n0 := ok.n0
  n10 := ok.n10
  d20 := dpairs_few h5
  s20 := by simp [matP]
  m20 := by simp [matP]
  fixl := by simp [matP]
  eli := ok.eli
  fixu := fun u hu => by
    obtain rfl := List.eq_of_mem_replicate (show u ∈ List.replicate P.elig.length 0 from hu)
    omega
  difu := fun x hx => by
    obtain ⟨a, b, hb, ha, rfl⟩ := mem_dpairs.1 (show x ∈ dpairs P.elig.length from hx)
    show 0 ≤ (b : Int) ∧ (b : Int) < (P.elig.length : Nat) ∧ 0 ≤ (a : Int) ∧ (a : Int) < (P.elig.length : Nat) ∧ (b : Int) ≠ (a : Int)
    omega
  samu := fun x hx => by cases hx
  mstu := fun x hx => by cases hx
theorem atI_zero (n k : Nat) : atI (List.replicate n 0) k = 0 := by
  unfold atI
  rw [List.getElem?_replicate]
  split <;> rfl
theorem atI_get {l : List Int} {k : Nat} (h : k < l.length) : atI l k = l[k] := by
  unfold atI
  rw [List.getElem?_eq_getElem h]
  rfl
theorem atI_one {l : List Int} (h : ∀ u ∈ l, 1 ≤ u ∧ u ≤ 256) {k : Nat} (hk : k < l.length) : 1 ≤ atI l k ∧ atI l k ≤ 256 := by
  rw [atI_get hk]
  exact h _ (List.getElem_mem hk)
theorem mat_valid {P : Pr} (ok : PrOk P) (h5 : P.elig.length ≤ 5) (l : List Int) :
    ValidB (matP P) l = true ↔ l.length = P.elig.length ∧ (∀ u ∈ l, 1 ≤ u ∧ u ≤ 256) ∧ PM P.elig.length (grP P) (fun a => (atI l a).toNat) := by
  rw [valid_iff (chkP_of (mat_ok ok h5))]
  constructor
  · rintro ⟨h1, h2, h3, _⟩
    have h1 : l.length = P.elig.length := h1
    refine ⟨h1, h2, ?_, ?_⟩
    · intro a ha
      have hb := atI_one h2 (k := a) (by omega)
      refine mem_memM ?_
      cases ht : (P.elig[a]?.getD 0).testBit (atI l a).toNat with
      | true => rfl
      | false =>
        have hE : brkE P.elig l a = true := by
          unfold brkE
          rw [ht]
          have : atI l a ≠ 0 := by omega
          simp [this]
        have h4 : brk (matP P) l = true := by
          unfold brk
          rw [show (List.range l.length).any (brkE (matP P).elig l) = true from List.any_eq_true.2 ⟨a, List.mem_range.2 (by omega), hE⟩]
          simp
        rw [h3] at h4
        cases h4
    · have key : ∀ a b : Nat, b < a → a < P.elig.length → (atI l a).toNat = (atI l b).toNat → False := fun a b hb ha e => by
        have ea := atI_one h2 (k := a) (by omega)
        have eb := atI_one h2 (k := b) (by omega)
        have hD : brkD l ((b : Int), (a : Int)) = true := by
          unfold brkD atZ
          simp only [Int.toNat_natCast]
          have h6 : atI l b ≠ 0 := by omega
          have h7 : atI l b = atI l a := by omega
          simp [h6, h7]
          rw [← h7]; exact h6
        have h4 : brk (matP P) l = true := by
          unfold brk
          rw [show (matP P).dif.any (brkD l) = true from List.any_eq_true.2 ⟨_, mem_dpairs.2 ⟨a, b, hb, ha, rfl⟩, hD⟩]
          simp
        rw [h3] at h4
        cases h4
      intro a b ha hb e
      rcases Nat.lt_trichotomy a b with h | h | h
      · exact (key b a h hb e.symm).elim
      · exact h
      · exact (key a b h ha e).elim
  · rintro ⟨h1, h2, h3⟩
    refine ⟨h1, h2, ?_, fun k => .inl (atI_zero _ _)⟩
    refine Bool.eq_false_iff.2 fun hb => ?_
    unfold brk at hb
    rw [show (matP P).sam.any (brkS l) = false from rfl, show (matP P).mst.any (brkM l) = false from rfl, Bool.or_false, Bool.or_false, Bool.or_eq_true] at hb
    rcases hb with hb | hb
    · obtain ⟨k, hk, hE⟩ := List.any_eq_true.1 hb
      have hk := List.mem_range.1 hk
      have hm := memM_bit (h3.mem k (by omega))
      unfold brkE at hE
      rw [show ((matP P).elig[k]?.getD 0) = (P.elig[k]?.getD 0) from rfl, hm] at hE
      simp at hE
    · obtain ⟨x, hx, hD⟩ := List.any_eq_true.1 hb
      obtain ⟨a, b, hb, ha, rfl⟩ := mem_dpairs.1 (show x ∈ dpairs P.elig.length from hx)
      unfold brkD atZ at hD
      simp only [Int.toNat_natCast, Bool.and_eq_true, decide_eq_true_eq] at hD
      have := h3.inj a b ha (by omega) (by show (atI l a).toNat = (atI l b).toNat; rw [hD.2])
      omega
def lexlt (l l' : List Int) : Prop := ∃ k, (∀ b, b < k → atI l b = atI l' b) ∧ atI l k < atI l' k
theorem atI_cons_zero (u : Int) (l : List Int) : atI (u :: l) 0 = u := rfl
theorem atI_cons_succ (u : Int) (l : List Int) (k : Nat) : atI (u :: l) (k + 1) = atI l k := by unfold atI; rw [List.getElem?_cons_succ]
theorem lexlt_cons {u : Int} {l l' : List Int} (h : lexlt l l') : lexlt (u :: l) (u :: l') := by
  obtain ⟨k, h1, h2⟩ := h
  refine ⟨k + 1, fun b hb => ?_, by rw [atI_cons_succ, atI_cons_succ]; exact h2⟩
  cases b with
  | zero => rfl
  | succ b => rw [atI_cons_succ, atI_cons_succ]; exact h1 b (by omega)
theorem flat_sorted {R : List Int → List Int → Prop} {f : Int → List (List Int)} : ∀ {us : List Int}, (∀ u ∈ us, (f u).Pairwise R) → us.Pairwise (fun u v => ∀ x ∈ f u, ∀ y ∈ f v, R x y) → (us.flatMap f).Pairwise R
  | [], _, _ => List.Pairwise.nil
  | u :: us, h1, h2 => by
    rw [List.flatMap_cons]
    have h3 := List.pairwise_cons.1 h2
    refine List.pairwise_append.2 ⟨h1 u (by simp), flat_sorted (fun v hv => h1 v (by simp [hv])) h3.2, fun x hx y hy => ?_⟩
    obtain ⟨v, hv, hy⟩ := List.mem_flatMap.1 hy
    exact h3.1 v hv x hx y hy
theorem lexL_sorted : ∀ k, (lexL k).Pairwise lexlt
  | 0 => by simp [lexL]
  | k + 1 => by
    have six_lt : six.Pairwise (fun u v : Int => u < v) := by decide
    refine flat_sorted (fun u _ => ?_) (six_lt.imp fun {u v} h x hx y hy => ?_)
    · exact List.pairwise_map.2 ((lexL_sorted k).imp fun h => lexlt_cons h)
    · obtain ⟨x', _, rfl⟩ := List.mem_map.1 hx
      obtain ⟨y', _, rfl⟩ := List.mem_map.1 hy
      exact ⟨0, fun b hb => absurd hb (Nat.not_lt_zero _), h⟩
/-- The first staffing is the least one. -/
theorem head_least {P : Pr} (hc : chkP P = 0) (hf : Few128 P) (h6 : ∀ u ∈ P.fix, u ≤ 6) {l : List Int} {ls : List (List Int)} (h : solsL P = l :: ls) {l' : List Int} (hv : ValidB P l' = true) (a : Nat) (hp : ∀ b, b < a → atI l' b = atI l b) : atI l a ≤ atI l' a := by
  have hs : (l :: ls).Pairwise lexlt := by
    rw [← h, solsL_all hc hf h6]
    unfold allL
    rw [longL_lex]
    exact (lexL_sorted _).filter _
  have hm : l' ∈ l :: ls := by rw [← h]; exact (solsL_mem hc l').2 hv
  rcases List.mem_cons.1 hm with rfl | hm
  · omega
  · obtain ⟨k, h1, h2⟩ := (List.pairwise_cons.1 hs).1 l' hm
    rcases Nat.lt_trichotomy a k with h3 | h3 | h3
    · rw [h1 a h3]; omega
    · rw [h3]; omega
    · rw [hp k h3] at h2; omega
theorem mat_six (P : Pr) : ∀ u ∈ (matP P).fix, u ≤ 6 := fun u hu => by
  obtain rfl := List.eq_of_mem_replicate (show u ∈ List.replicate P.elig.length 0 from hu)
  omega
theorem oz_some (x : Nat) : oz (some x) = (x : Int) := rfl
theorem pm_list {P : Pr} (ok : PrOk P) (h5 : P.elig.length ≤ 5) {f : Nat → Nat} (h : PM P.elig.length (grP P) f) : ValidB (matP P) ((List.range P.elig.length).map fun a => (f a : Int)) = true ∧ ∀ a, a < P.elig.length → atI ((List.range P.elig.length).map fun a => (f a : Int)) a = (f a : Int) := by
  have hat : ∀ a, a < P.elig.length → atI ((List.range P.elig.length).map fun a => (f a : Int)) a = (f a : Int) := fun a ha => by
    unfold atI
    rw [List.getElem?_map, List.getElem?_range ha]
    rfl
  refine ⟨(mat_valid ok h5 _).2 ⟨by simp, fun u hu => ?_, ?_, ?_⟩, hat⟩
  · obtain ⟨a, ha, rfl⟩ := List.mem_map.1 hu
    have ha := List.mem_range.1 ha
    have hm := memM_bit (h.mem a ha)
    rw [List.getElem?_eq_getElem ha] at hm
    simp only [Option.getD_some] at hm
    obtain ⟨e1, e2⟩ := ok.eli _ (List.getElem_mem ha)
    have h1 := bit_lt e2 hm
    have h2 : f a ≠ 0 := fun e => by rw [e, e1] at hm; cases hm
    omega
  · intro a ha
    show (atI _ a).toNat ∈ _
    rw [hat a ha, Int.toNat_natCast]
    exact h.mem a ha
  · intro a b ha hb e
    refine h.inj a b ha hb ?_
    have e : (atI _ a).toNat = (atI _ b).toNat := e
    rw [hat a ha, hat b hb, Int.toNat_natCast, Int.toNat_natCast] at e
    exact e
theorem mat_none {P : Pr} (ok : PrOk P) (h5 : P.elig.length ≤ 5) (h : ∀ f, ¬ PM P.elig.length (grP P) f) : solsL (matP P) = [] := by
  cases e : solsL (matP P) with
  | nil => rfl
  | cons l ls =>
    have hv := (solsL_mem (chkP_of (mat_ok ok h5)) l).1 (by rw [e]; simp)
    exact (h _ ((mat_valid ok h5 l).1 hv).2.2).elim
/-- What the search for the least matching ends with is the first staffing. -/
theorem mat_least {P : Pr} (ok : PrOk P) (h5 : P.elig.length ≤ 5) (hf : Few128 P) {F : Nat → Bool} {s : MSt} (h : LInv P.elig.length (grP P) P.elig.length F s) :
    ∃ l ls, solsL (matP P) = l :: ls ∧ (List.range P.elig.length).map (fun a => oz (s.L a)) = l := by
  have hc := chkP_of (mat_ok ok h5)
  obtain ⟨hpm, hsome⟩ := h.pm
  obtain ⟨hv, hat⟩ := pm_list ok h5 hpm
  cases e : solsL (matP P) with
  | nil => rw [no_valid hc e] at hv; cases hv
  | cons l ls =>
    refine ⟨l, ls, rfl, ?_⟩
    have hl := (solsL_mem hc l).1 (by rw [e]; simp)
    obtain ⟨hlen, hu, hpl⟩ := (mat_valid ok h5 l).1 hl
    have key := h.least hpl fun a ha hp x hx => by
      have h1 := head_least hc hf (mat_six P) e hv a fun b hb => by
        have ob := atI_one hu (k := b) (by omega)
        rw [hat b (by omega), hp b hb]
        show (((atI l b).toNat : Nat) : Int) = _
        omega
      rw [hat a ha, hx] at h1
      have h2 : atI l a ≤ (x : Int) := h1
      show (atI l a).toNat ≤ x
      omega
    refine List.ext_getElem (by simp [hlen]) fun a h1 h2 => ?_
    have ha : a < P.elig.length := by omega
    have oa := atI_one hu (k := a) h2
    rw [List.getElem_map, List.getElem_range, key a ha, oz_some]
    rw [← atI_get h2]
    omega
/-- The members come in ascending order. -/
theorem memM_sorted (M : Nat) : (memM M).Pairwise (· < ·) := by
  obtain ⟨n, hn⟩ : ∃ n, M < 2 ^ n := ⟨M, Nat.lt_two_pow_self⟩
  rw [memM_memT hn]
  exact List.pairwise_lt_range.filter _
end Go.Proofs.YtfnhaoindehjdaaDoor
