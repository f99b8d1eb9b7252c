/- A pack of texts: StP, StQ, AllP, StX, StC. -/
import Derived.Test.YtcdgmdhfaniciaaDoorPm
import Derived.Test.YtcdgmdhfaniciaaDoorPj
/- Plain: the search of a staffing as a function, and the list of the staffings that it meets. -/
namespace Go.Proofs.YtcdgmdhfaniciaaDoor
open Go.RowKit
set_option linter.unusedVariables false
set_option linter.unusedSimpArgs false

/-- The first open step. -/
def idx0 : List Int → Option Nat
  | [] => none
  | u :: l => if u = 0 then some 0 else (idx0 l).map (· + 1)
theorem idx0_none : ∀ {l : List Int}, idx0 l = none → ∀ k, k < l.length → atI l k ≠ 0
  | [], _, k, hk => by simp at hk
  | u :: l, h, k, hk => by
    unfold idx0 at h
    split at h
    · cases h
    · rename_i hu
      cases k with
      | zero => exact hu
      | succ k => exact idx0_none (l := l) (by cases hx : idx0 l <;> simp [hx] at h ⊢) k (by simpa using hk)
theorem idx0_some : ∀ {l : List Int} {z : Nat}, idx0 l = some z → z < l.length ∧ atI l z = 0 ∧ ∀ k, k < z → atI l k ≠ 0
  | [], z, h => by cases h
  | u :: l, z, h => by
    unfold idx0 at h
    split at h
    · rename_i hu
      injection h with h
      subst h
      exact ⟨by simp, hu, fun k hk => absurd hk (Nat.not_lt_zero _)⟩
    · rename_i hu
      cases hx : idx0 l with
      | none => rw [hx] at h; cases h
      | some y =>
        rw [hx] at h
        injection h with h
        subst h
        obtain ⟨h1, h2, h3⟩ := idx0_some hx
        refine ⟨by simpa using h1, h2, fun k hk => ?_⟩
        cases k with
        | zero => exact hu
        | succ k => exact h3 k (Nat.lt_of_succ_lt_succ hk)
/-- The state of a search: the nodes, how many partial staffings it looked at, and what the caller keeps. -/
structure VS (σ : Type) where
  nds : List Nd
  looked : Nat
  s : σ
/-- The numbers of n new nodes. -/
def kidsN (c0 n : Nat) : List Int := (List.range n).map fun q => ((c0 + q : Nat) : Int)
def fullB (limit looked : Nat) : Bool := decide (0 < limit) && decide (limit < looked)
section
variable {σ : Type}
/-- The children of a node, one after the other. -/
def visitL (f : List Int → Nat → VS σ → Bool × VS σ) (st : List Int) (z : Nat) : List Int → Nat → VS σ → Bool × VS σ
  | [], _, s => (false, s)
  | u :: us, c, s => if (f (st.set z u) c s).1 = true then (true, (f (st.set z u) c s).2) else visitL f st z us (c + 1) (f (st.set z u) c s).2
/-- A Branch is laid. -/
def laidB (P : Pr) (node z : Nat) (s : VS σ) : VS σ :=
  ⟨(s.nds ++ List.replicate (memZ (eligA P z)).length nd0).set node ⟨1, z, kidsN s.nds.length (memZ (eligA P z)).length, []⟩, s.looked, s.s⟩
/-- One step of the search. -/
def visitB (P : Pr) (limit : Nat) (each : σ → List Int → Bool × σ) (rec : List Int → Nat → VS σ → Bool × VS σ) (st : List Int) (node : Nat) (s : VS σ) : Bool × VS σ :=
  if fullB limit (s.looked + 1) = true then (true, ⟨s.nds, s.looked + 1, s.s⟩)
  else if BrokenB P st = true then (false, ⟨s.nds.set node ⟨2, 0, [], []⟩, s.looked + 1, s.s⟩)
  else match idx0 st with
    | none => ((each s.s st).1, ⟨s.nds, s.looked + 1, (each s.s st).2⟩)
    | some z => visitL rec st z (memZ (eligA P z)) s.nds.length (laidB P node z ⟨s.nds, s.looked + 1, s.s⟩)
/-- The search. -/
def visitF (P : Pr) (limit : Nat) (each : σ → List Int → Bool × σ) : Nat → List Int → Nat → VS σ → Bool × VS σ
  | 0 => visitB P limit each fun _ _ s => (false, s)
  | m + 1 => visitB P limit each (visitF P limit each m)
/-- How many nodes a search makes at most, with K users for a step. -/
def bnd (K : Nat) : Nat → Nat
  | 0 => 0
  | m + 1 => K + K * bnd K m
theorem bnd_step {K m a L i : Nat} (hi : i < a) (ha : a ≤ K) : L + a + i * bnd K m + bnd K m ≤ L + bnd K (m + 1) := by
  show _ ≤ L + (K + K * bnd K m)
  have h1 : (i + 1) * bnd K m ≤ K * bnd K m := Nat.mul_le_mul_right _ (by omega)
  rw [Nat.add_mul, Nat.one_mul] at h1
  omega
theorem kidsN_len (c n : Nat) : (kidsN c n).length = n := by simp [kidsN]
theorem laidB_len (P : Pr) (node z : Nat) (s : VS σ) : (laidB P node z s).nds.length = s.nds.length + (memZ (eligA P z)).length := by
  simp [laidB]
theorem visitL_le {f : List Int → Nat → VS σ → Bool × VS σ} {st : List Int} {z b : Nat} :
    ∀ (us : List Int) (c : Nat) (s : VS σ), (∀ u ∈ us, ∀ node s, (f (st.set z u) node s).2.nds.length ≤ s.nds.length + b ∧ (f (st.set z u) node s).2.looked ≤ s.looked + 1 + b) →
      (visitL f st z us c s).2.nds.length ≤ s.nds.length + us.length * b ∧ (visitL f st z us c s).2.looked ≤ s.looked + us.length * (1 + b)
  | [], c, s, _ => by simp [visitL]
  | u :: us, c, s, hf => by
    have h1 := hf u (by simp) c s
    have h2 := visitL_le us (c + 1) (f (st.set z u) c s).2 fun v hv => hf v (by simp [hv])
    unfold visitL
    have e1 : (us.length + 1) * b = us.length * b + b := Nat.succ_mul _ _
    have e2 : (us.length + 1) * (1 + b) = us.length * (1 + b) + (1 + b) := Nat.succ_mul _ _
    rw [List.length_cons, e1, e2]
    split
    · exact ⟨by simp only []; omega, by simp only []; omega⟩
    · exact ⟨by omega, by omega⟩
theorem visitB_le {P : Pr} {limit : Nat} {each : σ → List Int → Bool × σ} {rec : List Int → Nat → VS σ → Bool × VS σ} {K b : Nat} (hK : ∀ z : Nat, (memZ (eligA P z)).length ≤ K) (st : List Int) (node : Nat) (s : VS σ)
    (hf : ∀ z, idx0 st = some z → ∀ u ∈ memZ (eligA P z), ∀ node s, (rec (st.set z u) node s).2.nds.length ≤ s.nds.length + b ∧ (rec (st.set z u) node s).2.looked ≤ s.looked + 1 + b) :
    (visitB P limit each rec st node s).2.nds.length ≤ s.nds.length + (K + K * b) ∧ (visitB P limit each rec st node s).2.looked ≤ s.looked + 1 + (K + K * b) := by
  unfold visitB
  split
  · exact ⟨by simp only []; omega, by simp only []; omega⟩
  · split
    · exact ⟨by simp only [List.length_set]; omega, by simp only []; omega⟩
    · cases hz : idx0 st with
      | none => exact ⟨by simp only []; omega, by simp only []; omega⟩
      | some z =>
        simp only []
        have h1 := visitL_le (f := rec) (st := st) (z := z) (b := b) (memZ (eligA P z)) s.nds.length (laidB P node z ⟨s.nds, s.looked + 1, s.s⟩) (hf z hz)
        rw [laidB_len] at h1
        have h2 := hK z
        have h3 : (memZ (eligA P z)).length * b ≤ K * b := Nat.mul_le_mul_right _ h2
        have h4 : (memZ (eligA P z)).length * (1 + b) = (memZ (eligA P z)).length + (memZ (eligA P z)).length * b := by rw [Nat.mul_add, Nat.mul_one]
        have h5 : (laidB P node z ⟨s.nds, s.looked + 1, s.s⟩ : VS σ).looked = s.looked + 1 := rfl
        rw [h4, h5] at h1
        simp only [] at h1 ⊢
        omega
theorem openN_zero : ∀ {st : List Int}, openN st ≤ 0 → idx0 st = none
  | [], _ => rfl
  | u :: l, h => by
    unfold openN at h
    split at h
    · omega
    · rename_i hu
      unfold idx0
      rw [if_neg hu, openN_zero (st := l) (by omega)]
      rfl
theorem visitF_le {P : Pr} {limit : Nat} {each : σ → List Int → Bool × σ} {K : Nat} (ok : PrOk P) (hK : ∀ z : Nat, (memZ (eligA P z)).length ≤ K) : ∀ (m : Nat) (st : List Int) (node : Nat) (s : VS σ), openN st ≤ m →
    (visitF P limit each m st node s).2.nds.length ≤ s.nds.length + bnd K m ∧ (visitF P limit each m st node s).2.looked ≤ s.looked + 1 + bnd K m
  | 0, st, node, s, h => by
    have h0 := openN_zero h
    unfold visitF visitB
    rw [h0]
    split
    · exact ⟨by simp only []; omega, by simp only []; omega⟩
    · split
      · exact ⟨by simp only [List.length_set]; omega, by simp only []; omega⟩
      · exact ⟨by simp only []; omega, by simp only []; omega⟩
  | m + 1, st, node, s, h => by
    unfold visitF
    refine visitB_le hK st node s fun z hz u hu node s => ?_
    obtain ⟨h1, h2, _⟩ := idx0_some hz
    have hu1 := memZ_user ok hu
    have := openN_set (u := u) h1 h2 (by omega)
    exact visitF_le ok hK m (st.set z u) node s (by omega)
theorem visitL_ge {f : List Int → Nat → VS σ → Bool × VS σ} {st : List Int} {z : Nat} (hf : ∀ st node s, s.nds.length ≤ (f st node s).2.nds.length) :
    ∀ (us : List Int) (c : Nat) (s : VS σ), s.nds.length ≤ (visitL f st z us c s).2.nds.length
  | [], c, s => Nat.le_refl _
  | u :: us, c, s => by
    have h1 := hf (st.set z u) c s
    have h2 := visitL_ge (st := st) (z := z) hf us (c + 1) (f (st.set z u) c s).2
    unfold visitL
    split
    · exact h1
    · exact Nat.le_trans h1 h2
theorem visitB_ge {P : Pr} {limit : Nat} {each : σ → List Int → Bool × σ} {rec : List Int → Nat → VS σ → Bool × VS σ} (hf : ∀ st node s, s.nds.length ≤ (rec st node s).2.nds.length) (st : List Int) (node : Nat) (s : VS σ) : s.nds.length ≤ (visitB P limit each rec st node s).2.nds.length := by
  unfold visitB
  split
  · exact Nat.le_refl _
  · split
    · simp
    · cases idx0 st with
      | none => exact Nat.le_refl _
      | some z =>
        have h1 := visitL_ge (st := st) (z := z) hf (memZ (eligA P z)) s.nds.length (laidB P node z ⟨s.nds, s.looked + 1, s.s⟩)
        rw [laidB_len] at h1
        exact Nat.le_trans (Nat.le_add_right _ _) h1
theorem visitF_ge {P : Pr} {limit : Nat} {each : σ → List Int → Bool × σ} : ∀ (m : Nat) (st : List Int) (node : Nat) (s : VS σ), s.nds.length ≤ (visitF P limit each m st node s).2.nds.length
  | 0 => visitB_ge fun _ _ _ => Nat.le_refl _
  | m + 1 => visitB_ge (visitF_ge m)
/-- A caller is handed lists until it has enough. -/
def runS (each : σ → List Int → Bool × σ) : σ → List (List Int) → Bool × σ
  | s, [] => (false, s)
  | s, l :: ls => if (each s l).1 = true then (true, (each s l).2) else runS each (each s l).2 ls
theorem runS_app (each : σ → List Int → Bool × σ) : ∀ (ls ms : List (List Int)) (s : σ), runS each s (ls ++ ms) = if (runS each s ls).1 = true then runS each s ls else runS each (runS each s ls).2 ms
  | [], ms, s => by simp [runS]
  | l :: ls, ms, s => by
    rw [List.cons_append, runS, runS]
    split
    · simp
    · exact runS_app each ls ms _
end
/-- The staffings that a search meets. -/
def solsB (P : Pr) (rec : List Int → List (List Int)) (st : List Int) : List (List Int) :=
  if BrokenB P st = true then [] else match idx0 st with
    | none => [st]
    | some z => (memZ (eligA P z)).flatMap fun u => rec (st.set z u)
def solsF (P : Pr) : Nat → List Int → List (List Int)
  | 0 => solsB P fun _ => []
  | m + 1 => solsB P (solsF P m)
section
variable {σ : Type}
theorem visitL_run {each : σ → List Int → Bool × σ} {f : List Int → Nat → VS σ → Bool × VS σ} {g : List Int → List (List Int)} {st : List Int} {z : Nat} (hf : ∀ st node s, ((f st node s).1, (f st node s).2.s) = runS each s.s (g st)) :
    ∀ (us : List Int) (c : Nat) (s : VS σ), ((visitL f st z us c s).1, (visitL f st z us c s).2.s) = runS each s.s (us.flatMap fun u => g (st.set z u))
  | [], c, s => rfl
  | u :: us, c, s => by
    have h1 := hf (st.set z u) c s
    have h2 := visitL_run hf us (c + 1) (f (st.set z u) c s).2 (z := z) (st := st)
    rw [List.flatMap_cons, runS_app, ← h1]
    unfold visitL
    by_cases h : (f (st.set z u) c s).1 = true
    · rw [if_pos h]
      simp only [h, if_true]
    · rw [if_neg h]
      have h' : (f (st.set z u) c s).1 = false := by simpa using h
      simp only [h', Bool.false_eq_true, if_false]
      exact h2
theorem visitF_run {P : Pr} {each : σ → List Int → Bool × σ} : ∀ (m : Nat) (st : List Int) (node : Nat) (s : VS σ), ((visitF P 0 each m st node s).1, (visitF P 0 each m st node s).2.s) = runS each s.s (solsF P m st) := by
  have hB : ∀ (rec : List Int → Nat → VS σ → Bool × VS σ) (g : List Int → List (List Int)), (∀ st node s, ((rec st node s).1, (rec st node s).2.s) = runS each s.s (g st)) →
      ∀ (st : List Int) (node : Nat) (s : VS σ), ((visitB P 0 each rec st node s).1, (visitB P 0 each rec st node s).2.s) = runS each s.s (solsB P g st) := by
    intro rec g hf st node s
    unfold visitB solsB
    rw [if_neg (by simp [fullB])]
    split
    · rfl
    · cases hz : idx0 st with
      | none => simp only [runS]; split <;> simp_all
      | some z => exact visitL_run hf _ _ _
  intro m
  induction m with
  | zero => exact hB _ _ fun _ _ _ => rfl
  | succ m ih => exact hB _ _ ih
end
/-- What Solve keeps, and what Count keeps. -/
def eachS (s : Option (List Int)) (l : List Int) : Bool × Option (List Int) := (true, some l)
def eachC (limit : Int) (n : Nat) (l : List Int) : Bool × Nat := (decide (limit < ((n + 1 : Nat) : Int)), n + 1)
theorem runS_S (ls : List (List Int)) : runS eachS none ls = (!ls.isEmpty, ls.head?) := by
  cases ls <;> rfl
theorem runS_C (limit : Int) : ∀ (ls : List (List Int)) (n : Nat), (n : Int) ≤ limit → (((n + ls.length : Nat) : Int) ≤ limit ∧ runS (eachC limit) n ls = (false, n + ls.length)) ∨ (limit < ((n + ls.length : Nat) : Int) ∧ ∃ q, runS (eachC limit) n ls = (true, q) ∧ limit < (q : Int))
  | [], n, h => .inl ⟨by simpa using h, rfl⟩
  | l :: ls, n, h => by
    rw [List.length_cons]
    by_cases hc : limit < ((n + 1 : Nat) : Int)
    · refine .inr ⟨by omega, n + 1, ?_, hc⟩
      unfold runS eachC
      rw [if_pos (by simpa using hc), decide_eq_true hc]
    · have e : runS (eachC limit) n (l :: ls) = runS (eachC limit) (n + 1) ls := by
        rw [runS]
        rw [if_neg (by unfold eachC; simpa using hc)]
        rfl
      rw [e]
      rcases runS_C limit ls (n + 1) (by omega) with ⟨h1, h2⟩ | ⟨h1, q, h2, h3⟩
      · exact .inl ⟨by omega, by rw [h2]; congr 1; omega⟩
      · exact .inr ⟨by omega, q, h2, h3⟩
/-- A limit is exceeded, or changes nothing. -/
theorem visit_lim {P : Pr} (limit : Nat) : ∀ (m : Nat) (st : List Int) (node : Nat) (s : VS (Option (List Int))), s.s = none → fullB limit s.looked = false →
    ((visitF P limit eachS m st node s).1 = true ∧ fullB limit (visitF P limit eachS m st node s).2.looked = true ∧ (visitF P limit eachS m st node s).2.s = none) ∨
    (visitF P limit eachS m st node s = visitF P 0 eachS m st node s ∧ fullB limit (visitF P limit eachS m st node s).2.looked = false ∧ ((visitF P limit eachS m st node s).1 = false → (visitF P limit eachS m st node s).2.s = none)) := by
  have hL : ∀ (f f0 : List Int → Nat → VS (Option (List Int)) → Bool × VS (Option (List Int))) (st : List Int) (z : Nat),
      (∀ st node s, s.s = none → fullB limit s.looked = false → ((f st node s).1 = true ∧ fullB limit (f st node s).2.looked = true ∧ (f st node s).2.s = none) ∨ (f st node s = f0 st node s ∧ fullB limit (f st node s).2.looked = false ∧ ((f st node s).1 = false → (f st node s).2.s = none))) →
      ∀ (us : List Int) (c : Nat) (s : VS (Option (List Int))), s.s = none → fullB limit s.looked = false →
        ((visitL f st z us c s).1 = true ∧ fullB limit (visitL f st z us c s).2.looked = true ∧ (visitL f st z us c s).2.s = none) ∨ (visitL f st z us c s = visitL f0 st z us c s ∧ fullB limit (visitL f st z us c s).2.looked = false ∧ ((visitL f st z us c s).1 = false → (visitL f st z us c s).2.s = none)) := by
    intro f f0 st z hf us
    induction us with
    | nil => intro c s hs hl; exact .inr ⟨rfl, hl, fun _ => hs⟩
    | cons u us ih =>
      intro c s hs hl
      rw [show visitL f st z (u :: us) c s = if (f (st.set z u) c s).1 = true then (true, (f (st.set z u) c s).2) else visitL f st z us (c + 1) (f (st.set z u) c s).2 from rfl]
      rcases hf (st.set z u) c s hs hl with ⟨h1, h2, h3⟩ | ⟨h1, h2, h3⟩
      · rw [if_pos h1]
        exact .inl ⟨rfl, h2, h3⟩
      · by_cases hb : (f (st.set z u) c s).1 = true
        · rw [if_pos hb]
          refine .inr ⟨?_, h2, fun e => by cases e⟩
          conv => rhs; unfold visitL
          rw [← h1, if_pos hb]
        · rw [if_neg hb]
          have e2 : visitL f0 st z (u :: us) c s = visitL f0 st z us (c + 1) (f (st.set z u) c s).2 := by
            conv => lhs; unfold visitL
            rw [← h1, if_neg hb]
          rw [e2]
          exact ih (c + 1) _ (h3 (by simpa using hb)) h2
  have hB : ∀ (f f0 : List Int → Nat → VS (Option (List Int)) → Bool × VS (Option (List Int))),
      (∀ st node s, s.s = none → fullB limit s.looked = false → ((f st node s).1 = true ∧ fullB limit (f st node s).2.looked = true ∧ (f st node s).2.s = none) ∨ (f st node s = f0 st node s ∧ fullB limit (f st node s).2.looked = false ∧ ((f st node s).1 = false → (f st node s).2.s = none))) →
      ∀ (st : List Int) (node : Nat) (s : VS (Option (List Int))), s.s = none → fullB limit s.looked = false →
        ((visitB P limit eachS f st node s).1 = true ∧ fullB limit (visitB P limit eachS f st node s).2.looked = true ∧ (visitB P limit eachS f st node s).2.s = none) ∨ (visitB P limit eachS f st node s = visitB P 0 eachS f0 st node s ∧ fullB limit (visitB P limit eachS f st node s).2.looked = false ∧ ((visitB P limit eachS f st node s).1 = false → (visitB P limit eachS f st node s).2.s = none)) := by
    intro f f0 hf st node s hs hl
    unfold visitB
    rw [if_neg (show ¬ fullB 0 (s.looked + 1) = true by simp [fullB])]
    by_cases h0 : fullB limit (s.looked + 1) = true
    · rw [if_pos h0]
      exact .inl ⟨rfl, h0, hs⟩
    · rw [if_neg h0]
      have h0' : fullB limit (s.looked + 1) = false := by simpa using h0
      by_cases h1 : BrokenB P st = true
      · rw [if_pos h1, if_pos h1]
        exact .inr ⟨rfl, h0', fun _ => hs⟩
      · rw [if_neg h1, if_neg h1]
        cases hz : idx0 st with
        | none => exact .inr ⟨rfl, h0', fun e => by cases e⟩
        | some z => exact hL f f0 st z hf _ _ _ hs h0'
  intro m
  induction m with
  | zero => exact hB _ _ fun st node s hs hl => .inr ⟨rfl, hl, fun _ => hs⟩
  | succ m ih => exact hB _ _ ih
end Go.Proofs.YtcdgmdhfaniciaaDoor
/- Plain: where a search meets no staffing its nodes are a refutation; what it meets are the valid lists. -/
namespace Go.Proofs.YtcdgmdhfaniciaaDoor
open Go.RowKit
set_option linter.unusedVariables false
set_option linter.unusedSimpArgs false

/-- The nodes of a search, of which those of T are still to be visited. -/
structure InT (P : Pr) (l : List Nd) (sts : List (List Int)) (T : Nat → Prop) : Prop where
  len : sts.length = l.length
  node : ∀ (i : Nat) (x : Nd), l[i]? = some x → ¬ T i → ∃ st, sts[i]? = some st ∧ NodeOk P sts i st x
  todo : ∀ i, T i → l[i]? = some nd0
  kids : (kids l).Perm ((List.range (l.length - 1)).map fun q => ((q + 1 : Nat) : Int))
  pos : 0 < l.length
theorem kids_set {l : List Nd} {i : Nat} {y x : Nd} (h : l[i]? = some y) (hy : y.ch = []) : (kids (l.set i x)).Perm (kids l ++ x.ch) := by
  have hi := (List.getElem?_eq_some_iff.1 h).1
  have h2 : (l.set i x)[i]? = some x := List.getElem?_set_self hi
  rw [kids_split h2, kids_split h, hy, List.nil_append, List.take_set_of_le (Nat.le_refl _), List.drop_set_of_lt (Nat.lt_succ_self _)]
  rw [List.append_assoc]
  exact List.Perm.append_left _ List.perm_append_comm
theorem InT.leaf {P : Pr} {l : List Nd} {sts : List (List Int)} {T : Nat → Prop} {i : Nat} {st : List Int} {x : Nd} (h : InT P l sts T) (hT : T i) (hst : sts[i]? = some st) (hN : NodeOk P sts i st x) (hc : x.ch = []) : InT P (l.set i x) sts (fun j => T j ∧ j ≠ i) := by
  have hi := (List.getElem?_eq_some_iff.1 (h.todo i hT)).1
  refine ⟨by rw [List.length_set]; exact h.len, fun j y hj hn => ?_, fun j hj => ?_, ?_, by rw [List.length_set]; exact h.pos⟩
  · by_cases e : j = i
    · subst e
      rw [List.getElem?_set_self hi] at hj
      injection hj with hj
      subst hj
      exact ⟨st, hst, hN⟩
    · rw [List.getElem?_set_ne (Ne.symm e)] at hj
      exact h.node j y hj fun hh => hn ⟨hh, e⟩
  · rw [List.getElem?_set_ne (Ne.symm hj.2)]
    exact h.todo j hj.1
  · refine (kids_set (h.todo i hT) rfl).trans ?_
    rw [hc, List.append_nil, List.length_set]
    exact h.kids
theorem kids_rep (l : List Nd) (n : Nat) : kids (l ++ List.replicate n nd0) = kids l := by
  unfold kids
  rw [List.flatMap_append]
  have : (List.replicate n nd0).flatMap (·.ch) = [] := by
    induction n with
    | zero => rfl
    | succ n ih => rw [List.replicate_succ, List.flatMap_cons, ih]; rfl
  rw [this, List.append_nil]
/-- A Branch: its node is done, its children are to be visited. -/
theorem InT.branch {P : Pr} {l : List Nd} {sts : List (List Int)} {T : Nat → Prop} {i z : Nat} {st : List Int} (h : InT P l sts T) (hT : T i) (hst : sts[i]? = some st) (hz : z < st.length) (h0 : atI st z = 0) :
    InT P ((l ++ List.replicate (memZ (eligA P z)).length nd0).set i ⟨1, z, kidsN l.length (memZ (eligA P z)).length, []⟩) (sts ++ (memZ (eligA P z)).map fun u => st.set z u)
      (fun j => (T j ∧ j ≠ i) ∨ (l.length ≤ j ∧ j < l.length + (memZ (eligA P z)).length)) := by
  have hi := (List.getElem?_eq_some_iff.1 (h.todo i hT)).1
  have hlt : ∀ j, T j → j < l.length := fun j hj => (List.getElem?_eq_some_iff.1 (h.todo j hj)).1
  have hli : (l ++ List.replicate (memZ (eligA P z)).length nd0)[i]? = some nd0 := by rw [List.getElem?_append_left hi]; exact h.todo i hT
  have hii := (List.getElem?_eq_some_iff.1 hli).1
  refine ⟨?_, fun j y hj hn => ?_, fun j hj => ?_, ?_, ?_⟩
  · simp [h.len]
  · by_cases e : j = i
    · subst e
      rw [List.getElem?_set_self hii] at hj
      injection hj with hj
      subst hj
      refine ⟨st, ?_, ?_⟩
      · rw [List.getElem?_append_left (List.getElem?_eq_some_iff.1 hst).1]; exact hst
      · refine .branch z l.length hz h0 hi fun q u hu => ?_
        rw [List.getElem?_append_right (by rw [h.len]; omega), h.len, show l.length + q - l.length = q by omega, List.getElem?_map, hu]
        rfl
    · rw [List.getElem?_set_ne (Ne.symm e)] at hj
      have hjl : j < l.length := by
        by_cases hh : j < l.length
        · exact hh
        · refine absurd (.inr ⟨by omega, ?_⟩) hn
          have := (List.getElem?_eq_some_iff.1 hj).1
          simpa using this
      rw [List.getElem?_append_left hjl] at hj
      obtain ⟨st', h1, h2⟩ := h.node j y hj fun hh => hn (.inl ⟨hh, e⟩)
      exact ⟨st', by rw [List.getElem?_append_left (List.getElem?_eq_some_iff.1 h1).1]; exact h1, h2.more⟩
  · rcases hj with ⟨h1, h2⟩ | ⟨h1, h2⟩
    · rw [List.getElem?_set_ne (Ne.symm h2), List.getElem?_append_left (hlt j h1)]
      exact h.todo j h1
    · rw [List.getElem?_set_ne (by omega), List.getElem?_append_right h1, List.getElem?_replicate_of_lt (by omega)]
  · refine (kids_set hli rfl).trans ?_
    rw [kids_rep]
    have hp := h.pos
    refine (List.Perm.append_right _ h.kids).trans ?_
    have e : l.length = (l.length - 1) + 1 := by omega
    have e2 : kidsN l.length (memZ (eligA P z)).length = (List.range (memZ (eligA P z)).length).map (fun q => ((l.length - 1 + 1 + q : Nat) : Int)) := by
      unfold kidsN; rw [← e]
    simp only [e2, range_app]
    rw [List.length_set, List.length_append, List.length_replicate, show l.length - 1 + (memZ (eligA P z)).length = l.length + (memZ (eligA P z)).length - 1 by omega]
  · simp; omega
section
variable {σ : Type}
/-- What a visit that goes to its end leaves. -/
def DoneV (P : Pr) (f : List Int → Nat → VS σ → Bool × VS σ) (st : List Int) : Prop := ∀ (i : Nat) (s : VS σ) (sts : List (List Int)) (T : Nat → Prop), InT P s.nds sts T → T i → sts[i]? = some st → (f st i s).1 = false →
  ∃ sts', InT P (f st i s).2.nds (sts ++ sts') (fun j => T j ∧ j ≠ i)
theorem InT.weak {P : Pr} {l : List Nd} {sts : List (List Int)} {T T' : Nat → Prop} (h : InT P l sts T) (he : ∀ j, T j ↔ T' j) : InT P l sts T' :=
  ⟨h.len, fun i x hx hn => h.node i x hx fun hh => hn ((he i).1 hh), fun i hi => h.todo i ((he i).2 hi), h.kids, h.pos⟩
theorem visitL_done {P : Pr} {f : List Int → Nat → VS σ → Bool × VS σ} {st : List Int} {z : Nat} : ∀ (us : List Int) (c : Nat) (s : VS σ) (sts : List (List Int)) (T : Nat → Prop), (∀ u ∈ us, DoneV P f (st.set z u)) →
    InT P s.nds sts (fun j => T j ∨ (c ≤ j ∧ j < c + us.length)) → (∀ j, T j → j < c) → (∀ (q : Nat) (u : Int), us[q]? = some u → sts[c + q]? = some (st.set z u)) → (visitL f st z us c s).1 = false →
    ∃ sts', InT P (visitL f st z us c s).2.nds (sts ++ sts') T
  | [], c, s, sts, T, _, h, _, _, _ => ⟨[], by rw [List.append_nil]; exact h.weak fun j => ⟨fun h => h.elim id fun h => by simp at h; omega, .inl⟩⟩
  | u :: us, c, s, sts, T, hf, h, hT, hs, hr => by
    unfold visitL at hr ⊢
    by_cases hb : (f (st.set z u) c s).1 = true
    · rw [if_pos hb] at hr; cases hr
    · rw [if_neg hb] at hr ⊢
      obtain ⟨s1, h1⟩ := hf u (by simp) c s sts _ h (.inr ⟨Nat.le_refl _, by simp⟩) (by simpa using hs 0 u rfl) (by simpa using hb)
      obtain ⟨s2, h2⟩ := visitL_done us (c + 1) _ (sts ++ s1) T (fun v hv => hf v (by simp [hv])) (h1.weak fun j => by
        constructor
        · rintro ⟨h1 | ⟨h1, h2⟩, h3⟩
          · exact .inl h1
          · rw [List.length_cons] at h2; exact .inr ⟨by omega, by omega⟩
        · rintro (h1 | ⟨h1, h2⟩)
          · have := hT j h1; exact ⟨.inl h1, by omega⟩
          · exact ⟨.inr ⟨by omega, by rw [List.length_cons]; omega⟩, by omega⟩) (fun j hj => by have := hT j hj; omega) (fun q v hv => by
        have h3 := hs (q + 1) v hv
        rw [show c + (q + 1) = c + 1 + q by omega] at h3
        rw [List.getElem?_append_left (List.getElem?_eq_some_iff.1 h3).1]
        exact h3) hr
      exact ⟨s1 ++ s2, by rw [← List.append_assoc]; exact h2⟩
theorem visitF_done {P : Pr} {limit : Nat} {each : σ → List Int → Bool × σ} (he : ∀ s l, (each s l).1 = true) (ok : PrOk P) : ∀ (m : Nat) (st : List Int), openN st ≤ m → DoneV P (visitF P limit each m) st := by
  have hB : ∀ (rec : List Int → Nat → VS σ → Bool × VS σ) (st : List Int), (∀ z, idx0 st = some z → ∀ u ∈ memZ (eligA P z), DoneV P rec (st.set z u)) → DoneV P (visitB P limit each rec) st := by
    intro rec st hrec i s sts T h hT hst hr
    unfold visitB at hr ⊢
    split at hr
    · cases hr
    · rename_i h0
      rw [if_neg h0]
      split at hr
      · rename_i h1
        rw [if_pos h1]
        refine ⟨[], ?_⟩
        rw [List.append_nil]
        refine h.leaf hT hst (.clash (.inl ?_)) rfl
        unfold BrokenB at h1
        simp only [Bool.and_eq_true] at h1
        exact h1.2
      · rename_i h1
        rw [if_neg h1]
        cases hz : idx0 st with
        | none =>
          rw [hz] at hr
          simp only [] at hr
          rw [he] at hr
          cases hr
        | some z =>
          rw [hz] at hr
          simp only [] at hr ⊢
          obtain ⟨z1, z2, _⟩ := idx0_some hz
          have hb := h.branch hT hst z1 z2
          have hlt : ∀ j, T j → j < s.nds.length := fun j hj => (List.getElem?_eq_some_iff.1 (h.todo j hj)).1
          obtain ⟨s1, h2⟩ := visitL_done (f := rec) (memZ (eligA P z)) s.nds.length (laidB P i z ⟨s.nds, s.looked + 1, s.s⟩) _ (fun j => T j ∧ j ≠ i) (hrec z hz) hb (fun j hj => hlt j hj.1) (fun q u hu => by
            have hl := h.len
            rw [List.getElem?_append_right (by omega), hl, show s.nds.length + q - s.nds.length = q by omega, List.getElem?_map, hu]; rfl) hr
          exact ⟨_, by rw [List.append_assoc] at h2; exact h2⟩
  intro m
  induction m with
  | zero =>
    intro st hm
    exact hB _ st fun z hz => by rw [openN_zero hm] at hz; cases hz
  | succ m ih =>
    intro st hm
    refine hB _ st fun z hz u hu => ih _ ?_
    obtain ⟨z1, z2, _⟩ := idx0_some hz
    have hu1 := memZ_user ok hu
    have := openN_set (u := u) z1 z2 (by omega)
    omega
end
/-- A search without an end refutes the problem. -/
theorem visitF_ref {P : Pr} {limit m : Nat} (hc : chkP P = 0) (hm : openN P.fix ≤ m) (s0 : Option (List Int)) (hr : (visitF P limit eachS m P.fix 0 ⟨[nd0], 0, s0⟩).1 = false) :
    ∃ sts, RefOk P (visitF P limit eachS m P.fix 0 ⟨[nd0], 0, s0⟩).2.nds sts := by
  have ok := chkP_ok hc
  have h0 : InT P [nd0] [P.fix] (fun j => j = 0) := by
    refine ⟨rfl, fun i x hx hn => ?_, fun i hi => ?_, by simp [kids, nd0], by simp⟩
    · cases i with
      | zero => exact absurd rfl hn
      | succ i => cases hx
    · subst hi; rfl
  obtain ⟨sts', h⟩ := visitF_done (P := P) (limit := limit) (each := eachS) (fun _ _ => rfl) ok m P.fix hm 0 ⟨[nd0], 0, s0⟩ [P.fix] _ h0 rfl rfl hr
  exact ⟨_, h.len, rfl, fun i x hx => h.node i x hx fun hh => hh.2 hh.1, h.kids⟩
/-- What a search meets is valid. -/
theorem solsF_valid {P : Pr} (hc : chkP P = 0) : ∀ (m : Nat) (st l : List Int), Part P st → l ∈ solsF P m st → ValidB P l = true ∧ Sub st l := by
  have ok := chkP_ok hc
  have hB : ∀ (rec : List Int → List (List Int)), (∀ st l, Part P st → l ∈ rec st → ValidB P l = true ∧ Sub st l) → ∀ st l, Part P st → l ∈ solsB P rec st → ValidB P l = true ∧ Sub st l := by
    intro rec hrec st l hp hl
    unfold solsB at hl
    split at hl
    · cases hl
    · rename_i hb
      cases hz : idx0 st with
      | none =>
        rw [hz] at hl
        simp only [List.mem_singleton] at hl
        subst hl
        have hb' : brk P l = false := by
          unfold BrokenB at hb
          rw [proper_of hc hp.len hp.rng] at hb
          simpa using hb
        exact ⟨hp.valid hc (idx0_none hz) hb', ⟨rfl, fun k => .inr rfl⟩⟩
      | some z =>
        rw [hz] at hl
        obtain ⟨u, hu, hl⟩ := List.mem_flatMap.1 hl
        obtain ⟨z1, z2, _⟩ := idx0_some hz
        obtain ⟨h1, h2⟩ := hrec _ l (hp.set ok z1 z2 hu) hl
        refine ⟨h1, ⟨by rw [← h2.len, List.length_set], fun k => ?_⟩⟩
        have h3 := h2.at_ k
        rw [atI_set _ _ _ _ z1] at h3
        by_cases hk : k = z
        · rw [hk, z2]; exact .inl rfl
        · rw [if_neg hk] at h3; exact h3
  intro m
  induction m with
  | zero => exact hB _ fun _ _ _ h => by cases h
  | succ m ih => exact hB _ ih
theorem valid_good {P : Pr} {l : List Int} (hv : ValidB P l = true) : Good P l := (good_of_valid hv).2.1
/-- Every valid list is met. -/
theorem solsF_all {P : Pr} (hc : chkP P = 0) : ∀ (m : Nat) (st l : List Int), openN st ≤ m → ValidB P l = true → Sub st l → l ∈ solsF P m st := by
  have ok := chkP_ok hc
  have hB : ∀ (rec : List Int → List (List Int)) (st l : List Int), ValidB P l = true → Sub st l → (∀ z, idx0 st = some z → ∀ u ∈ memZ (eligA P z), Sub (st.set z u) l → l ∈ rec (st.set z u)) → l ∈ solsB P rec st := by
    intro rec st l hv hs hrec
    have hg := valid_good hv
    unfold solsB
    rw [if_neg fun hb => by
      unfold BrokenB at hb
      simp only [Bool.and_eq_true] at hb
      have := brk_sub hs hb.2
      rw [hg.ok] at this
      cases this]
    cases hz : idx0 st with
    | none =>
      simp only [List.mem_singleton]
      refine List.ext_getElem? fun k => ?_
      by_cases hk : k < st.length
      · have h1 := hs.ne (idx0_none hz k hk)
        have hk2 : k < l.length := by rw [← hs.len]; exact hk
        rw [List.getElem?_eq_getElem hk, List.getElem?_eq_getElem hk2]
        unfold atI at h1
        rw [List.getElem?_eq_getElem hk, List.getElem?_eq_getElem hk2] at h1
        exact congrArg some h1.symm
      · have hl := hs.len
        rw [List.getElem?_eq_none (l := st) (by omega), List.getElem?_eq_none (l := l) (by omega)]
    | some z =>
      obtain ⟨z1, z2, _⟩ := idx0_some hz
      have hzl : z < l.length := by rw [← hs.len]; exact z1
      have hmem : atI l z ∈ memZ (eligA P z) := by
        have h1 := hg.elig hzl
        have h2 := mem_memM h1
        have h3 := hg.pos z hzl
        unfold memZ
        refine List.mem_map.2 ⟨(atI l z).toNat, ?_, by omega⟩
        unfold eligA
        rw [Int.toNat_natCast]
        exact h2
      exact List.mem_flatMap.2 ⟨atI l z, hmem, hrec z hz _ hmem (hs.set z1)⟩
  intro m
  induction m with
  | zero => intro st l hm hv hs; exact hB _ st l hv hs fun z hz => by rw [openN_zero hm] at hz; cases hz
  | succ m ih =>
    intro st l hm hv hs
    refine hB _ st l hv hs fun z hz u hu h => ih _ l ?_ hv h
    obtain ⟨z1, z2, _⟩ := idx0_some hz
    have hu1 := memZ_user ok hu
    have := openN_set (u := u) z1 z2 (by omega)
    omega
/-- All staffings of a problem, as the search meets them. -/
def solsL (P : Pr) : List (List Int) := solsF P P.fix.length P.fix
theorem part_fix {P : Pr} (hc : chkP P = 0) : Part P P.fix := by
  have ok := chkP_ok hc
  exact ⟨ok.fixl, ok.fixu, fun k => .inr rfl⟩
theorem solsL_mem {P : Pr} (hc : chkP P = 0) (l : List Int) : l ∈ solsL P ↔ ValidB P l = true := by
  constructor
  · exact fun h => (solsF_valid hc _ _ l (part_fix hc) h).1
  · exact fun h => solsF_all hc _ _ l (openN_le _) h (good_of_valid h).2.2
end Go.Proofs.YtcdgmdhfaniciaaDoor
/- Plain: the reference's list of all staffings is empty exactly if nothing is valid. -/
namespace Go.Proofs.YtcdgmdhfaniciaaDoor
open Go.RowKit
set_option linter.unusedVariables false
set_option linter.unusedSimpArgs false

/-- The sets are of users 0 to 4. -/
def Few32 (P : Pr) : Prop := ∀ M ∈ P.elig, M < 32
theorem mkP_32 (R : Rw) : Few32 (mkP R) := fun M hM => by
  obtain ⟨k, _, rfl⟩ := List.mem_map.1 (show M ∈ (List.range (rn R)).map (mkE R) from hM)
  unfold mkE
  omega
theorem elig_32 {P : Pr} (h : Few32 P) (z : Int) : eligA P z < 2 ^ 5 := by
  unfold eligA
  cases he : P.elig[z.toNat]? with
  | none => simp
  | some M =>
    have := h M (List.mem_of_getElem? he)
    simp only [Option.getD_some]
    omega
theorem mem5 {P : Pr} (h : Few32 P) (z : Int) : (memZ (eligA P z)).length ≤ 5 := by
  unfold memZ
  rw [List.length_map, memM_memT (elig_32 h z)]
  exact memT_len 5 _
theorem sixL_mem {l : List Int} {u : Nat} : ∀ {j : Nat}, u < j → l ++ [((u + 1 : Nat) : Int)] ∈ sixL l j
  | 0, h => absurd h (Nat.not_lt_zero _)
  | j + 1, h => by
    unfold sixL
    rcases Nat.lt_succ_iff_lt_or_eq.1 h with h1 | rfl
    · exact List.mem_append_left _ (sixL_mem h1)
    · exact List.mem_append_right _ (by simp)
theorem longL_mem : ∀ (k : Nat) (s : List Int), s.length = k → (∀ u ∈ s, 1 ≤ u ∧ u ≤ 6) → s ∈ longL k
  | 0, s, h, _ => by
    rw [List.eq_nil_of_length_eq_zero h]
    simp [longL]
  | k + 1, s, h, hu => by
    have hne : s ≠ [] := fun e => by rw [e] at h; cases h
    obtain ⟨t, v, rfl⟩ : ∃ t v, s = t ++ [v] := ⟨s.dropLast, s.getLast hne, (List.dropLast_concat_getLast hne).symm⟩
    have h1 := longL_mem k t (by simpa using h) fun u hm => hu u (List.mem_append_left _ hm)
    obtain ⟨v1, v2⟩ := hu v (by simp)
    show t ++ [v] ∈ longF (longL k)
    unfold longF
    refine List.mem_flatMap.2 ⟨t, h1, ?_⟩
    have h2 : (v.toNat - 1) < 6 := by omega
    have h3 := sixL_mem (l := t) h2
    have e : (((v.toNat - 1) + 1 : Nat) : Int) = v := by omega
    rw [e] at h3
    exact h3
theorem valid_long {P : Pr} (h : Few32 P) {s : List Int} (hv : ValidB P s = true) : s ∈ longL P.elig.length := by
  obtain ⟨hc, hg, _⟩ := good_of_valid hv
  refine longL_mem _ s hg.len fun u hu => ?_
  obtain ⟨k, hk⟩ := List.mem_iff_getElem?.1 hu
  have hkl := (List.getElem?_eq_some_iff.1 hk).1
  have ha : atI s k = u := by unfold atI; rw [hk]; rfl
  have hp := hg.pos k hkl
  have hb := hg.elig hkl
  rw [ha] at hp hb
  have he : (P.elig[k]?).getD 0 < 2 ^ 5 := by
    cases he : P.elig[k]? with
    | none => simp
    | some M =>
      have := h M (List.mem_of_getElem? he)
      simp only [Option.getD_some]
      omega
  have := bit_lt he hb
  omega
theorem allL_nil {P : Pr} (h : Few32 P) (he : allL P = []) (s : List Int) : ValidB P s = false := by
  rcases hv : ValidB P s with _ | _
  · rfl
  · have h1 : s ∈ allL P := List.mem_filter.2 ⟨valid_long h hv, hv⟩
    rw [he] at h1
    cases h1
theorem allL_some {P : Pr} (he : allL P ≠ []) : ∃ s, ValidB P s = true := by
  obtain ⟨s, hs⟩ := List.exists_mem_of_ne_nil _ he
  exact ⟨s, (List.mem_filter.1 hs).2⟩
end Go.Proofs.YtcdgmdhfaniciaaDoor
/- Plain: for users up to 6 what a search meets is the reference's list of all staffings, in its order. -/
namespace Go.Proofs.YtcdgmdhfaniciaaDoor
open Go.RowKit
set_option linter.unusedVariables false
set_option linter.unusedSimpArgs false

def six : List Int := [1, 2, 3, 4, 5, 6]
/-- All lists of k users. -/
def lexL : Nat → List (List Int)
  | 0 => [[]]
  | k + 1 => six.flatMap fun u => (lexL k).map (u :: ·)
theorem sixL_six (l : List Int) : sixL l 6 = six.map fun u => l ++ [u] := rfl
theorem lexL_snoc : ∀ k, lexL (k + 1) = (lexL k).flatMap fun l => six.map fun u => l ++ [u]
  | 0 => rfl
  | k + 1 => by
    have h : lexL (k + 2) = six.flatMap fun u => (lexL (k + 1)).map (u :: ·) := rfl
    rw [h, lexL_snoc k]
    have h2 : lexL (k + 1) = six.flatMap fun u => (lexL k).map (u :: ·) := rfl
    rw [← lexL_snoc k, h2, List.flatMap_assoc]
    rw [← h2, lexL_snoc k]
    simp only [List.map_flatMap, List.flatMap_map, List.map_map]
    rfl
theorem longL_lex : ∀ k, longL k = lexL k
  | 0 => rfl
  | k + 1 => by
    rw [lexL_snoc, ← longL_lex k]
    rfl
/-- The lists that fill the open places. -/
def extL : List Int → List (List Int)
  | [] => [[]]
  | u :: st => if u = 0 then six.flatMap fun v => (extL st).map (v :: ·) else (extL st).map (u :: ·)
def subB : List Int → List Int → Bool
  | [], [] => true
  | u :: st, v :: l => (decide (u = 0) || decide (u = v)) && subB st l
  | _, _ => false
theorem filter_flatMap' {α β : Type} (p : β → Bool) (f : α → List β) : ∀ l : List α, (l.flatMap f).filter p = l.flatMap fun x => (f x).filter p
  | [] => rfl
  | x :: l => by rw [List.flatMap_cons, List.filter_append, filter_flatMap' p f l, List.flatMap_cons]
theorem extL_sub : ∀ (st : List Int), (∀ u ∈ st, 0 ≤ u ∧ u ≤ 6) → (lexL st.length).filter (subB st) = extL st
  | [], _ => rfl
  | u :: st, h => by
    have ih := extL_sub st fun v hv => h v (by simp [hv])
    have hu := h u (by simp)
    show (six.flatMap fun v => (lexL st.length).map (v :: ·)).filter (subB (u :: st)) = _
    rw [filter_flatMap']
    have e : ∀ v : Int, ((lexL st.length).map (v :: ·)).filter (subB (u :: st)) = if (decide (u = 0) || decide (u = v)) = true then (extL st).map (v :: ·) else [] := by
      intro v
      rw [List.filter_map]
      have : (subB (u :: st) ∘ fun x => v :: x) = fun l => (decide (u = 0) || decide (u = v)) && subB st l := by
        funext l; rfl
      rw [this]
      cases hb : (decide (u = 0) || decide (u = v))
      · simp
      · simp [ih]
    simp only [e]
    rw [show extL (u :: st) = if u = 0 then six.flatMap fun v => (extL st).map (v :: ·) else (extL st).map (u :: ·) from rfl]
    generalize extL st = E
    by_cases h0 : u = 0
    · rw [if_pos h0]; simp [h0]
    · rw [if_neg h0]
      have : u = 1 ∨ u = 2 ∨ u = 3 ∨ u = 4 ∨ u = 5 ∨ u = 6 := by omega
      rcases this with rfl | rfl | rfl | rfl | rfl | rfl <;> simp [six]
theorem six_pos : ∀ v ∈ six, v ≠ 0 := by decide
theorem flatMap_congr' {α β : Type} {f g : α → List β} : ∀ {l : List α}, (∀ x ∈ l, f x = g x) → l.flatMap f = l.flatMap g
  | [], _ => rfl
  | x :: l, h => by rw [List.flatMap_cons, List.flatMap_cons, h x (by simp), flatMap_congr' fun y hy => h y (by simp [hy])]
theorem extL_idx0 : ∀ {st : List Int} {z : Nat}, idx0 st = some z → extL st = six.flatMap fun v => extL (st.set z v)
  | [], z, h => by cases h
  | u :: st, z, h => by
    unfold idx0 at h
    split at h
    · rename_i hu
      injection h with h
      subst h hu
      rw [extL, if_pos rfl]
      refine flatMap_congr' fun v hv => ?_
      rw [List.set_cons_zero, extL, if_neg (six_pos v hv)]
    · rename_i hu
      cases hx : idx0 st with
      | none => rw [hx] at h; cases h
      | some y =>
        rw [hx] at h
        injection h with h
        subst h
        rw [extL, if_neg hu, extL_idx0 hx, List.map_flatMap]
        refine flatMap_congr' fun v hv => ?_
        rw [List.set_cons_succ, extL, if_neg hu]
theorem extL_full : ∀ {st : List Int}, idx0 st = none → extL st = [st]
  | [], _ => rfl
  | u :: st, h => by
    unfold idx0 at h
    split at h
    · cases h
    · rename_i hu
      rw [extL, if_neg hu, extL_full (st := st) (by cases hx : idx0 st <;> simp [hx] at h ⊢)]
      rfl
theorem extL_mem : ∀ {st l : List Int}, l ∈ extL st → Sub st l
  | [], l, h => by
    simp only [extL, List.mem_singleton] at h
    subst h
    exact ⟨rfl, fun k => .inl (by simp [atI])⟩
  | u :: st, l, h => by
    have key : ∀ v l', l' ∈ extL st → (u = 0 ∨ u = v) → Sub (u :: st) (v :: l') := fun v l' hl huv => by
      have h1 := extL_mem hl
      refine ⟨by simp [h1.len], fun k => ?_⟩
      cases k with
      | zero => exact huv
      | succ k => exact h1.at_ k
    unfold extL at h
    split at h
    · rename_i hu
      obtain ⟨v, _, h2⟩ := List.mem_flatMap.1 h
      obtain ⟨l', h3, rfl⟩ := List.mem_map.1 h2
      exact key v l' h3 (.inl hu)
    · obtain ⟨l', h3, rfl⟩ := List.mem_map.1 h
      exact key u l' h3 (.inr rfl)
/-- The sets are of users 1 to 6. -/
def Few128 (P : Pr) : Prop := ∀ M ∈ P.elig, M < 128
theorem elig_128 {P : Pr} (h : Few128 P) (z : Int) : eligA P z < 2 ^ 7 := by
  unfold eligA
  cases he : P.elig[z.toNat]? with
  | none => simp
  | some M =>
    have := h M (List.mem_of_getElem? he)
    simp only [Option.getD_some]
    omega
theorem elig_bit0 {P : Pr} (ok : PrOk P) (z : Int) : (eligA P z).testBit 0 = false := by
  unfold eligA
  cases he : P.elig[z.toNat]? with
  | none => simp
  | some M => exact (ok.eli M (List.mem_of_getElem? he)).1
theorem memZ_six {M : Nat} (h : M < 2 ^ 7) (h0 : M.testBit 0 = false) : memZ M = six.filter fun u => M.testBit u.toNat := by
  unfold memZ
  rw [memM_memT h]
  unfold memT
  have e : (List.range 7) = 0 :: [1, 2, 3, 4, 5, 6] := by decide
  have e2 : six = ([1, 2, 3, 4, 5, 6] : List Nat).map fun x : Nat => (x : Int) := rfl
  rw [e, List.filter_cons, h0, e2, List.filter_map]
  rfl
theorem flatMap_filter_nil {α β : Type} {p : α → Bool} {f : α → List β} : ∀ {l : List α}, (∀ x ∈ l, p x = false → f x = []) → (l.filter p).flatMap f = l.flatMap f
  | [], _ => rfl
  | x :: l, h => by
    have ih := flatMap_filter_nil (l := l) fun y hy => h y (by simp [hy])
    rw [List.filter_cons, List.flatMap_cons]
    cases hp : p x
    · rw [h x (by simp) hp]; simpa using ih
    · simp [ih]
theorem solsF_ext {P : Pr} (hc : chkP P = 0) (hf : Few128 P) : ∀ (m : Nat) (st : List Int), openN st ≤ m → Part P st → solsF P m st = (extL st).filter (ValidB P) := by
  have ok := chkP_ok hc
  have hB : ∀ (rec : List Int → List (List Int)) (st : List Int), Part P st → (∀ z, idx0 st = some z → ∀ u ∈ memZ (eligA P z), rec (st.set z u) = (extL (st.set z u)).filter (ValidB P)) → solsB P rec st = (extL st).filter (ValidB P) := by
    intro rec st hp hrec
    have hpr := proper_of hc hp.len hp.rng
    unfold solsB
    split
    · rename_i hb
      symm
      refine List.filter_eq_nil_iff.2 fun l hl hv => ?_
      have hs := extL_mem hl
      unfold BrokenB at hb
      simp only [Bool.and_eq_true] at hb
      have := brk_sub hs hb.2
      rw [(valid_good hv).ok] at this
      cases this
    · rename_i hb
      cases hz : idx0 st with
      | none =>
        simp only []
        have hb' : brk P st = false := by
          unfold BrokenB at hb
          rw [hpr] at hb
          simpa using hb
        rw [extL_full hz, List.filter_cons, hp.valid hc (idx0_none hz) hb']
        rfl
      | some z =>
        simp only []
        obtain ⟨z1, z2, _⟩ := idx0_some hz
        rw [extL_idx0 hz, filter_flatMap', flatMap_congr' (hrec z hz), memZ_six (elig_128 hf z) (elig_bit0 ok z)]
        refine flatMap_filter_nil fun u hu hn => ?_
        refine List.filter_eq_nil_iff.2 fun l hl hv => ?_
        have hs := extL_mem hl
        have hg := valid_good hv
        have hzl : z < l.length := by rw [← hs.len, List.length_set]; exact z1
        have h1 := hg.elig hzl
        have h2 := hs.ne (k := z) (by rw [atI_set _ _ _ _ z1, if_pos rfl]; exact six_pos u hu)
        rw [atI_set _ _ _ _ z1, if_pos rfl] at h2
        unfold eligA at hn
        rw [Int.toNat_natCast, h2, h1] at hn
        cases hn
  intro m
  induction m with
  | zero => intro st hm hp; exact hB _ st hp fun z hz => by rw [openN_zero hm] at hz; cases hz
  | succ m ih =>
    intro st hm hp
    refine hB _ st hp fun z hz u hu => ?_
    obtain ⟨z1, z2, _⟩ := idx0_some hz
    have hu1 := memZ_user ok hu
    have := openN_set (u := u) z1 z2 (by omega)
    exact ih _ (by omega) (hp.set ok z1 z2 hu)
theorem subB_of : ∀ {st l : List Int}, Sub st l → subB st l = true
  | [], [], _ => rfl
  | [], v :: l, h => by have := h.len; simp at this
  | u :: st, [], h => by have := h.len; simp at this
  | u :: st, v :: l, h => by
    have h0 := h.at_ 0
    have h1 : Sub st l := ⟨by have := h.len; simpa using this, fun k => h.at_ (k + 1)⟩
    unfold subB
    rw [subB_of h1]
    simp only [atI, List.getElem?_cons_zero, Option.getD_some] at h0
    simpa using h0
/-- All staffings. -/
theorem solsL_all {P : Pr} (hc : chkP P = 0) (hf : Few128 P) (h6 : ∀ u ∈ P.fix, u ≤ 6) : solsL P = allL P := by
  have ok := chkP_ok hc
  unfold solsL allL
  rw [solsF_ext hc hf _ _ (openN_le _) (part_fix hc), longL_lex, ← ok.fixl, ← extL_sub P.fix fun u hu => ⟨(ok.fixu u hu).1, h6 u hu⟩, List.filter_filter]
  refine List.filter_congr fun l _ => ?_
  cases hv : ValidB P l
  · rfl
  · rw [subB_of (good_of_valid hv).2.2]; rfl
theorem few128_of {P : Pr} (h : Few32 P) : Few128 P := fun M hM => by have := h M hM; omega
end Go.Proofs.YtcdgmdhfaniciaaDoor
/- Plain: the users that some staffing gives to a step, and those in every one. -/
namespace Go.Proofs.YtcdgmdhfaniciaaDoor
open Go.RowKit
set_option linter.unusedVariables false
set_option linter.unusedSimpArgs false

/-- Whether there is a staffing. -/
def solvB (P : Pr) : Bool := decide (chkP P = 0) && !(solsL P).isEmpty
theorem solvB_iff {P : Pr} (hc : chkP P = 0) : solvB P = true ↔ ∃ l, ValidB P l = true := by
  unfold solvB
  simp only [hc, decide_true, Bool.true_and, Bool.not_eq_true']
  constructor
  · intro h
    obtain ⟨l, hl⟩ := List.exists_mem_of_ne_nil (solsL P) (by intro e; rw [e] at h; cases h)
    exact ⟨l, (solsL_mem hc l).1 hl⟩
  · rintro ⟨l, hl⟩
    have := (solsL_mem hc l).2 hl
    cases hs : solsL P with
    | nil => rw [hs] at this; cases this
    | cons a b => rfl
/-- A step is fixed. -/
def setFix (P : Pr) (k : Nat) (u : Int) : Pr := ⟨P.elig, P.dif, P.sam, P.mst, P.fix.set k u⟩
theorem brk_setFix (P : Pr) (k : Nat) (u : Int) (l : List Int) : brk (setFix P k u) l = brk P l := rfl
theorem any_fix_set {l : List Int} {k : Nat} {u : Int} (h : l.any fixBad = false) (hu : 0 ≤ u ∧ u ≤ 256) : (l.set k u).any fixBad = false := by
  refine Bool.eq_false_iff.2 fun hb => ?_
  obtain ⟨v, hv, h2⟩ := List.any_eq_true.1 hb
  rcases List.mem_or_eq_of_mem_set hv with h1 | h1
  · exact List.any_eq_false.1 h v h1 h2
  · subst h1
    unfold fixBad at h2
    have h3 := of_decide_eq_true h2
    omega
theorem fixBad_of {P : Pr} (ok : PrOk P) : P.fix.any fixBad = false := by
  refine Bool.eq_false_iff.2 fun hb => ?_
  obtain ⟨v, hv, hb⟩ := List.any_eq_true.1 hb
  have := ok.fixu v hv
  unfold fixBad at hb
  simp only [decide_eq_true_eq] at hb
  omega
theorem chkP_of {P : Pr} (ok : PrOk P) : chkP P = 0 := by
  unfold chkP
  rw [if_neg ok.n0, if_neg (by have := ok.n10; have := ok.d20; have := ok.s20; have := ok.m20; omega), if_neg (by simpa using ok.fixl)]
  rw [if_neg (by
    rw [Bool.not_eq_true]
    refine List.any_eq_false.2 fun M hM hb => ?_
    obtain ⟨h1, h2⟩ := ok.eli M hM
    unfold eligBad at hb
    rw [h1, withinB_pow (M := M) (n := 257), decide_eq_true h2] at hb
    cases hb)]
  rw [if_neg (by rw [fixBad_of ok]; simp)]
  rw [chkPairs_zero ok.difu, chkPairs_zero ok.samu, if_neg (by simp), if_neg (by simp)]
  rw [if_neg (by
    rw [Bool.not_eq_true]
    refine List.any_eq_false.2 fun m hm hb => ?_
    obtain ⟨h1, h2, h3, h4⟩ := ok.mstu m hm
    unfold mstBad at hb
    rw [withinB_pow, decide_eq_true h4] at hb
    simp only [Bool.or_eq_true, decide_eq_true_eq, Bool.not_true, Bool.false_eq_true, or_false] at hb
    omega)]
theorem ok_setFix {P : Pr} (ok : PrOk P) {k : Nat} {u : Int} (hu : 0 ≤ u ∧ u ≤ 256) : PrOk (setFix P k u) :=
  ⟨ok.n0, ok.n10, ok.d20, ok.s20, ok.m20, by show (P.fix.set k u).length = _; rw [List.length_set]; exact ok.fixl, ok.eli, fun v hv => by
    rcases List.mem_or_eq_of_mem_set hv with h1 | rfl
    · exact ok.fixu v h1
    · exact hu, ok.difu, ok.samu, ok.mstu⟩
/-- What is valid, in parts. -/
theorem valid_iff {P : Pr} (hc : chkP P = 0) (l : List Int) : ValidB P l = true ↔ (l.length = P.elig.length ∧ (∀ u ∈ l, 1 ≤ u ∧ u ≤ 256) ∧ brk P l = false ∧ ∀ k, atI P.fix k = 0 ∨ atI P.fix k = atI l k) := by
  constructor
  · intro h
    obtain ⟨_, hg, hs⟩ := good_of_valid h
    refine ⟨hg.len, fun u hu => ?_, hg.ok, hs.at_⟩
    obtain ⟨k, hk⟩ := List.mem_iff_getElem?.1 hu
    have h1 := hg.pos k (List.getElem?_eq_some_iff.1 hk).1
    have h2 : atI l k = u := by unfold atI; rw [hk]; rfl
    unfold ValidB at h
    simp only [Bool.and_eq_true] at h
    have h3 := (proper_ok h.1.1.1).2.2 u hu
    omega
  · rintro ⟨h1, h2, h3, h4⟩
    refine Part.valid hc ⟨h1, fun u hu => by have := h2 u hu; omega, h4⟩ (fun k hk => ?_) h3
    have := h2 l[k] (List.getElem_mem hk)
    unfold atI
    rw [List.getElem?_eq_getElem hk]
    simp only [Option.getD_some]
    omega
theorem valid_setFix {P : Pr} (hc : chkP P = 0) {k : Nat} {u : Int} (hk : k < P.elig.length) (hu : 1 ≤ u ∧ u ≤ 256) (hf : atI P.fix k = 0 ∨ atI P.fix k = u) (l : List Int) :
    ValidB (setFix P k u) l = true ↔ ValidB P l = true ∧ atI l k = u := by
  have ok := chkP_ok hc
  have hc' : chkP (setFix P k u) = 0 := chkP_of (ok_setFix ok (by omega))
  have hkf : k < P.fix.length := by rw [ok.fixl]; exact hk
  have he : ∀ j, atI (setFix P k u).fix j = if j = k then u else atI P.fix j := fun j => atI_set _ _ _ _ hkf
  rw [valid_iff hc', valid_iff hc, brk_setFix]
  constructor
  · rintro ⟨h1, h2, h3, h4⟩
    have h5 := h4 k
    rw [he, if_pos rfl] at h5
    refine ⟨⟨h1, h2, h3, fun j => ?_⟩, by omega⟩
    by_cases hj : j = k
    · subst hj; omega
    · have := h4 j
      rw [he, if_neg hj] at this
      exact this
  · rintro ⟨⟨h1, h2, h3, h4⟩, h5⟩
    refine ⟨h1, h2, h3, fun j => ?_⟩
    rw [he]
    by_cases hj : j = k
    · rw [if_pos hj, hj]; exact .inr h5.symm
    · rw [if_neg hj]; exact h4 j
/-- The users that some staffing gives to step k. -/
def possK (P : Pr) (k : Nat) : List Int := if solvB P = true then (memZ (eligA P (k : Int))).filter (fun u => (decide (atI P.fix k = 0) || decide (atI P.fix k = u)) && solvB (setFix P k u)) else []
theorem valid_len {P : Pr} {l : List Int} (h : ValidB P l = true) : l.length = P.elig.length := (valid_good h).len
theorem valid_elig {P : Pr} {l : List Int} (h : ValidB P l = true) {k : Nat} (hk : k < P.elig.length) : atI l k ∈ memZ (eligA P (k : Int)) := by
  have hg := valid_good h
  have hkl : k < l.length := by rw [hg.len]; exact hk
  have h2 := mem_memM (hg.elig hkl)
  have h3 := hg.pos k hkl
  unfold memZ
  refine List.mem_map.2 ⟨(atI l k).toNat, ?_, by omega⟩
  unfold eligA
  rw [Int.toNat_natCast]
  exact h2
theorem possK_spec {P : Pr} (hc : chkP P = 0) {k : Nat} (hk : k < P.elig.length) {u : Int} : u ∈ possK P k ↔ ∃ l, ValidB P l = true ∧ atI l k = u := by
  have ok := chkP_ok hc
  unfold possK
  constructor
  · intro h
    split at h
    · obtain ⟨h1, h2⟩ := List.mem_filter.1 h
      simp only [Bool.and_eq_true, Bool.or_eq_true, decide_eq_true_eq] at h2
      have hu := memZ_user ok h1
      obtain ⟨l, hl⟩ := (solvB_iff (chkP_of (ok_setFix ok (by omega)))).1 h2.2
      exact ⟨l, (valid_setFix hc hk hu h2.1 l).1 hl⟩
    · cases h
  · rintro ⟨l, hl, rfl⟩
    rw [if_pos ((solvB_iff hc).2 ⟨l, hl⟩)]
    have hm := valid_elig hl hk
    have hu := memZ_user ok hm
    have hf := ((valid_iff hc l).1 hl).2.2.2 k
    refine List.mem_filter.2 ⟨hm, ?_⟩
    simp only [Bool.and_eq_true, Bool.or_eq_true, decide_eq_true_eq]
    exact ⟨hf, (solvB_iff (chkP_of (ok_setFix ok (by omega)))).2 ⟨l, (valid_setFix hc hk hu hf l).2 ⟨hl, rfl⟩⟩⟩
theorem possK_six {P : Pr} (hc : chkP P = 0) (hf : Few128 P) {k : Nat} (hk : k < P.elig.length) {f : Int → Bool} (h : ∀ u ∈ six, f u = true ↔ ∃ l, ValidB P l = true ∧ atI l k = u) : possK P k = six.filter f := by
  have ok := chkP_ok hc
  have h1 : possK P k = six.filter fun u => decide (u ∈ possK P k) := by
    conv => lhs; unfold possK
    split
    · rename_i hs
      rw [memZ_six (elig_128 hf _) (elig_bit0 ok _), List.filter_filter]
      refine List.filter_congr fun u hu => ?_
      rw [Bool.eq_iff_iff]
      simp only [decide_eq_true_eq]
      unfold possK
      rw [if_pos hs, memZ_six (elig_128 hf _) (elig_bit0 ok _), List.filter_filter, List.mem_filter]
      simp [hu]
    · rename_i hs
      symm
      refine List.filter_eq_nil_iff.2 fun u hu hn => ?_
      simp only [decide_eq_true_eq] at hn
      unfold possK at hn
      rw [if_neg hs] at hn
      cases hn
  rw [h1]
  refine List.filter_congr fun u hu => ?_
  rw [Bool.eq_iff_iff, h u hu]
  simp only [decide_eq_true_eq]
  exact possK_spec hc hk
/-- A set without a user. -/
def clrU (M u : Nat) : Nat := if M.testBit u = true then M ^^^ 2 ^ u else M
theorem clrU_bit (M u j : Nat) : (clrU M u).testBit j = (M.testBit j && !decide (j = u)) := by
  unfold clrU
  by_cases h : M.testBit u = true
  · rw [if_pos h, Nat.testBit_xor, Nat.testBit_two_pow]
    by_cases hj : j = u
    · subst hj; simp [h]
    · simp [hj, Ne.symm hj]
  · rw [if_neg h]
    by_cases hj : j = u
    · subst hj; simp [h]
    · simp [hj]
theorem clrU_lt {M u n : Nat} (h : M < 2 ^ n) : clrU M u < 2 ^ n := by
  refine Nat.lt_pow_two_of_testBit _ fun i hi => ?_
  rw [clrU_bit, Nat.testBit_lt_two_pow (Nat.lt_of_lt_of_le h (Nat.pow_le_pow_right (by decide) hi))]
  rfl
/-- A problem without a user. -/
def without (P : Pr) (u : Nat) : Pr := ⟨P.elig.map (clrU · u), P.dif, P.sam, P.mst, P.fix⟩
theorem ok_without {P : Pr} (ok : PrOk P) (u : Nat) : PrOk (without P u) :=
  ⟨by simpa [without] using ok.n0, by simpa [without] using ok.n10, ok.d20, ok.s20, ok.m20, by simpa [without] using ok.fixl, fun M hM => by
    obtain ⟨N, hN, rfl⟩ := List.mem_map.1 hM
    obtain ⟨h1, h2⟩ := ok.eli N hN
    exact ⟨by rw [clrU_bit, h1]; rfl, clrU_lt (n := 257) h2⟩, ok.fixu, by simpa [without] using ok.difu, by simpa [without] using ok.samu, by simpa [without] using ok.mstu⟩
theorem brkE_without {P : Pr} {u : Nat} {l : List Int} {k : Nat} (hk : k < P.elig.length) : brkE (without P u).elig l k = (brkE P.elig l k || (decide (atI l k ≠ 0) && decide ((atI l k).toNat = u))) := by
  unfold brkE without
  simp only [List.getElem?_map, List.getElem?_eq_getElem hk, Option.map_some, Option.getD_some, clrU_bit]
  cases decide (atI l k ≠ 0) <;> cases (P.elig[k]).testBit (atI l k).toNat <;> cases decide ((atI l k).toNat = u) <;> rfl
theorem any_or2 {α : Type} (f g : α → Bool) : ∀ l : List α, (l.any f || l.any g) = l.any fun x => f x || g x
  | [] => rfl
  | x :: l => by
    rw [List.any_cons, List.any_cons, List.any_cons, ← any_or2 f g l]
    cases f x <;> cases g x <;> cases l.any f <;> cases l.any g <;> rfl
theorem brk_without {P : Pr} {u : Nat} {l : List Int} (hl : l.length = P.elig.length) : brk (without P u) l = (brk P l || (List.range l.length).any fun k => decide (atI l k ≠ 0) && decide ((atI l k).toNat = u)) := by
  have e : (List.range l.length).any (brkE (without P u).elig l) = ((List.range l.length).any (brkE P.elig l) || (List.range l.length).any fun k => decide (atI l k ≠ 0) && decide ((atI l k).toNat = u)) := by
    rw [any_or2]
    have h : ∀ L : List Nat, (∀ k ∈ L, k < P.elig.length) → L.any (brkE (without P u).elig l) = L.any fun k => brkE P.elig l k || (decide (atI l k ≠ 0) && decide ((atI l k).toNat = u)) := by
      intro L
      induction L with
      | nil => intro _; rfl
      | cons a L ih => intro h; rw [List.any_cons, List.any_cons, brkE_without (h a (by simp)), ih fun k hk => h k (by simp [hk])]
    exact h _ fun k hk => by rw [← hl]; exact List.mem_range.1 hk
  unfold brk
  rw [e]
  simp only [without]
  cases (List.range l.length).any (brkE P.elig l) <;> cases ((List.range l.length).any fun k => decide (atI l k ≠ 0) && decide ((atI l k).toNat = u)) <;> simp
theorem valid_without {P : Pr} (hc : chkP P = 0) (u : Nat) (hu : 1 ≤ u) (l : List Int) : ValidB (without P u) l = true ↔ ValidB P l = true ∧ (u : Int) ∉ l := by
  have ok := chkP_ok hc
  have hc' : chkP (without P u) = 0 := chkP_of (ok_without ok u)
  rw [valid_iff hc', valid_iff hc]
  have e1 : (without P u).elig.length = P.elig.length := by simp [without]
  have e2 : (without P u).fix = P.fix := rfl
  rw [e1, e2]
  constructor
  · rintro ⟨h1, h2, h3, h4⟩
    rw [brk_without h1, Bool.or_eq_false_iff] at h3
    refine ⟨⟨h1, h2, h3.1, h4⟩, fun hm => ?_⟩
    obtain ⟨k, hk⟩ := List.mem_iff_getElem?.1 hm
    have hkl := (List.getElem?_eq_some_iff.1 hk).1
    have ha : atI l k = (u : Int) := by unfold atI; rw [hk]; rfl
    have h5 := List.any_eq_false.1 h3.2 k (List.mem_range.2 hkl)
    rw [ha] at h5
    simp only [Bool.and_eq_true, decide_eq_true_eq] at h5
    omega
  · rintro ⟨⟨h1, h2, h3, h4⟩, h5⟩
    refine ⟨h1, h2, ?_, h4⟩
    rw [brk_without h1, h3, Bool.false_or]
    refine List.any_eq_false.2 fun k hk hb => ?_
    have hkl := List.mem_range.1 hk
    simp only [Bool.and_eq_true, decide_eq_true_eq] at hb
    have h6 := h2 l[k] (List.getElem_mem hkl)
    have ha : atI l k = l[k] := by unfold atI; rw [List.getElem?_eq_getElem hkl]; rfl
    rw [ha] at hb
    refine h5 ?_
    have : l[k] = (u : Int) := by omega
    rw [← this]
    exact List.getElem_mem hkl
/-- All eligible users. -/
def unionA (P : Pr) : Nat := P.elig.foldl (· ||| ·) 0
theorem foldl_or_bit (x : Nat) : ∀ (l : List Nat) (a : Nat), (l.foldl (· ||| ·) a).testBit x = (a.testBit x || l.any fun M => M.testBit x)
  | [], a => by simp
  | M :: l, a => by rw [List.foldl_cons, foldl_or_bit x l, Nat.testBit_or, List.any_cons, Bool.or_assoc]
theorem unionA_bit (P : Pr) (x : Nat) : (unionA P).testBit x = P.elig.any fun M => M.testBit x := by
  unfold unionA; rw [foldl_or_bit]; simp
/-- The users without whom there is no staffing. -/
def critL (P : Pr) : List Int := if solvB P = true then (memZ (unionA P)).filter (fun u => !solvB (without P u.toNat)) else []
theorem unionA_lt {P : Pr} {n : Nat} (h : ∀ M ∈ P.elig, M < 2 ^ n) : unionA P < 2 ^ n := by
  refine Nat.lt_pow_two_of_testBit _ fun i hi => ?_
  rw [unionA_bit]
  refine List.any_eq_false.2 fun M hM hb => ?_
  rw [Nat.testBit_lt_two_pow (Nat.lt_of_lt_of_le (h M hM) (Nat.pow_le_pow_right (by decide) hi))] at hb
  cases hb
theorem critL_spec {P : Pr} (hc : chkP P = 0) (u : Int) : u ∈ critL P ↔ 1 ≤ u ∧ (∃ l, ValidB P l = true) ∧ ∀ l, ValidB P l = true → u ∈ l := by
  have ok := chkP_ok hc
  unfold critL
  constructor
  · intro h
    split at h
    · rename_i hs
      obtain ⟨h1, h2⟩ := List.mem_filter.1 h
      unfold memZ at h1
      obtain ⟨x, hx, rfl⟩ := List.mem_map.1 h1
      have hb := memM_bit hx
      rw [unionA_bit] at hb
      obtain ⟨M, hM, hb⟩ := List.any_eq_true.1 hb
      have hx0 : x ≠ 0 := fun e => by subst e; rw [(ok.eli M hM).1] at hb; cases hb
      refine ⟨by omega, (solvB_iff hc).1 hs, fun l hl => ?_⟩
      by_cases hm : (x : Int) ∈ l
      · exact hm
      · have := (solvB_iff (chkP_of (ok_without ok x))).2 ⟨l, (valid_without hc x (by omega) l).2 ⟨hl, hm⟩⟩
        rw [Int.toNat_natCast, this] at h2
        cases h2
    · cases h
  · rintro ⟨h0, ⟨l, hl⟩, hall⟩
    rw [if_pos ((solvB_iff hc).2 ⟨l, hl⟩)]
    obtain ⟨x, rfl⟩ : ∃ x : Nat, u = (x : Int) := ⟨u.toNat, by omega⟩
    refine List.mem_filter.2 ⟨?_, ?_⟩
    · have hm := hall l hl
      obtain ⟨k, hk⟩ := List.mem_iff_getElem?.1 hm
      have hkl := (List.getElem?_eq_some_iff.1 hk).1
      have ha : atI l k = (x : Int) := by unfold atI; rw [hk]; rfl
      have hg := valid_good hl
      have hb := hg.elig hkl
      rw [ha, Int.toNat_natCast] at hb
      unfold memZ
      refine List.mem_map.2 ⟨x, mem_memM ?_, rfl⟩
      rw [unionA_bit]
      have hke : k < P.elig.length := by rw [← hg.len]; exact hkl
      rw [List.getElem?_eq_getElem hke] at hb
      exact List.any_eq_true.2 ⟨_, List.getElem_mem hke, hb⟩
    · rw [Int.toNat_natCast]
      cases hs : solvB (without P x) with
      | false => rfl
      | true =>
        obtain ⟨l', hl'⟩ := (solvB_iff (chkP_of (ok_without ok x))).1 hs
        have h2 := (valid_without hc x (by omega) l').1 hl'
        exact absurd (hall l' h2.1) h2.2
theorem critL_six {P : Pr} (hc : chkP P = 0) (hf : Few128 P) {f : Int → Bool} (h : ∀ u ∈ six, f u = true ↔ (∃ l, ValidB P l = true) ∧ ∀ l, ValidB P l = true → u ∈ l) : critL P = six.filter f := by
  have ok := chkP_ok hc
  have hu : unionA P < 2 ^ 7 := unionA_lt fun M hM => hf M hM
  have h0 : (unionA P).testBit 0 = false := by
    rw [unionA_bit]
    refine List.any_eq_false.2 fun M hM hb => ?_
    rw [(ok.eli M hM).1] at hb
    cases hb
  have h1 : critL P = six.filter fun u => decide (u ∈ critL P) := by
    conv => lhs; unfold critL
    split
    · rename_i hs
      rw [memZ_six hu h0, List.filter_filter]
      refine List.filter_congr fun u hm => ?_
      rw [Bool.eq_iff_iff]
      simp only [decide_eq_true_eq]
      unfold critL
      rw [if_pos hs, memZ_six hu h0, List.filter_filter, List.mem_filter]
      simp [hm]
    · rename_i hs
      symm
      refine List.filter_eq_nil_iff.2 fun u hm hn => ?_
      simp only [decide_eq_true_eq] at hn
      unfold critL at hn
      rw [if_neg hs] at hn
      cases hn
  have hp : ∀ u ∈ six, 1 ≤ u := by decide
  rw [h1]
  refine List.filter_congr fun u hm => ?_
  rw [Bool.eq_iff_iff, h u hm]
  simp only [decide_eq_true_eq]
  rw [critL_spec hc]
  exact ⟨fun h => h.2, fun h2 => ⟨hp u hm, h2⟩⟩
end Go.Proofs.YtcdgmdhfaniciaaDoor
