/- Plain: the search of a staffing as a function, and the list of the staffings that it meets. -/
import Derived.Test.YtfnhaoindehjdaaDoorPm
import Derived.Test.YtfnhaoindehjdaaDoorPj
namespace Go.Proofs.YtfnhaoindehjdaaDoor
open Go.RowKit
set_option linter.unusedVariables false
set_option linter.unusedSimpArgs false

/-- The first open step. -/
def idx0 : List Int → Option Nat
  | [] => none
  | u :: l => if u = 0 then some 0 else (idx0 l).map (· + 1)
theorem idx0_none : ∀ {l : List Int}, idx0 l = none → ∀ k, k < l.length → atI l k ≠ 0
  | [], _, k, hk => by simp at hk
  | u :: l, h, k, hk => by
    unfold idx0 at h
    split at h
    · cases h
    · rename_i hu
      cases k with
      | zero => exact hu
      | succ k => exact idx0_none (l := l) (by cases hx : idx0 l <;> simp [hx] at h ⊢) k (by simpa using hk)
theorem idx0_some : ∀ {l : List Int} {z : Nat}, idx0 l = some z → z < l.length ∧ atI l z = 0 ∧ ∀ k, k < z → atI l k ≠ 0
  | [], z, h => by cases h
  | u :: l, z, h => by
    unfold idx0 at h
    split at h
    · rename_i hu
      injection h with h
      subst h
      exact ⟨by simp, hu, fun k hk => absurd hk (Nat.not_lt_zero _)⟩
    · rename_i hu
      cases hx : idx0 l with
      | none => rw [hx] at h; cases h
      | some y =>
        rw [hx] at h
        injection h with h
        subst h
        obtain ⟨h1, h2, h3⟩ := idx0_some hx
        refine ⟨by simpa using h1, h2, fun k hk => ?_⟩
        cases k with
        | zero => exact hu
        | succ k => exact h3 k (Nat.lt_of_succ_lt_succ hk)
/-- The state of a search: the nodes, how many partial staffings it looked at, and what the caller keeps. -/
structure VS (σ : Type) where
  nds : List Nd
  looked : Nat
  s : σ
/-- The numbers of n new nodes. -/
def kidsN (c0 n : Nat) : List Int := (List.range n).map fun q => ((c0 + q : Nat) : Int)
def fullB (limit looked : Nat) : Bool := decide (0 < limit) && decide (limit < looked)
section
variable {σ : Type}
/-- The children of a node, one after the other. -/
def visitL (f : List Int → Nat → VS σ → Bool × VS σ) (st : List Int) (z : Nat) : List Int → Nat → VS σ → Bool × VS σ
  | [], _, s => (false, s)
  | u :: us, c, s => if (f (st.set z u) c s).1 = true then (true, (f (st.set z u) c s).2) else visitL f st z us (c + 1) (f (st.set z u) c s).2
/-- A Branch is laid. -/
def laidB (P : Pr) (node z : Nat) (s : VS σ) : VS σ :=
  ⟨(s.nds ++ List.replicate (memZ (eligA P z)).length nd0).set node ⟨1, z, kidsN s.nds.length (memZ (eligA P z)).length, []⟩, s.looked, s.s⟩
/-- One step of the search. -/
def visitB (P : Pr) (limit : Nat) (each : σ → List Int → Bool × σ) (rec : List Int → Nat → VS σ → Bool × VS σ) (st : List Int) (node : Nat) (s : VS σ) : Bool × VS σ :=
  if fullB limit (s.looked + 1) = true then (true, ⟨s.nds, s.looked + 1, s.s⟩)
  else if BrokenB P st = true then (false, ⟨s.nds.set node ⟨2, 0, [], []⟩, s.looked + 1, s.s⟩)
  else match idx0 st with
    | none => ((each s.s st).1, ⟨s.nds, s.looked + 1, (each s.s st).2⟩)
    | some z => visitL rec st z (memZ (eligA P z)) s.nds.length (laidB P node z ⟨s.nds, s.looked + 1, s.s⟩)
/-- The search. -/
def visitF (P : Pr) (limit : Nat) (each : σ → List Int → Bool × σ) : Nat → List Int → Nat → VS σ → Bool × VS σ
  | 0 => visitB P limit each fun _ _ s => (false, s)
  | m + 1 => visitB P limit each (visitF P limit each m)
/-- How many nodes a search makes at most, with K users for a step. -/
def bnd (K : Nat) : Nat → Nat
  | 0 => 0
  | m + 1 => K + K * bnd K m
theorem bnd_step {K m a L i : Nat} (hi : i < a) (ha : a ≤ K) : L + a + i * bnd K m + bnd K m ≤ L + bnd K (m + 1) := by
  show _ ≤ L + (K + K * bnd K m)
  have h1 : (i + 1) * bnd K m ≤ K * bnd K m := Nat.mul_le_mul_right _ (by omega)
  rw [Nat.add_mul, Nat.one_mul] at h1
  omega
theorem kidsN_len (c n : Nat) : (kidsN c n).length = n := by simp [kidsN]
theorem laidB_len (P : Pr) (node z : Nat) (s : VS σ) : (laidB P node z s).nds.length = s.nds.length + (memZ (eligA P z)).length := by
  simp [laidB]
theorem visitL_le {f : List Int → Nat → VS σ → Bool × VS σ} {st : List Int} {z b : Nat} :
    ∀ (us : List Int) (c : Nat) (s : VS σ), (∀ u ∈ us, ∀ node s, (f (st.set z u) node s).2.nds.length ≤ s.nds.length + b ∧ (f (st.set z u) node s).2.looked ≤ s.looked + 1 + b) →
      (visitL f st z us c s).2.nds.length ≤ s.nds.length + us.length * b ∧ (visitL f st z us c s).2.looked ≤ s.looked + us.length * (1 + b)
  | [], c, s, _ => by simp [visitL]
  | u :: us, c, s, hf => by
    have h1 := hf u (by simp) c s
    have h2 := visitL_le us (c + 1) (f (st.set z u) c s).2 fun v hv => hf v (by simp [hv])
    unfold visitL
    have e1 : (us.length + 1) * b = us.length * b + b := Nat.succ_mul _ _
    have e2 : (us.length + 1) * (1 + b) = us.length * (1 + b) + (1 + b) := Nat.succ_mul _ _
    rw [List.length_cons, e1, e2]
    split
    · exact ⟨by simp only []; omega, by simp only []; omega⟩
    · exact ⟨by omega, by omega⟩
theorem visitB_le {P : Pr} {limit : Nat} {each : σ → List Int → Bool × σ} {rec : List Int → Nat → VS σ → Bool × VS σ} {K b : Nat} (hK : ∀ z : Nat, (memZ (eligA P z)).length ≤ K) (st : List Int) (node : Nat) (s : VS σ)
    (hf : ∀ z, idx0 st = some z → ∀ u ∈ memZ (eligA P z), ∀ node s, (rec (st.set z u) node s).2.nds.length ≤ s.nds.length + b ∧ (rec (st.set z u) node s).2.looked ≤ s.looked + 1 + b) :
    (visitB P limit each rec st node s).2.nds.length ≤ s.nds.length + (K + K * b) ∧ (visitB P limit each rec st node s).2.looked ≤ s.looked + 1 + (K + K * b) := by
  unfold visitB
  split
  · exact ⟨by simp only []; omega, by simp only []; omega⟩
  · split
    · exact ⟨by simp only [List.length_set]; omega, by simp only []; omega⟩
    · cases hz : idx0 st with
      | none => exact ⟨by simp only []; omega, by simp only []; omega⟩
      | some z =>
        simp only []
        have h1 := visitL_le (f := rec) (st := st) (z := z) (b := b) (memZ (eligA P z)) s.nds.length (laidB P node z ⟨s.nds, s.looked + 1, s.s⟩) (hf z hz)
        rw [laidB_len] at h1
        have h2 := hK z
        have h3 : (memZ (eligA P z)).length * b ≤ K * b := Nat.mul_le_mul_right _ h2
        have h4 : (memZ (eligA P z)).length * (1 + b) = (memZ (eligA P z)).length + (memZ (eligA P z)).length * b := by rw [Nat.mul_add, Nat.mul_one]
        have h5 : (laidB P node z ⟨s.nds, s.looked + 1, s.s⟩ : VS σ).looked = s.looked + 1 := rfl
        rw [h4, h5] at h1
        simp only [] at h1 ⊢
        omega
theorem openN_zero : ∀ {st : List Int}, openN st ≤ 0 → idx0 st = none
  | [], _ => rfl
  | u :: l, h => by
    unfold openN at h
    split at h
    · omega
    · rename_i hu
      unfold idx0
      rw [if_neg hu, openN_zero (st := l) (by omega)]
      rfl
theorem visitF_le {P : Pr} {limit : Nat} {each : σ → List Int → Bool × σ} {K : Nat} (ok : PrOk P) (hK : ∀ z : Nat, (memZ (eligA P z)).length ≤ K) : ∀ (m : Nat) (st : List Int) (node : Nat) (s : VS σ), openN st ≤ m →
    (visitF P limit each m st node s).2.nds.length ≤ s.nds.length + bnd K m ∧ (visitF P limit each m st node s).2.looked ≤ s.looked + 1 + bnd K m
  | 0, st, node, s, h => by
    have h0 := openN_zero h
    unfold visitF visitB
    rw [h0]
    split
    · exact ⟨by simp only []; omega, by simp only []; omega⟩
    · split
      · exact ⟨by simp only [List.length_set]; omega, by simp only []; omega⟩
      · exact ⟨by simp only []; omega, by simp only []; omega⟩
  | m + 1, st, node, s, h => by
    unfold visitF
    refine visitB_le hK st node s fun z hz u hu node s => ?_
    obtain ⟨h1, h2, _⟩ := idx0_some hz
    have hu1 := memZ_user ok hu
    have := openN_set (u := u) h1 h2 (by omega)
    exact visitF_le ok hK m (st.set z u) node s (by omega)
theorem visitL_ge {f : List Int → Nat → VS σ → Bool × VS σ} {st : List Int} {z : Nat} (hf : ∀ st node s, s.nds.length ≤ (f st node s).2.nds.length) :
    ∀ (us : List Int) (c : Nat) (s : VS σ), s.nds.length ≤ (visitL f st z us c s).2.nds.length
  | [], c, s => Nat.le_refl _
  | u :: us, c, s => by
    have h1 := hf (st.set z u) c s
    have h2 := visitL_ge (st := st) (z := z) hf us (c + 1) (f (st.set z u) c s).2
    unfold visitL
    split
    · exact h1
    · exact Nat.le_trans h1 h2
theorem visitB_ge {P : Pr} {limit : Nat} {each : σ → List Int → Bool × σ} {rec : List Int → Nat → VS σ → Bool × VS σ} (hf : ∀ st node s, s.nds.length ≤ (rec st node s).2.nds.length) (st : List Int) (node : Nat) (s : VS σ) : s.nds.length ≤ (visitB P limit each rec st node s).2.nds.length := by
  unfold visitB
  split
  · exact Nat.le_refl _
  · split
    · simp
    · cases idx0 st with
      | none => exact Nat.le_refl _
      | some z =>
        have h1 := visitL_ge (st := st) (z := z) hf (memZ (eligA P z)) s.nds.length (laidB P node z ⟨s.nds, s.looked + 1, s.s⟩)
        rw [laidB_len] at h1
        exact Nat.le_trans (Nat.le_add_right _ _) h1
theorem visitF_ge {P : Pr} {limit : Nat} {each : σ → List Int → Bool × σ} : ∀ (m : Nat) (st : List Int) (node : Nat) (s : VS σ), s.nds.length ≤ (visitF P limit each m st node s).2.nds.length
  | 0 => visitB_ge fun _ _ _ => Nat.le_refl _
  | m + 1 => visitB_ge (visitF_ge m)
/-- A caller is handed lists until it has enough. -/
def runS (each : σ → List Int → Bool × σ) : σ → List (List Int) → Bool × σ
  | s, [] => (false, s)
  | s, l :: ls => if (each s l).1 = true then (true, (each s l).2) else runS each (each s l).2 ls
theorem runS_app (each : σ → List Int → Bool × σ) : ∀ (ls ms : List (List Int)) (s : σ), runS each s (ls ++ ms) = if (runS each s ls).1 = true then runS each s ls else runS each (runS each s ls).2 ms
  | [], ms, s => by simp [runS]
  | l :: ls, ms, s => by
    rw [List.cons_append, runS, runS]
    split
    · simp
    · exact runS_app each ls ms _
end
/-- The staffings that a search meets. -/
def solsB (P : Pr) (rec : List Int → List (List Int)) (st : List Int) : List (List Int) :=
  if BrokenB P st = true then [] else match idx0 st with
    | none => [st]
    | some z => (memZ (eligA P z)).flatMap fun u => rec (st.set z u)
def solsF (P : Pr) : Nat → List Int → List (List Int)
  | 0 => solsB P fun _ => []
  | m + 1 => solsB P (solsF P m)
section
variable {σ : Type}
theorem visitL_run {each : σ → List Int → Bool × σ} {f : List Int → Nat → VS σ → Bool × VS σ} {g : List Int → List (List Int)} {st : List Int} {z : Nat} (hf : ∀ st node s, ((f st node s).1, (f st node s).2.s) = runS each s.s (g st)) :
    ∀ (us : List Int) (c : Nat) (s : VS σ), ((visitL f st z us c s).1, (visitL f st z us c s).2.s) = runS each s.s (us.flatMap fun u => g (st.set z u))
  | [], c, s => rfl
  | u :: us, c, s => by
    have h1 := hf (st.set z u) c s
    have h2 := visitL_run hf us (c + 1) (f (st.set z u) c s).2 (z := z) (st := st)
    rw [List.flatMap_cons, runS_app, ← h1]
    unfold visitL
    by_cases h : (f (st.set z u) c s).1 = true
    · rw [if_pos h]
      simp only [h, if_true]
    · rw [if_neg h]
      have h' : (f (st.set z u) c s).1 = false := by simpa using h
      simp only [h', Bool.false_eq_true, if_false]
      exact h2
theorem visitF_run {P : Pr} {each : σ → List Int → Bool × σ} : ∀ (m : Nat) (st : List Int) (node : Nat) (s : VS σ), ((visitF P 0 each m st node s).1, (visitF P 0 each m st node s).2.s) = runS each s.s (solsF P m st) := by
  have hB : ∀ (rec : List Int → Nat → VS σ → Bool × VS σ) (g : List Int → List (List Int)), (∀ st node s, ((rec st node s).1, (rec st node s).2.s) = runS each s.s (g st)) →
      ∀ (st : List Int) (node : Nat) (s : VS σ), ((visitB P 0 each rec st node s).1, (visitB P 0 each rec st node s).2.s) = runS each s.s (solsB P g st) := by
    intro rec g hf st node s
    unfold visitB solsB
    rw [if_neg (by simp [fullB])]
    split
    · rfl
    · cases hz : idx0 st with
      | none => simp only [runS]; split <;> simp_all
      | some z => exact visitL_run hf _ _ _
  intro m
  induction m with
  | zero => exact hB _ _ fun _ _ _ => rfl
  | succ m ih => exact hB _ _ ih
end
/-- What Solve keeps, and what Count keeps. -/
def eachS (s : Option (List Int)) (l : List Int) : Bool × Option (List Int) := (true, some l)
def eachC (limit : Int) (n : Nat) (l : List Int) : Bool × Nat := (decide (limit < ((n + 1 : Nat) : Int)), n + 1)
theorem runS_S (ls : List (List Int)) : runS eachS none ls = (!ls.isEmpty, ls.head?) := by
  cases ls <;> rfl
theorem runS_C (limit : Int) : ∀ (ls : List (List Int)) (n : Nat), (n : Int) ≤ limit → (((n + ls.length : Nat) : Int) ≤ limit ∧ runS (eachC limit) n ls = (false, n + ls.length)) ∨ (limit < ((n + ls.length : Nat) : Int) ∧ ∃ q, runS (eachC limit) n ls = (true, q) ∧ limit < (q : Int))
  | [], n, h => .inl ⟨by simpa using h, rfl⟩
  | l :: ls, n, h => by
    rw [List.length_cons]
    by_cases hc : limit < ((n + 1 : Nat) : Int)
    · refine .inr ⟨by omega, n + 1, ?_, hc⟩
      unfold runS eachC
      rw [if_pos (by simpa using hc), decide_eq_true hc]
    · have e : runS (eachC limit) n (l :: ls) = runS (eachC limit) (n + 1) ls := by
        rw [runS]
        rw [if_neg (by unfold eachC; simpa using hc)]
        rfl
      rw [e]
      rcases runS_C limit ls (n + 1) (by omega) with ⟨h1, h2⟩ | ⟨h1, q, h2, h3⟩
      · exact .inl ⟨by omega, by rw [h2]; congr 1; omega⟩
      · exact .inr ⟨by omega, q, h2, h3⟩
/-- A limit is exceeded, or changes nothing. -/
theorem visit_lim {P : Pr} (limit : Nat) : ∀ (m : Nat) (st : List Int) (node : Nat) (s : VS (Option (List Int))), s.s = none → fullB limit s.looked = false →
    ((visitF P limit eachS m st node s).1 = true ∧ fullB limit (visitF P limit eachS m st node s).2.looked = true ∧ (visitF P limit eachS m st node s).2.s = none) ∨
    (visitF P limit eachS m st node s = visitF P 0 eachS m st node s ∧ fullB limit (visitF P limit eachS m st node s).2.looked = false ∧ ((visitF P limit eachS m st node s).1 = false → (visitF P limit eachS m st node s).2.s = none)) := by
  have hL : ∀ (f f0 : List Int → Nat → VS (Option (List Int)) → Bool × VS (Option (List Int))) (st : List Int) (z : Nat),
      (∀ st node s, s.s = none → fullB limit s.looked = false → ((f st node s).1 = true ∧ fullB limit (f st node s).2.looked = true ∧ (f st node s).2.s = none) ∨ (f st node s = f0 st node s ∧ fullB limit (f st node s).2.looked = false ∧ ((f st node s).1 = false → (f st node s).2.s = none))) →
      ∀ (us : List Int) (c : Nat) (s : VS (Option (List Int))), s.s = none → fullB limit s.looked = false →
        ((visitL f st z us c s).1 = true ∧ fullB limit (visitL f st z us c s).2.looked = true ∧ (visitL f st z us c s).2.s = none) ∨ (visitL f st z us c s = visitL f0 st z us c s ∧ fullB limit (visitL f st z us c s).2.looked = false ∧ ((visitL f st z us c s).1 = false → (visitL f st z us c s).2.s = none)) := by
    intro f f0 st z hf us
    induction us with
    | nil => intro c s hs hl; exact .inr ⟨rfl, hl, fun _ => hs⟩
    | cons u us ih =>
      intro c s hs hl
      rw [show visitL f st z (u :: us) c s = if (f (st.set z u) c s).1 = true then (true, (f (st.set z u) c s).2) else visitL f st z us (c + 1) (f (st.set z u) c s).2 from rfl]
      rcases hf (st.set z u) c s hs hl with ⟨h1, h2, h3⟩ | ⟨h1, h2, h3⟩
      · rw [if_pos h1]
        exact .inl ⟨rfl, h2, h3⟩
      · by_cases hb : (f (st.set z u) c s).1 = true
        · rw [if_pos hb]
          refine .inr ⟨?_, h2, fun e => by cases e⟩
          conv => rhs; unfold visitL
          rw [← h1, if_pos hb]
        · rw [if_neg hb]
          have e2 : visitL f0 st z (u :: us) c s = visitL f0 st z us (c + 1) (f (st.set z u) c s).2 := by
            conv => lhs; unfold visitL
            rw [← h1, if_neg hb]
          rw [e2]
          exact ih (c + 1) _ (h3 (by simpa using hb)) h2
  have hB : ∀ (f f0 : List Int → Nat → VS (Option (List Int)) → Bool × VS (Option (List Int))),
      (∀ st node s, s.s = none → fullB limit s.looked = false → ((f st node s).1 = true ∧ fullB limit (f st node s).2.looked = true ∧ (f st node s).2.s = none) ∨ (f st node s = f0 st node s ∧ fullB limit (f st node s).2.looked = false ∧ ((f st node s).1 = false → (f st node s).2.s = none))) →
      ∀ (st : List Int) (node : Nat) (s : VS (Option (List Int))), s.s = none → fullB limit s.looked = false →
        ((visitB P limit eachS f st node s).1 = true ∧ fullB limit (visitB P limit eachS f st node s).2.looked = true ∧ (visitB P limit eachS f st node s).2.s = none) ∨ (visitB P limit eachS f st node s = visitB P 0 eachS f0 st node s ∧ fullB limit (visitB P limit eachS f st node s).2.looked = false ∧ ((visitB P limit eachS f st node s).1 = false → (visitB P limit eachS f st node s).2.s = none)) := by
    intro f f0 hf st node s hs hl
    unfold visitB
    rw [if_neg (show ¬ fullB 0 (s.looked + 1) = true by simp [fullB])]
    by_cases h0 : fullB limit (s.looked + 1) = true
    · rw [if_pos h0]
      exact .inl ⟨rfl, h0, hs⟩
    · rw [if_neg h0]
      have h0' : fullB limit (s.looked + 1) = false := by simpa using h0
      by_cases h1 : BrokenB P st = true
      · rw [if_pos h1, if_pos h1]
        exact .inr ⟨rfl, h0', fun _ => hs⟩
      · rw [if_neg h1, if_neg h1]
        cases hz : idx0 st with
        | none => exact .inr ⟨rfl, h0', fun e => by cases e⟩
        | some z => exact hL f f0 st z hf _ _ _ hs h0'
  intro m
  induction m with
  | zero => exact hB _ _ fun st node s hs hl => .inr ⟨rfl, hl, fun _ => hs⟩
  | succ m ih => exact hB _ _ ih
end Go.Proofs.YtfnhaoindehjdaaDoor
