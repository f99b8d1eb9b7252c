/- Plain: for users up to 6 what a search meets is the reference's list of all staffings, in its order. -/
import Derived.Test.YtfnhaoindehjdaaDoorStQ
import Derived.Test.YtfnhaoindehjdaaDoorAllP
namespace Go.Proofs.YtfnhaoindehjdaaDoor
open Go.RowKit
set_option linter.unusedVariables false
set_option linter.unusedSimpArgs false

def six : List Int := [1, 2, 3, 4, 5, 6]
/-- All lists of k users. -/
def lexL : Nat → List (List Int)
  | 0 => [[]]
  | k + 1 => six.flatMap fun u => (lexL k).map (u :: ·)
theorem sixL_six (l : List Int) : sixL l 6 = six.map fun u => l ++ [u] := rfl
theorem lexL_snoc : ∀ k, lexL (k + 1) = (lexL k).flatMap fun l => six.map fun u => l ++ [u]
  | 0 => rfl
  | k + 1 => by
    have h : lexL (k + 2) = six.flatMap fun u => (lexL (k + 1)).map (u :: ·) := rfl
    rw [h, lexL_snoc k]
    have h2 : lexL (k + 1) = six.flatMap fun u => (lexL k).map (u :: ·) := rfl
    rw [← lexL_snoc k, h2, List.flatMap_assoc]
    rw [← h2, lexL_snoc k]
    simp only [List.map_flatMap, List.flatMap_map, List.map_map]
    rfl
theorem longL_lex : ∀ k, longL k = lexL k
  | 0 => rfl
  | k + 1 => by
    rw [lexL_snoc, ← longL_lex k]
    rfl
/-- The lists that fill the open places. -/
def extL : List Int → List (List Int)
  | [] => [[]]
  | u :: st => if u = 0 then six.flatMap fun v => (extL st).map (v :: ·) else (extL st).map (u :: ·)
def subB : List Int → List Int → Bool
  | [], [] => true
  | u :: st, v :: l => (decide (u = 0) || decide (u = v)) && subB st l
  | _, _ => false
theorem filter_flatMap' {α β : Type} (p : β → Bool) (f : α → List β) : ∀ l : List α, (l.flatMap f).filter p = l.flatMap fun x => (f x).filter p
  | [] => rfl
  | x :: l => by rw [List.flatMap_cons, List.filter_append, filter_flatMap' p f l, List.flatMap_cons]
theorem extL_sub : ∀ (st : List Int), (∀ u ∈ st, 0 ≤ u ∧ u ≤ 6) → (lexL st.length).filter (subB st) = extL st
  | [], _ => rfl
  | u :: st, h => by
    have ih := extL_sub st fun v hv => h v (by simp [hv])
    have hu := h u (by simp)
    show (six.flatMap fun v => (lexL st.length).map (v :: ·)).filter (subB (u :: st)) = _
    rw [filter_flatMap']
    have e : ∀ v : Int, ((lexL st.length).map (v :: ·)).filter (subB (u :: st)) = if (decide (u = 0) || decide (u = v)) = true then (extL st).map (v :: ·) else [] := by
      intro v
      rw [List.filter_map]
      have : (subB (u :: st) ∘ fun x => v :: x) = fun l => (decide (u = 0) || decide (u = v)) && subB st l := by
        funext l; rfl
      rw [this]
      cases hb : (decide (u = 0) || decide (u = v))
      · simp
      · simp [ih]
    simp only [e]
    rw [show extL (u :: st) = if u = 0 then six.flatMap fun v => (extL st).map (v :: ·) else (extL st).map (u :: ·) from rfl]
    generalize extL st = E
    by_cases h0 : u = 0
    · rw [if_pos h0]; simp [h0]
    · rw [if_neg h0]
      have : u = 1 ∨ u = 2 ∨ u = 3 ∨ u = 4 ∨ u = 5 ∨ u = 6 := by omega
      rcases this with rfl | rfl | rfl | rfl | rfl | rfl <;> simp [six]
theorem six_pos : ∀ v ∈ six, v ≠ 0 := by decide
theorem flatMap_congr' {α β : Type} {f g : α → List β} : ∀ {l : List α}, (∀ x ∈ l, f x = g x) → l.flatMap f = l.flatMap g
  | [], _ => rfl
  | x :: l, h => by rw [List.flatMap_cons, List.flatMap_cons, h x (by simp), flatMap_congr' fun y hy => h y (by simp [hy])]
theorem extL_idx0 : ∀ {st : List Int} {z : Nat}, idx0 st = some z → extL st = six.flatMap fun v => extL (st.set z v)
  | [], z, h => by cases h
  | u :: st, z, h => by
    unfold idx0 at h
    split at h
    · rename_i hu
      injection h with h
      subst h hu
      rw [extL, if_pos rfl]
      refine flatMap_congr' fun v hv => ?_
      rw [List.set_cons_zero, extL, if_neg (six_pos v hv)]
    · rename_i hu
      cases hx : idx0 st with
      | none => rw [hx] at h; cases h
      | some y =>
        rw [hx] at h
        injection h with h
        subst h
        rw [extL, if_neg hu, extL_idx0 hx, List.map_flatMap]
        refine flatMap_congr' fun v hv => ?_
        rw [List.set_cons_succ, extL, if_neg hu]
theorem extL_full : ∀ {st : List Int}, idx0 st = none → extL st = [st]
  | [], _ => rfl
  | u :: st, h => by
    unfold idx0 at h
    split at h
    · cases h
    · rename_i hu
      rw [extL, if_neg hu, extL_full (st := st) (by cases hx : idx0 st <;> simp [hx] at h ⊢)]
      rfl
theorem extL_mem : ∀ {st l : List Int}, l ∈ extL st → Sub st l
  | [], l, h => by
    simp only [extL, List.mem_singleton] at h
    subst h
    exact ⟨rfl, fun k => .inl (by simp [atI])⟩
  | u :: st, l, h => by
    have key : ∀ v l', l' ∈ extL st → (u = 0 ∨ u = v) → Sub (u :: st) (v :: l') := fun v l' hl huv => by
      have h1 := extL_mem hl
      refine ⟨by simp [h1.len], fun k => ?_⟩
      cases k with
      | zero => exact huv
      | succ k => exact h1.at_ k
    unfold extL at h
    split at h
    · rename_i hu
      obtain ⟨v, _, h2⟩ := List.mem_flatMap.1 h
      obtain ⟨l', h3, rfl⟩ := List.mem_map.1 h2
      exact key v l' h3 (.inl hu)
    · obtain ⟨l', h3, rfl⟩ := List.mem_map.1 h
      exact key u l' h3 (.inr rfl)
/-- The sets are of users 1 to 6. -/
def Few128 (P : Pr) : Prop := ∀ M ∈ P.elig, M < 128
theorem elig_128 {P : Pr} (h : Few128 P) (z : Int) : eligA P z < 2 ^ 7 := by
  unfold eligA
  cases he : P.elig[z.toNat]? with
  | none => simp
  | some M =>
    have := h M (List.mem_of_getElem? he)
    simp only [Option.getD_some]
    omega
theorem elig_bit0 {P : Pr} (ok : PrOk P) (z : Int) : (eligA P z).testBit 0 = false := by
  unfold eligA
  cases he : P.elig[z.toNat]? with
  | none => simp
  | some M => exact (ok.eli M (List.mem_of_getElem? he)).1
theorem memZ_six {M : Nat} (h : M < 2 ^ 7) (h0 : M.testBit 0 = false) : memZ M = six.filter fun u => M.testBit u.toNat := by
  unfold memZ
  rw [memM_memT h]
  unfold memT
  have e : (List.range 7) = 0 :: [1, 2, 3, 4, 5, 6] := by decide
  have e2 : six = ([1, 2, 3, 4, 5, 6] : List Nat).map fun x : Nat => (x : Int) := rfl
  rw [e, List.filter_cons, h0, e2, List.filter_map]
  rfl
theorem flatMap_filter_nil {α β : Type} {p : α → Bool} {f : α → List β} : ∀ {l : List α}, (∀ x ∈ l, p x = false → f x = []) → (l.filter p).flatMap f = l.flatMap f
  | [], _ => rfl
  | x :: l, h => by
    have ih := flatMap_filter_nil (l := l) fun y hy => h y (by simp [hy])
    rw [List.filter_cons, List.flatMap_cons]
    cases hp : p x
    · rw [h x (by simp) hp]; simpa using ih
    · simp [ih]
theorem solsF_ext {P : Pr} (hc : chkP P = 0) (hf : Few128 P) : ∀ (m : Nat) (st : List Int), openN st ≤ m → Part P st → solsF P m st = (extL st).filter (ValidB P) := by
  have ok := chkP_ok hc
  have hB : ∀ (rec : List Int → List (List Int)) (st : List Int), Part P st → (∀ z, idx0 st = some z → ∀ u ∈ memZ (eligA P z), rec (st.set z u) = (extL (st.set z u)).filter (ValidB P)) → solsB P rec st = (extL st).filter (ValidB P) := by
    intro rec st hp hrec
    have hpr := proper_of hc hp.len hp.rng
    unfold solsB
    split
    · rename_i hb
      symm
      refine List.filter_eq_nil_iff.2 fun l hl hv => ?_
      have hs := extL_mem hl
      unfold BrokenB at hb
      simp only [Bool.and_eq_true] at hb
      have := brk_sub hs hb.2
      rw [(valid_good hv).ok] at this
      cases this
    · rename_i hb
      cases hz : idx0 st with
      | none =>
        simp only []
        have hb' : brk P st = false := by
          unfold BrokenB at hb
          rw [hpr] at hb
          simpa using hb
        rw [extL_full hz, List.filter_cons, hp.valid hc (idx0_none hz) hb']
        rfl
      | some z =>
        simp only []
        obtain ⟨z1, z2, _⟩ := idx0_some hz
        rw [extL_idx0 hz, filter_flatMap', flatMap_congr' (hrec z hz), memZ_six (elig_128 hf z) (elig_bit0 ok z)]
        refine flatMap_filter_nil fun u hu hn => ?_
        refine List.filter_eq_nil_iff.2 fun l hl hv => ?_
        have hs := extL_mem hl
        have hg := valid_good hv
        have hzl : z < l.length := by rw [← hs.len, List.length_set]; exact z1
        have h1 := hg.elig hzl
        have h2 := hs.ne (k := z) (by rw [atI_set _ _ _ _ z1, if_pos rfl]; exact six_pos u hu)
        rw [atI_set _ _ _ _ z1, if_pos rfl] at h2
        unfold eligA at hn
        rw [Int.toNat_natCast, h2, h1] at hn
        cases hn
  intro m
  induction m with
  | zero => intro st hm hp; exact hB _ st hp fun z hz => by rw [openN_zero hm] at hz; cases hz
  | succ m ih =>
    intro st hm hp
    refine hB _ st hp fun z hz u hu => ?_
    obtain ⟨z1, z2, _⟩ := idx0_some hz
    have hu1 := memZ_user ok hu
    have := openN_set (u := u) z1 z2 (by omega)
    exact ih _ (by omega) (hp.set ok z1 z2 hu)
theorem subB_of : ∀ {st l : List Int}, Sub st l → subB st l = true
  | [], [], _ => rfl
  | [], v :: l, h => by have := h.len; simp at this
  | u :: st, [], h => by have := h.len; simp at this
  | u :: st, v :: l, h => by
    have h0 := h.at_ 0
    have h1 : Sub st l := ⟨by have := h.len; simpa using this, fun k => h.at_ (k + 1)⟩
    unfold subB
    rw [subB_of h1]
    simp only [atI, List.getElem?_cons_zero, Option.getD_some] at h0
    simpa using h0
/-- All staffings. -/
theorem solsL_all {P : Pr} (hc : chkP P = 0) (hf : Few128 P) (h6 : ∀ u ∈ P.fix, u ≤ 6) : solsL P = allL P := by
  have ok := chkP_ok hc
  unfold solsL allL
  rw [solsF_ext hc hf _ _ (openN_le _) (part_fix hc), longL_lex, ← ok.fixl, ← extL_sub P.fix fun u hu => ⟨(ok.fixu u hu).1, h6 u hu⟩, List.filter_filter]
  refine List.filter_congr fun l _ => ?_
  cases hv : ValidB P l
  · rfl
  · rw [subB_of (good_of_valid hv).2.2]; rfl
theorem few128_of {P : Pr} (h : Few32 P) : Few128 P := fun M hM => by have := h M hM; omega
end Go.Proofs.YtfnhaoindehjdaaDoor
