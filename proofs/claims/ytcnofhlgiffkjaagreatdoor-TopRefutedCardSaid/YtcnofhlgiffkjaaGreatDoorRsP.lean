/- Plain: a refutation's numbers are small, and so are its bytes; the size of what was read. -/
import Derived.Test.YtcnofhlgiffkjaaGreatDoorRbW
import Derived.Test.YtcnofhlgiffkjaaGreatDoorRtP
import Derived.Test.YtcnofhlgiffkjaaGreatDoorPm
namespace Go.Proofs.YtcnofhlgiffkjaaGreatDoor
open Go.RowKit
set_option linter.unusedVariables false
set_option linter.unusedSimpArgs false

theorem all_eq_len {l : List Int} {a : Int} (h : l.Pairwise (· ≠ ·)) (ha : ∀ x ∈ l, x = a) : l.length ≤ 1 := by
  match l, h, ha with
  | [], _, _ => simp
  | [_], _, _ => simp
  | x :: y :: l, h, ha =>
    exfalso
    have h1 := List.rel_of_pairwise_cons h (a' := y) (by simp)
    exact h1 ((ha x (by simp)).trans (ha y (by simp)).symm)
theorem filter_split (p : Int → Bool) : ∀ l : List Int, l.length = (l.filter p).length + (l.filter fun x => !p x).length
  | [] => rfl
  | x :: l => by
    have ih := filter_split p l
    rw [List.filter_cons, List.filter_cons]
    cases p x <;> simp <;> omega
/-- Different numbers below m are at most m. -/
theorem nodup_below : ∀ (m : Nat) (l : List Int), l.Pairwise (· ≠ ·) → (∀ x ∈ l, 0 ≤ x ∧ x < m) → l.length ≤ m
  | 0, l, _, hr => by
    cases l with
    | nil => simp
    | cons x l => have := hr x (by simp); omega
  | m + 1, l, h, hr => by
    have h1 := filter_split (fun x => decide (x = (m : Int))) l
    have h2 : (l.filter fun x => decide (x = (m : Int))).length ≤ 1 := all_eq_len (h.filter _) fun x hx => by simpa using (List.mem_filter.1 hx).2
    have h3 := nodup_below m (l.filter fun x => !decide (x = (m : Int))) (h.filter _) fun x hx => by
      obtain ⟨a, b⟩ := List.mem_filter.1 hx
      have := hr x a
      have hb : x ≠ (m : Int) := by simpa using b
      omega
    omega
theorem hall_len {P : Pr} {steps st : List Int} (h : hallB P steps st = true) : (∀ k ∈ steps, 0 ≤ k ∧ k < st.length) ∧ steps.length ≤ st.length := by
  unfold hallB at h
  simp only [Bool.and_eq_true, List.all_eq_true, List.mem_range, decide_eq_true_eq] at h
  have hs : ∀ i (hi : i < steps.length), stepB P st (steps.take i) steps[i] = true := fun i hi => by
    have := h.1 i hi
    unfold atI at this
    rwa [List.getElem?_eq_getElem hi] at this
  have hr : ∀ k ∈ steps, 0 ≤ k ∧ k < st.length := fun k hk => by
    obtain ⟨i, hi, rfl⟩ := List.getElem_of_mem hk
    have := hs i hi
    unfold stepB at this
    simp only [Bool.and_eq_true, decide_eq_true_eq] at this
    exact ⟨this.1.1.1, this.1.1.2⟩
  refine ⟨hr, nodup_below _ _ (List.pairwise_iff_getElem.2 fun i j hi hj hij => ?_) hr⟩
  have := hs j hj
  unfold stepB at this
  simp only [Bool.and_eq_true, List.all_eq_true, decide_eq_true_eq] at this
  exact (this.2 steps[i] (List.mem_take_iff_getElem.2 ⟨i, by omega, rfl⟩)).1
/-- The size of a node's numbers. -/
theorem node_small {P : Pr} {l : List Nd} {sts : List (List Int)} (h : RefOk P l sts) (ok : PrOk P) (h5 : P.elig.length ≤ 5) (hm : ∀ z, (memZ (eligA P z)).length ≤ 5) (hn : l.length ≤ 10000) {x : Nd} (hx : x ∈ l) :
    (1 ≤ x.kind ∧ x.kind ≤ 3) ∧ (∀ z ∈ numsL x, 0 ≤ z ∧ z < 16384) ∧ (numsL x).length ≤ 8 := by
  obtain ⟨i, hi⟩ := List.mem_iff_getElem?.1 hx
  obtain ⟨st, hst, hN⟩ := h.node i x hi
  have hl : st.length ≤ 5 := by rw [(h.part ok i st hst).len]; exact h5
  cases hN with
  | clash hb => exact ⟨⟨by decide, by decide⟩, fun z hz => by simp [numsL] at hz; omega, by simp [numsL]⟩
  | hall steps hb =>
    obtain ⟨h1, h2⟩ := hall_len hb
    refine ⟨⟨by show 1 ≤ 3; omega, by show 3 ≤ 3; omega⟩, fun z hz => ?_, by simp [numsL]; omega⟩
    simp [numsL] at hz
    rcases hz with rfl | rfl | hz
    · omega
    · omega
    · have := h1 z hz; omega
  | branch z c0 hz h0 hc hk =>
    have hm := hm (z : Int)
    refine ⟨⟨by show 1 ≤ 1; omega, by show 1 ≤ 3; omega⟩, fun v hv => ?_, by simp [numsL]; omega⟩
    simp only [numsL, List.mem_append, List.mem_cons, List.not_mem_nil, or_false, List.length_map, List.length_range, List.length_nil] at hv
    rcases hv with ((rfl | rfl) | hv) | rfl
    · omega
    · omega
    · obtain ⟨q, hq, rfl⟩ := List.mem_map.1 hv
      have hq := List.mem_range.1 hq
      have h1 := hk q _ (List.getElem?_eq_getElem hq)
      have h2 := (List.getElem?_eq_some_iff.1 h1).1
      rw [h.len] at h2
      omega
    · simp
theorem ref_small {P : Pr} {l : List Nd} {sts : List (List Int)} (h : RefOk P l sts) (ok : PrOk P) (h5 : P.elig.length ≤ 5) (hm : ∀ z, (memZ (eligA P z)).length ≤ 5) (hn : l.length ≤ 10000) :
    l.all smB = true ∧ l.all okN = true ∧ tot l ≤ 100000 ∧ bytesL l = enc l.length ++ l.flatMap encN ∧ (bytesL l).length ≤ 1000000 := by
  have hN := fun x hx => node_small h ok h5 hm hn (x := x) hx
  have h1 : l.all okN = true := List.all_eq_true.2 fun x hx => by
    obtain ⟨⟨a, b⟩, c, _⟩ := hN x hx
    unfold okN okZ
    simp only [Bool.and_eq_true, decide_eq_true_eq, List.all_eq_true]
    exact ⟨⟨a, b⟩, fun z hz => by have := c z hz; omega⟩
  have h2 : tot l ≤ 9 * l.length := by
    have : ∀ L : List Nd, (∀ x ∈ L, (numsL x).length ≤ 8) → tot L ≤ 9 * L.length := by
      intro L
      induction L with
      | nil => intro _; simp [tot]
      | cons x L ih =>
        intro hL
        have a := hL x (by simp)
        have b := ih fun y hy => hL y (by simp [hy])
        unfold tot at b ⊢
        simp only [List.map_cons, List.sum_cons, List.length_cons]
        omega
    exact this l fun x hx => (hN x hx).2.2
  have h3 : bytesL l = enc l.length ++ l.flatMap encN := if_pos h1
  refine ⟨List.all_eq_true.2 fun x hx => ?_, h1, by omega, h3, ?_⟩
  · obtain ⟨⟨a, b⟩, c, _⟩ := hN x hx
    unfold smB
    simp only [Bool.and_eq_true, decide_eq_true_eq, List.all_eq_true]
    exact ⟨by omega, c⟩
  · rw [h3, List.length_append]
    have a := flatN_len h1
    have b := enc_len (v := l.length) (by omega)
    omega
theorem totN_le : ∀ l : List Nd, tot l ≤ (l.flatMap encN).length
  | [] => by simp [tot]
  | x :: l => by
    have ih := totN_le l
    have h1 := flat_pos (numsL x)
    have h2 := enc_pos x.kind
    unfold tot at ih ⊢
    simp only [List.map_cons, List.sum_cons, List.flatMap_cons, List.length_append]
    have h3 : (encN x).length = (enc x.kind).length + ((numsL x).flatMap encZ).length := by unfold encN; rw [List.length_append]
    omega
/-- What was read is written so. -/
theorem read_size {p : List UInt8} (hp : p.length ≤ 1000000) (h : okR p = true) : bytesL (rdN p).1 = p ∧ tot (rdN p).1 ≤ 1000000 := by
  obtain ⟨h1, h2⟩ := rdN_can (by omega) h
  refine ⟨h1, ?_⟩
  have h3 := totN_le (rdN p).1
  have h4 : bytesL (rdN p).1 = enc (rdN p).1.length ++ (rdN p).1.flatMap encN := if_pos h2
  rw [h4] at h1
  have h5 := congrArg List.length h1
  rw [List.length_append] at h5
  omega
end Go.Proofs.YtcnofhlgiffkjaaGreatDoor
