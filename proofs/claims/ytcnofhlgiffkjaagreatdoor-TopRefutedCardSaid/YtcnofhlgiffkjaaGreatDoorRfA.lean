/- Rows of nodes that are changed in place: rows of numbers that lie apart; a node stored. -/
import Derived.Test.YtcnofhlgiffkjaaGreatDoorPk
import Derived.Test.YtcnofhlgiffkjaaGreatDoorPt
namespace Go.Proofs.YtcnofhlgiffkjaaGreatDoor
open Go.RowKit
set_option linter.unusedVariables false
set_option linter.unusedSimpArgs false

/-- a does not lie in b's block. -/
def Apt (a b : Value) : Prop := a.ownBlock = none ∨ a.ownBlock ≠ b.ownBlock
/-- v lies below block N, from block N on. -/
def Blt (N : Nat) (v : Value) : Prop := ∀ g, v.ownBlock = some g → g < N
def Bge (N : Nat) (v : Value) : Prop := ∀ g, v.ownBlock = some g → N ≤ g
theorem Apt.lt {N : Nat} {a b : Value} (h : Blt N a) (h' : Bge N b) : Apt a b := by
  cases ha : a.ownBlock with
  | none => exact .inl ha
  | some g =>
    right
    intro e
    have h1 := h g ha
    have h2 := h' g (by rw [← e]; exact ha)
    omega
theorem Apt.gt {N : Nat} {a b : Value} (h : Bge N a) (h' : Blt N b) : Apt a b := by
  cases ha : a.ownBlock with
  | none => exact .inl ha
  | some g =>
    right
    intro e
    have h1 := h g ha
    have h2 := h' g (by rw [← e]; exact ha)
    omega
theorem Blt.nil (N : Nat) : Blt N (.slice none 0 0) := fun g h => by simp [Value.ownBlock] at h
theorem Bge.nil (N : Nat) : Bge N (.slice none 0 0) := fun g h => by simp [Value.ownBlock] at h
theorem Apt.nil (b : Value) : Apt (.slice none 0 0) b := .inl rfl
theorem Apt.nil2 (a : Value) : Apt a (.slice none 0 0) := by
  cases ha : a.ownBlock with
  | none => exact .inl ha
  | some g => right; rw [ha]; intro e; cases e
theorem own_blt {w : World} {B e s n : Nat} {v : Value} {xs : List Value} (h : w.ownsRow B e s v n xs) : Blt w.heap.size v := fun g hg => (h.lt g hg).2
theorem own_bge {w : World} {B e s n : Nat} {v : Value} {xs : List Value} (h : w.ownsRow B e s v n xs) : Bge B v := fun g hg => (h.lt g hg).1
theorem Bge.less {N N' : Nat} {v : Value} (h : Bge N v) (hn : N' ≤ N) : Bge N' v := fun g hg => Nat.le_trans hn (h g hg)
theorem Blt.more {N N' : Nat} {v : Value} (h : Blt N v) (hn : N ≤ N') : Blt N' v := fun g hg => Nat.lt_of_lt_of_le (h g hg) hn

/-- The rows of different nodes lie apart. -/
structure ApNs (ys : List NdS) : Prop where
  self : ∀ (i : Nat) (y : NdS), ys[i]? = some y → Apt y.C.v y.S.v ∧ Apt y.S.v y.C.v
  ne : ∀ (i j : Nat) (y z : NdS), i ≠ j → ys[i]? = some y → ys[j]? = some z → Apt y.C.v z.C.v ∧ Apt y.C.v z.S.v ∧ Apt y.S.v z.C.v ∧ Apt y.S.v z.S.v
theorem ApNs.nil : ApNs [] := ⟨fun i y h => by simp at h, fun i j y z _ h => by simp at h⟩
theorem ApNs.set {ys : List NdS} {N i : Nat} {y : NdS} (h : ApNs ys) (ho : ∀ (j : Nat) (z : NdS), j ≠ i → ys[j]? = some z → Blt N z.C.v ∧ Blt N z.S.v) (hy : Bge N y.C.v ∧ Bge N y.S.v) (hs : Apt y.C.v y.S.v ∧ Apt y.S.v y.C.v) : ApNs (ys.set i y) := by
  refine ⟨fun j z hz => ?_, fun j k z x hjk hz hx => ?_⟩
  · by_cases e : i = j
    · subst e
      rw [List.getElem?_set] at hz
      split at hz
      · split at hz
        · injection hz with hz; subst hz; exact hs
        · cases hz
      · exact absurd rfl ‹_›
    · rw [List.getElem?_set_ne e] at hz
      exact h.self j z hz
  · by_cases ej : i = j
    · subst ej
      rw [List.getElem?_set_ne (by omega)] at hx
      have h1 := ho k x (by omega) hx
      rw [List.getElem?_set] at hz
      rw [if_pos rfl] at hz
      split at hz
      · injection hz with hz; subst hz
        exact ⟨.gt hy.1 h1.1, .gt hy.1 h1.2, .gt hy.2 h1.1, .gt hy.2 h1.2⟩
      · cases hz
    · rw [List.getElem?_set_ne ej] at hz
      by_cases ek : i = k
      · subst ek
        have h1 := ho j z (by omega) hz
        rw [List.getElem?_set, if_pos rfl] at hx
        split at hx
        · injection hx with hx; subst hx
          exact ⟨.lt h1.1 hy.1, .lt h1.1 hy.2, .lt h1.2 hy.1, .lt h1.2 hy.2⟩
        · cases hx
      · rw [List.getElem?_set_ne ek] at hx
        exact h.ne j k z x hjk hz hx
def nd0S : NdS := ⟨⟨0, 0, [], []⟩, ⟨none, 0, 0⟩, ⟨none, 0, 0⟩⟩
theorem ApNs.app0 {ys : List NdS} (h : ApNs ys) (k : Nat) : ApNs (ys ++ List.replicate k nd0S) := by
  have key : ∀ (j : Nat) (z : NdS), (ys ++ List.replicate k nd0S)[j]? = some z → ys[j]? = some z ∨ z = nd0S := fun j z hz => by
    rw [List.getElem?_append] at hz
    split at hz
    · exact .inl hz
    · rw [List.getElem?_replicate] at hz
      split at hz
      · injection hz with hz; exact .inr hz.symm
      · cases hz
  have n1 : ∀ b, Apt nd0S.C.v b := fun b => Apt.nil b
  have n2 : ∀ b, Apt nd0S.S.v b := fun b => Apt.nil b
  have n3 : ∀ b, Apt b nd0S.C.v := fun b => Apt.nil2 b
  have n4 : ∀ b, Apt b nd0S.S.v := fun b => Apt.nil2 b
  refine ⟨fun j z hz => ?_, fun i j y z hij hy hz => ?_⟩
  · rcases key j z hz with h1 | rfl
    · exact h.self j z h1
    · exact ⟨n1 _, n2 _⟩
  · rcases key i y hy with h1 | rfl
    · rcases key j z hz with h2 | rfl
      · exact h.ne i j y z hij h1 h2
      · exact ⟨n3 _, n4 _, n3 _, n4 _⟩
    · exact ⟨n1 _, n1 _, n2 _, n2 _⟩
/-- No row is long. -/
def SmNs (b : Nat) (ys : List NdS) : Prop := ∀ y ∈ ys, y.C.n ≤ b ∧ y.S.n ≤ b
theorem SmNs.set {b i : Nat} {ys : List NdS} {y : NdS} (h : SmNs b ys) (hy : y.C.n ≤ b ∧ y.S.n ≤ b) : SmNs b (ys.set i y) := fun z hz => by
  rcases List.mem_or_eq_of_mem_set hz with h1 | rfl
  · exact h z h1
  · exact hy
theorem SmNs.app0 {b : Nat} {ys : List NdS} (h : SmNs b ys) (k : Nat) : SmNs b (ys ++ List.replicate k nd0S) := fun z hz => by
  rcases List.mem_append.1 hz with h1 | h1
  · exact h z h1
  · obtain rfl := (List.mem_replicate.1 h1).2
    exact ⟨Nat.zero_le _, Nat.zero_le _⟩
/-- The block of a row that is not empty. -/
theorem own_blk {w : World} {B e s n c : Nat} {A : Option Addr} {xs : List Value} (h : w.ownsRow B e s (.slice A n c) n xs) (hn : 0 < n) : ∃ g cs, A = some ⟨g, 0, none⟩ ∧ B ≤ g ∧ Blk w g e cs := by
  rcases h.2 with ⟨h1, h0⟩ | ⟨g, cap, cur, h1, h2, h3, _⟩
  · injection h1 with _ h1 _; omega
  · have hA : A = some ⟨g, 0, none⟩ := by injection h1
    exact ⟨g, cur, hA, h2, h3⟩
/-- Four cells stored. -/
def set4 (w : World) (g o : Nat) (a b c d : Value) : World := (((w.setCell ⟨g, o, none⟩ a).setCell ⟨g, o + 1, none⟩ b).setCell ⟨g, o + 2, none⟩ c).setCell ⟨g, o + 3, none⟩ d
theorem blk_set4 {w : World} {g t o : Nat} {cs : Array Value} (h : Blk w g t cs) (a b c d : Value) : ∃ cs', Blk (set4 w g o a b c d) g t cs' := ⟨_, (((h.put o a).put (o + 1) b).put (o + 2) c).put (o + 3) d⟩
theorem own_set4 {w : World} {B e s n g t o : Nat} {v : Value} {xs : List Value} {cs : Array Value} (h : w.ownsRow B e s v n xs) (hb : Blk w g t cs) (hne : e ≠ t) (a b c d : Value) : (set4 w g o a b c d).ownsRow B e s v n xs := by
  have h1 := ownsRow_setCell_other h (a := ⟨g, o, none⟩) (own_off h hb hne) a
  have b1 := hb.put o a
  have h2 := ownsRow_setCell_other h1 (a := ⟨g, o + 1, none⟩) (own_off h1 b1 hne) b
  have b2 := b1.put (o + 1) b
  have h3 := ownsRow_setCell_other h2 (a := ⟨g, o + 2, none⟩) (own_off h2 b2 hne) c
  have b3 := b2.put (o + 2) c
  exact ownsRow_setCell_other h3 (a := ⟨g, o + 3, none⟩) (own_off h3 b3 hne) d
theorem below_set4 {B g o : Nat} {w w' : World} (h : Below B w w') (hg : B ≤ g) (a b c d : Value) : Below B w (set4 w' g o a b c d) :=
  (((h.setCell (p := ⟨g, o, none⟩) hg a).setCell (p := ⟨g, o + 1, none⟩) hg b).setCell (p := ⟨g, o + 2, none⟩) hg c).setCell (p := ⟨g, o + 3, none⟩) hg d
theorem far_set4 {w : World} {g g' t o : Nat} {cs : Array Value} (h : Blk w g t cs) (hg : g ≠ g') (a b c d : Value) : Blk (set4 w g' o a b c d) g t cs :=
  (((h.far (p := ⟨g', o, none⟩) hg a).far (p := ⟨g', o + 1, none⟩) hg b).far (p := ⟨g', o + 2, none⟩) hg c).far (p := ⟨g', o + 3, none⟩) hg d
theorem flat_set {ys : List NdS} {k : IntKind} {i : Nat} {y : NdS} (hi : i < ys.length) : (ys.set i y).flatMap (NdS.cs k) = ((((ys.flatMap (NdS.cs k)).set (i * 4) (.int k (y.x.kind : Int))).set (i * 4 + 1) (.int .i64 y.x.step)).set (i * 4 + 2) y.C.v).set (i * 4 + 3) y.S.v := by
  have hlen : ∀ z : NdS, (NdS.cs k z).length = 4 := fun _ => rfl
  apply List.ext_getElem?
  intro j
  by_cases hj : j < ys.length * 4
  · have hq : j / 4 < ys.length := by omega
    have hj4 : j = j / 4 * 4 + j % 4 := by omega
    obtain ⟨z, hz⟩ : ∃ z, ys[j / 4]? = some z := ⟨_, List.getElem?_eq_getElem hq⟩
    have hl0 : (ys.flatMap (NdS.cs k)).length = ys.length * 4 := flat_len hlen ys
    by_cases e : j / 4 = i
    · have h1 : (ys.set i y)[i]? = some y := List.getElem?_set_self hi
      have h2 := flat_get (f := NdS.cs k) (m := 4) hlen h1 (show j % 4 < 4 by omega)
      have hji : j = i * 4 + j % 4 := by omega
      rw [← hji] at h2
      rw [h2]
      have hr : j % 4 < 4 := by omega
      generalize j % 4 = r at *
      subst hji
      match r, hr with
      | 0, _ => simp [NdS.cs, List.getElem?_set, hl0]; omega
      | 1, _ => simp [NdS.cs, List.getElem?_set, hl0]; omega
      | 2, _ => simp [NdS.cs, List.getElem?_set, hl0]; omega
      | 3, _ => simp [NdS.cs, List.getElem?_set, hl0]; omega
    · have h1 : (ys.set i y)[j / 4]? = some z := by rw [List.getElem?_set_ne (by omega)]; exact hz
      have h2 := flat_get (f := NdS.cs k) (m := 4) hlen h1 (show j % 4 < 4 by omega)
      have h3 := flat_get (f := NdS.cs k) (m := 4) hlen hz (show j % 4 < 4 by omega)
      rw [← hj4] at h2 h3
      rw [h2, List.getElem?_set_ne (by omega), List.getElem?_set_ne (by omega), List.getElem?_set_ne (by omega), List.getElem?_set_ne (by omega), h3]
  · rw [List.getElem?_eq_none (by rw [flat_len hlen]; simp; omega), List.getElem?_eq_none (by simp only [List.length_set, flat_len hlen]; omega)]
/-- A node stored. -/
theorem OwnNs.store {k : IntKind} {T : TypeId} {w : World} {base n c i g : Nat} {ys : List NdS} {y : NdS} (h : OwnNs k T w base (.slice (some ⟨g, 0, none⟩) n c) n ys) (hT : 3 ≠ T) (hi : i < n) (hy : NdO w base y) :
    OwnNs k T (set4 w g (i * 4) (.int k (y.x.kind : Int)) (.int .i64 y.x.step) y.C.v y.S.v) base (.slice (some ⟨g, 0, none⟩) n c) n (ys.set i y) := by
  obtain ⟨g', cs, e, _, hb⟩ := own_blk h.row (by omega)
  injection e with e
  injection e with e _ _
  subst e
  have keep : ∀ z, NdO w base z → NdO (set4 w g (i * 4) (.int k (y.x.kind : Int)) (.int .i64 y.x.step) y.C.v y.S.v) base z := fun z hz =>
    ⟨hz.k8, own_set4 hz.ch hb hT _ _ _ _, own_set4 hz.st hb hT _ _ _ _, hz.bc, hz.bs⟩
  refine ⟨?_, fun z hz => ?_⟩
  · rw [flat_set (by rw [h.len]; exact hi)]
    have h1 := (World.ownsRow.stored h.row (i * 4) (.int k (y.x.kind : Int))).1
    have h2 := (World.ownsRow.stored h1 (i * 4 + 1) (.int .i64 y.x.step)).1
    have h3 := (World.ownsRow.stored h2 (i * 4 + 2) y.C.v).1
    exact (World.ownsRow.stored h3 (i * 4 + 3) y.S.v).1
  · rcases List.mem_or_eq_of_mem_set hz with h1 | rfl
    · exact keep z (h.nd z h1)
    · exact keep z hy
theorem RowsI.set4 {w : World} {B g t o : Nat} {vs : List Value} {ls : List (List Int)} {cs : Array Value} (h : RowsI w B vs ls) (hb : Blk w g t cs) (ht : 3 ≠ t) (a b c d : Value) : RowsI (set4 w g o a b c d) B vs ls :=
  ⟨h.1, fun i u l h1 h2 => by obtain ⟨A, n, c', e, ho⟩ := h.2 i u l h1 h2; exact ⟨A, n, c', e, own_set4 ho hb ht _ _ _ _⟩⟩
theorem OwnLL.set4 {w : World} {B n g t o : Nat} {v : Value} {ls : List (List Int)} {cs : Array Value} (h : OwnLL w B v n ls) (hb : Blk w g t cs) (h1 : 30 ≠ t) (ht : 3 ≠ t) (a b c d : Value) : OwnLL (set4 w g o a b c d) B v n ls := by
  obtain ⟨vs, q1, q2⟩ := h.ex
  exact ⟨vs, own_set4 q1 hb h1 _ _ _ _, q2.set4 hb ht _ _ _ _⟩
theorem RowsI.keptAp {w w' : World} {base : Nat} {vs : List Value} {ls : List (List Int)} {row : Option Nat} (h : RowsI w base vs ls) (hg : w.grownBy w' row) (hne : ∀ u ∈ vs, u.ownBlock = none ∨ u.ownBlock ≠ row) : RowsI w' base vs ls :=
  ⟨h.1, fun i u l h1 h2 => by obtain ⟨A, n, c, e, o⟩ := h.2 i u l h1 h2; exact ⟨A, n, c, e, o.kept hg (hne u (List.mem_of_getElem? h1))⟩⟩
end Go.Proofs.YtcnofhlgiffkjaaGreatDoor
