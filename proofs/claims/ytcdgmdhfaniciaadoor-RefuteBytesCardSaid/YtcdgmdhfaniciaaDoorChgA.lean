/- Changes of nodes: plain; nodes changed in place. -/
import Derived.Test.YtcdgmdhfaniciaaDoorRfA
namespace Go.Proofs.YtcdgmdhfaniciaaDoor
open Go.RowKit
set_option linter.unusedVariables false
set_option linter.unusedSimpArgs false

/-- One change. -/
def chg1 (l : List Nd) (c : Chg) : List Nd :=
  if l.length = 0 then l
  else if c.kind % 6 = 0 then l.set (c.at_ % l.length) { (l[c.at_ % l.length]?.getD ⟨0, 0, [], []⟩) with kind := c.place % 5 }
  else if c.kind % 6 = 1 then l.set (c.at_ % l.length) { (l[c.at_ % l.length]?.getD ⟨0, 0, [], []⟩) with step := c.n }
  else if c.kind % 6 = 2 then
    (if (l[c.at_ % l.length]?.getD ⟨0, 0, [], []⟩).ch.length = 0 then l
     else l.set (c.at_ % l.length) { (l[c.at_ % l.length]?.getD ⟨0, 0, [], []⟩) with ch := (l[c.at_ % l.length]?.getD ⟨0, 0, [], []⟩).ch.set (c.place % (l[c.at_ % l.length]?.getD ⟨0, 0, [], []⟩).ch.length) c.n })
  else if c.kind % 6 = 3 then l.set (c.at_ % l.length) { (l[c.at_ % l.length]?.getD ⟨0, 0, [], []⟩) with ch := (l[c.at_ % l.length]?.getD ⟨0, 0, [], []⟩).ch ++ [c.n] }
  else if c.kind % 6 = 4 then l.set (c.at_ % l.length) { (l[c.at_ % l.length]?.getD ⟨0, 0, [], []⟩) with st := (l[c.at_ % l.length]?.getD ⟨0, 0, [], []⟩).st ++ [c.n] }
  else l.take (l.length - 1)
def chgL (l : List Nd) (cs : List Chg) : List Nd := (cs.take 3).foldl chg1 l
theorem chg1_nil (c : Chg) : chg1 [] c = [] := rfl
theorem chgs_nil : ∀ cs : List Chg, cs.foldl chg1 [] = []
  | [] => rfl
  | c :: cs => chgs_nil cs

theorem flat_set1 {α β : Type} {f : α → List β} {m j : Nat} {v : β} {x x' : α} (hf : ∀ x, (f x).length = m) (hj : j < m) (h : f x' = (f x).set j v) : ∀ {l : List α} {i : Nat}, l[i]? = some x → (l.set i x').flatMap f = (l.flatMap f).set (i * m + j) v
  | [], _, hx => by simp at hx
  | y :: l, 0, hx => by
    injection hx with hx
    subst hx
    simp only [List.set_cons_zero, List.flatMap_cons, h, Nat.zero_mul, Nat.zero_add]
    rw [List.set_append_left _ _ (by rw [hf]; exact hj)]
  | y :: l, i + 1, hx => by
    have ih := flat_set1 hf hj h (l := l) (i := i) hx
    simp only [List.set_cons_succ, List.flatMap_cons, ih]
    rw [List.set_append_right _ _ (by rw [hf, Nat.succ_mul]; omega), hf]
    congr 2
    rw [Nat.succ_mul]; omega
theorem flat_same {α β : Type} {f : α → List β} {x x' : α} (h : f x' = f x) : ∀ {l : List α} {i : Nat}, l[i]? = some x → (l.set i x').flatMap f = l.flatMap f
  | [], _, hx => by simp at hx
  | y :: l, 0, hx => by
    injection hx with hx
    subst hx
    simp only [List.set_cons_zero, List.flatMap_cons, h]
  | y :: l, i + 1, hx => by simp only [List.set_cons_succ, List.flatMap_cons, flat_same h (l := l) (i := i) hx]
/-- One field of a node stored. -/
theorem OwnNs.poke {k : IntKind} {T : TypeId} {w : World} {base n c i g f : Nat} {ys : List NdS} {y y' : NdS} {v : Value} (h : OwnNs k T w base (.slice (some ⟨g, 0, none⟩) n c) n ys) (hT : 3 ≠ T) (hy : ys[i]? = some y) (hf : f < 4) (hcs : y'.cs k = (y.cs k).set f v) (hy' : NdO w base y') :
    OwnNs k T (w.setCell ⟨g, i * 4 + f, none⟩ v) base (.slice (some ⟨g, 0, none⟩) n c) n (ys.set i y') := by
  have hi : i < n := by rw [← h.len]; exact (List.getElem?_eq_some_iff.1 hy).1
  obtain ⟨g', cs, e, _, hb⟩ := own_blk h.row (by omega)
  injection e with e
  injection e with e _ _
  subst e
  refine ⟨?_, fun z hz => ?_⟩
  · rw [flat_set1 (m := 4) (fun _ => rfl) hf hcs hy]
    exact (World.ownsRow.stored h.row (i * 4 + f) v).1
  · rcases List.mem_or_eq_of_mem_set hz with h1 | rfl
    · exact (h.nd z h1).put hb hT v
    · exact hy'.put hb hT v
/-- Rows that are the same, of a node that is changed otherwise. -/
theorem ApNs.same {ys : List NdS} {i : Nat} {y y' : NdS} (h : ApNs ys) (hy : ys[i]? = some y) (hC : y'.C = y.C) (hS : y'.S = y.S) : ApNs (ys.set i y') := by
  have key : ∀ (j : Nat) (z : NdS), (ys.set i y')[j]? = some z → ∃ z0, ys[j]? = some z0 ∧ z.C = z0.C ∧ z.S = z0.S := fun j z hz => by
    by_cases e : i = j
    · subst e
      rw [List.getElem?_set_self (List.getElem?_eq_some_iff.1 hy).1] at hz
      injection hz with hz
      subst hz
      exact ⟨y, hy, hC, hS⟩
    · rw [List.getElem?_set_ne e] at hz
      exact ⟨z, hz, rfl, rfl⟩
  refine ⟨fun j z hz => ?_, fun a b z x hab hz hx => ?_⟩
  · obtain ⟨z0, h0, e1, e2⟩ := key j z hz
    rw [e1, e2]; exact h.self j z0 h0
  · obtain ⟨z0, h0, e1, e2⟩ := key a z hz
    obtain ⟨x0, h1, e3, e4⟩ := key b x hx
    rw [e1, e2, e3, e4]; exact h.ne a b z0 x0 hab h0 h1
theorem OwnNs.take {k : IntKind} {T : TypeId} {w : World} {base n c m : Nat} {A : Option Addr} {ys : List NdS} (h : OwnNs k T w base (.slice A n c) n ys) (hm : m ≤ n) : OwnNs k T w base (.slice A m c) m (ys.take m) := by
  have hl := h.len
  have hft : ∀ (l : List NdS) (m : Nat), (l.take m).flatMap (NdS.cs k) = (l.flatMap (NdS.cs k)).take (m * 4) := by
    intro l
    induction l with
    | nil => intro m; simp
    | cons y l ih =>
      intro m
      cases m with
      | zero => simp
      | succ m =>
        have e : (NdS.cs k y).length = 4 := rfl
        rw [List.take_succ_cons, List.flatMap_cons, List.flatMap_cons, ih, List.take_append, e, show (m + 1) * 4 - 4 = m * 4 by omega, List.take_of_length_le (l := NdS.cs k y) (by rw [e]; omega)]
  refine ⟨⟨?_, ?_⟩, fun y hy => h.nd y (List.mem_of_mem_take hy)⟩
  · rw [flat_len (f := NdS.cs k) (m := 4) (fun _ => rfl), List.length_take]
    omega
  · rcases h.row.2 with ⟨h1, h0⟩ | ⟨g, cap, cur, h1, h2, h3, h4, h5, h6, h7⟩
    · injection h1 with e1 e2 e3
      left
      have : m = 0 := by omega
      subst this
      exact ⟨by rw [e1, e3], by simp⟩
    · injection h1 with e1 e2 e3
      right
      refine ⟨g, cap, cur, by rw [e1, e3], h2, h3, by omega, h5, h6, ?_⟩
      rw [hft, ← h7, List.take_take]
      congr 1
      have : m * 4 ≤ n * 4 := by omega
      omega
theorem ApNs.take {ys : List NdS} (h : ApNs ys) (m : Nat) : ApNs (ys.take m) := by
  have key : ∀ (j : Nat) (z : NdS), (ys.take m)[j]? = some z → ys[j]? = some z := fun j z hz => by
    rw [List.getElem?_take] at hz
    split at hz
    · exact hz
    · cases hz
  exact ⟨fun j z hz => h.self j z (key j z hz), fun a b z x hab hz hx => h.ne a b z x hab (key a z hz) (key b x hx)⟩
theorem SmNs.take {b : Nat} {ys : List NdS} (h : SmNs b ys) (m : Nat) : SmNs b (ys.take m) := fun y hy => h y (List.mem_of_mem_take hy)
theorem SmNs.more {b b' : Nat} {ys : List NdS} (h : SmNs b ys) (hb : b ≤ b') : SmNs b' ys := fun y hy => ⟨Nat.le_trans (h y hy).1 hb, Nat.le_trans (h y hy).2 hb⟩
/-- A child's number stored. -/
theorem OwnNs.pokeC {k : IntKind} {T : TypeId} {w : World} {base n c i j gc m cc : Nat} {A : Option Addr} {ys : List NdS} {x : Nd} {S : Sl} {z : Int} (h : OwnNs k T w base (.slice A n c) n ys) (hA : ApNs ys) (hT : 3 ≠ T) (hy : ys[i]? = some ⟨x, ⟨some ⟨gc, 0, none⟩, m, cc⟩, S⟩) :
    OwnNs k T (w.setCell ⟨gc, j, none⟩ (.int .i64 z)) base (.slice A n c) n (ys.set i ⟨{ x with ch := x.ch.set j z }, ⟨some ⟨gc, 0, none⟩, m, cc⟩, S⟩) := by
  have hY := h.nd _ (List.mem_of_getElem? hy)
  have hch := hY.ch
  simp only [] at hch
  have h0 : ∀ {e s n' B : Nat} {v : Value} {xs : List Value}, w.ownsRow B e s v n' xs → Apt v (.slice (some ⟨gc, 0, none⟩) m cc) → (w.setCell ⟨gc, j, none⟩ (.int .i64 z)).ownsRow B e s v n' xs := fun hv hap =>
    ownsRow_setCell_other hv (a := ⟨gc, j, none⟩) (fun e => by
      rcases hap with h1 | h1
      · rw [h1] at e; cases e
      · exact h1 (by rw [e]; rfl)) _
  refine ⟨?_, fun y hy' => ?_⟩
  · rw [flat_same (by rfl) hy]
    exact h0 h.row (own_apart h.row hch (fun e => hT e.symm))
  · obtain ⟨q, hq⟩ := List.mem_iff_getElem?.1 hy'
    by_cases e : i = q
    · subst e
      rw [List.getElem?_set_self (List.getElem?_eq_some_iff.1 hy).1] at hq
      injection hq with hq
      subst hq
      refine ⟨hY.k8, ?_, h0 hY.st (hA.self i _ hy).2, hY.bc, hY.bs⟩
      show World.ownsRow _ _ _ _ _ _ _
      rw [List.map_set]
      exact (World.ownsRow.stored hch j (.int .i64 z)).1
    · rw [List.getElem?_set_ne e] at hq
      have hZ := h.nd y (List.mem_of_getElem? hq)
      have ha := hA.ne q i y _ (fun e2 => e e2.symm) hq hy
      exact ⟨hZ.k8, h0 hZ.ch ha.1, h0 hZ.st ha.2.2.1, hZ.bc, hZ.bs⟩
/-- An old row, and one that has grown. -/
theorem Apt.grew {w : World} {B e s n x : Nat} {v vo vn : Value} {xs : List Value} (h : w.ownsRow B e s v n xs) (ha : Apt v vo ∧ Apt vo v) (hk : vn.ownBlock = vo.ownBlock ∨ vn.ownBlock = some x) (hx : w.heap.size ≤ x) : Apt v vn ∧ Apt vn v := by
  refine ⟨own_ap h ha.1 hk hx, ?_⟩
  rcases hk with e1 | e1
  · unfold Apt; rw [e1]; exact ha.2
  · right
    rw [e1]
    intro e2
    have := (h.lt x e2.symm).2
    omega
/-- A number appended to a row of node i: its children, then stored. -/
theorem OwnNs.growC {k : IntKind} {T : TypeId} {w w' : World} {base n c i g c' : Nat} {A' : Option Addr} {ys : List NdS} {y : NdS} {z : Int} (h : OwnNs k T w base (.slice (some ⟨g, 0, none⟩) n c) n ys) (hA : ApNs ys) (hT : 3 ≠ T) (hy : ys[i]? = some y)
    (hb : y.C.n + 1 ≤ 1000000) (ho : OwnI w' base (.slice A' (y.C.n + 1) c') (y.C.n + 1) (y.x.ch ++ [z])) (hg : w.grownBy w' y.C.v.ownBlock) (hk : (Value.slice A' (y.C.n + 1) c').ownBlock = y.C.v.ownBlock ∨ (Value.slice A' (y.C.n + 1) c').ownBlock = some (w.heap.size + 1)) :
    OwnNs k T (w'.setCell ⟨g, i * 4 + 2, none⟩ (.slice A' (y.C.n + 1) c')) base (.slice (some ⟨g, 0, none⟩) n c) n (ys.set i ⟨{ y.x with ch := y.x.ch ++ [z] }, ⟨A', y.C.n + 1, c'⟩, y.S⟩) ∧
      ApNs (ys.set i ⟨{ y.x with ch := y.x.ch ++ [z] }, ⟨A', y.C.n + 1, c'⟩, y.S⟩) := by
  have hY := h.nd _ (List.mem_of_getElem? hy)
  have hiy := (List.getElem?_eq_some_iff.1 hy).1
  have hrow : w'.ownsRow base T 4 (.slice (some ⟨g, 0, none⟩) n c) n (ys.flatMap (NdS.cs k)) := World.ownsRow.kept h.row hg (own_apart h.row hY.ch (fun e => hT e.symm))
  have hin : 0 < n := by rw [← h.len]; omega
  obtain ⟨g', cs, e, _, hbk⟩ := own_blk hrow hin
  injection e with e
  injection e with e _ _
  subst e
  have hS' : OwnI w' base y.S.v y.S.n y.x.st := hY.st.kept hg (hA.self i y hy).2
  refine ⟨⟨?_, fun q hq => ?_⟩, ?_⟩
  · rw [flat_set1 (m := 4) (j := 2) (v := .slice A' (y.C.n + 1) c') (fun _ => rfl) (by omega) (by rfl) hy]
    exact (World.ownsRow.stored hrow (i * 4 + 2) _).1
  · obtain ⟨r, hr⟩ := List.mem_iff_getElem?.1 hq
    by_cases e : i = r
    · subst e
      rw [List.getElem?_set_self hiy] at hr
      injection hr with hr
      subst hr
      exact NdO.put (y := ⟨{ y.x with ch := y.x.ch ++ [z] }, ⟨A', y.C.n + 1, c'⟩, y.S⟩) ⟨hY.k8, ho, hS', hb, hY.bs⟩ hbk hT _
    · rw [List.getElem?_set_ne e] at hr
      have hZ := h.nd q (List.mem_of_getElem? hr)
      have ha := hA.ne r i q _ (fun e2 => e e2.symm) hr hy
      exact NdO.put (hZ.grown hg ha.1 ha.2.2.1) hbk hT _
  · refine ⟨fun r q hq => ?_, fun r r2 q q2 hrr hq hq2 => ?_⟩
    · by_cases e : i = r
      · subst e
        rw [List.getElem?_set_self hiy] at hq
        injection hq with hq
        subst hq
        have := Apt.grew hY.st ⟨(hA.self i y hy).2, (hA.self i y hy).1⟩ hk (Nat.le_succ _)
        exact ⟨this.2, this.1⟩
      · rw [List.getElem?_set_ne e] at hq
        exact hA.self r q hq
    · by_cases e : i = r
      · subst e
        rw [List.getElem?_set_self hiy] at hq
        injection hq with hq
        subst hq
        rw [List.getElem?_set_ne hrr] at hq2
        have hZ := h.nd q2 (List.mem_of_getElem? hq2)
        have a1 := hA.ne i r2 y q2 hrr hy hq2
        have a2 := hA.ne r2 i q2 y (Ne.symm hrr) hq2 hy
        exact ⟨(Apt.grew hZ.ch ⟨a2.1, a1.1⟩ hk (Nat.le_succ _)).2, (Apt.grew hZ.st ⟨a2.2.2.1, a1.2.1⟩ hk (Nat.le_succ _)).2, a1.2.2.1, a1.2.2.2⟩
      · rw [List.getElem?_set_ne e] at hq
        by_cases e2 : i = r2
        · subst e2
          rw [List.getElem?_set_self hiy] at hq2
          injection hq2 with hq2
          subst hq2
          have hZ := h.nd q (List.mem_of_getElem? hq)
          have a1 := hA.ne r i q y hrr hq hy
          have a2 := hA.ne i r y q (Ne.symm hrr) hy hq
          exact ⟨(Apt.grew hZ.ch ⟨a1.1, a2.1⟩ hk (Nat.le_succ _)).1, a1.2.1, (Apt.grew hZ.st ⟨a1.2.2.1, a2.2.1⟩ hk (Nat.le_succ _)).1, a1.2.2.2⟩
        · rw [List.getElem?_set_ne e2] at hq2
          exact hA.ne r r2 q q2 hrr hq hq2
/-- A number appended to a row of node i: its steps, then stored. -/
theorem OwnNs.growS {k : IntKind} {T : TypeId} {w w' : World} {base n c i g c' : Nat} {A' : Option Addr} {ys : List NdS} {y : NdS} {z : Int} (h : OwnNs k T w base (.slice (some ⟨g, 0, none⟩) n c) n ys) (hA : ApNs ys) (hT : 3 ≠ T) (hy : ys[i]? = some y)
    (hb : y.S.n + 1 ≤ 1000000) (ho : OwnI w' base (.slice A' (y.S.n + 1) c') (y.S.n + 1) (y.x.st ++ [z])) (hg : w.grownBy w' y.S.v.ownBlock) (hk : (Value.slice A' (y.S.n + 1) c').ownBlock = y.S.v.ownBlock ∨ (Value.slice A' (y.S.n + 1) c').ownBlock = some (w.heap.size + 1)) :
    OwnNs k T (w'.setCell ⟨g, i * 4 + 3, none⟩ (.slice A' (y.S.n + 1) c')) base (.slice (some ⟨g, 0, none⟩) n c) n (ys.set i ⟨{ y.x with st := y.x.st ++ [z] }, y.C, ⟨A', y.S.n + 1, c'⟩⟩) ∧
      ApNs (ys.set i ⟨{ y.x with st := y.x.st ++ [z] }, y.C, ⟨A', y.S.n + 1, c'⟩⟩) := by
  have hY := h.nd _ (List.mem_of_getElem? hy)
  have hiy := (List.getElem?_eq_some_iff.1 hy).1
  have hrow : w'.ownsRow base T 4 (.slice (some ⟨g, 0, none⟩) n c) n (ys.flatMap (NdS.cs k)) := World.ownsRow.kept h.row hg (own_apart h.row hY.st (fun e => hT e.symm))
  have hin : 0 < n := by rw [← h.len]; omega
  obtain ⟨g', cs, e, _, hbk⟩ := own_blk hrow hin
  injection e with e
  injection e with e _ _
  subst e
  have hS' : OwnI w' base y.C.v y.C.n y.x.ch := hY.ch.kept hg (hA.self i y hy).1
  refine ⟨⟨?_, fun q hq => ?_⟩, ?_⟩
  · rw [flat_set1 (m := 4) (j := 3) (v := .slice A' (y.S.n + 1) c') (fun _ => rfl) (by omega) (by rfl) hy]
    exact (World.ownsRow.stored hrow (i * 4 + 3) _).1
  · obtain ⟨r, hr⟩ := List.mem_iff_getElem?.1 hq
    by_cases e : i = r
    · subst e
      rw [List.getElem?_set_self hiy] at hr
      injection hr with hr
      subst hr
      exact NdO.put (y := ⟨{ y.x with st := y.x.st ++ [z] }, y.C, ⟨A', y.S.n + 1, c'⟩⟩) ⟨hY.k8, hS', ho, hY.bc, hb⟩ hbk hT _
    · rw [List.getElem?_set_ne e] at hr
      have hZ := h.nd q (List.mem_of_getElem? hr)
      have ha := hA.ne r i q _ (fun e2 => e e2.symm) hr hy
      exact NdO.put (hZ.grown hg ha.2.1 ha.2.2.2) hbk hT _
  · refine ⟨fun r q hq => ?_, fun r r2 q q2 hrr hq hq2 => ?_⟩
    · by_cases e : i = r
      · subst e
        rw [List.getElem?_set_self hiy] at hq
        injection hq with hq
        subst hq
        have := Apt.grew hY.ch ⟨(hA.self i y hy).1, (hA.self i y hy).2⟩ hk (Nat.le_succ _)
        exact ⟨this.1, this.2⟩
      · rw [List.getElem?_set_ne e] at hq
        exact hA.self r q hq
    · by_cases e : i = r
      · subst e
        rw [List.getElem?_set_self hiy] at hq
        injection hq with hq
        subst hq
        rw [List.getElem?_set_ne hrr] at hq2
        have hZ := h.nd q2 (List.mem_of_getElem? hq2)
        have a1 := hA.ne i r2 y q2 hrr hy hq2
        have a2 := hA.ne r2 i q2 y (Ne.symm hrr) hq2 hy
        exact ⟨a1.1, a1.2.1, (Apt.grew hZ.ch ⟨a2.2.1, a1.2.2.1⟩ hk (Nat.le_succ _)).2, (Apt.grew hZ.st ⟨a2.2.2.2, a1.2.2.2⟩ hk (Nat.le_succ _)).2⟩
      · rw [List.getElem?_set_ne e] at hq
        by_cases e2 : i = r2
        · subst e2
          rw [List.getElem?_set_self hiy] at hq2
          injection hq2 with hq2
          subst hq2
          have hZ := h.nd q (List.mem_of_getElem? hq)
          have a1 := hA.ne r i q y hrr hq hy
          have a2 := hA.ne i r y q (Ne.symm hrr) hy hq
          exact ⟨a1.1, (Apt.grew hZ.ch ⟨a1.2.1, a2.2.2.1⟩ hk (Nat.le_succ _)).1, a1.2.2.1, (Apt.grew hZ.st ⟨a1.2.2.2, a2.2.2.2⟩ hk (Nat.le_succ _)).1⟩
        · rw [List.getElem?_set_ne e2] at hq2
          exact hA.ne r r2 q q2 hrr hq hq2
end Go.Proofs.YtcdgmdhfaniciaaDoor
