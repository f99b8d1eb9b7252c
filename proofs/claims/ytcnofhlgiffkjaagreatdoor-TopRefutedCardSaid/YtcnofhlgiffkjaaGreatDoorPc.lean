/- A pack of texts: PrP, Cf, Form, AwL, BrkP, Marks, LstM, QRound, Row, BitsE. -/
import Derived.Test.YtcnofhlgiffkjaaGreatDoorPb
import Derived.Sort.QuietIn
import Derived.OwnWalkIn
import Derived.Test.YtcnofhlgiffkjaaGreatDoorPa
import Derived.Lib.OwnKind
import Derived.OneCell
import Derived.Deep.RegionWith
/- Problems: plain, and as they lie in memory. -/
namespace Go.Proofs.YtcnofhlgiffkjaaGreatDoor
open Go.RowKit
set_option linter.unusedVariables false
set_option linter.unusedSimpArgs false

/-- A problem. -/
structure Pr where
  elig : List Nat
  dif : List (Int × Int)
  sam : List (Int × Int)
  mst : List (Int × Nat)
  fix : List Int
def userB (u : Int) : Bool := decide (1 ≤ u ∧ u ≤ 256)
def fixBad (u : Int) : Bool := decide (u ≠ 0 ∧ ¬ (1 ≤ u ∧ u ≤ 256))
/-- The first error of pairs. -/
def chkPairs (n : Nat) : List (Int × Int) → Int
  | [] => 0
  | (a, b) :: l => if a < 0 ∨ b < 0 ∨ (n : Int) ≤ a ∨ (n : Int) ≤ b then 2 else if a = b then 1 else chkPairs n l
def eligBad (M : Nat) : Bool := M.testBit 0 || !withinB M (2 ^ 257 - 1)
def mstBad (n : Nat) (m : Int × Nat) : Bool := decide (m.1 < 1) || decide (10 < m.1) || decide (m.2 = 0) || !withinB m.2 (2 ^ n - 1)
/-- The error of a problem. -/
def chkP (P : Pr) : Int :=
  if P.elig.length = 0 then 4
  else if 10 < P.elig.length ∨ 20 < P.dif.length ∨ 20 < P.sam.length ∨ 20 < P.mst.length then 3
  else if P.fix.length ≠ P.elig.length then 1
  else if P.elig.any eligBad = true then 2
  else if P.fix.any fixBad = true then 2
  else if chkPairs P.elig.length P.dif ≠ 0 then chkPairs P.elig.length P.dif
  else if chkPairs P.elig.length P.sam ≠ 0 then chkPairs P.elig.length P.sam
  else if P.mst.any (mstBad P.elig.length) = true then 2 else 0

/-- A slice value. -/
structure Sl where
  a : Option Addr
  n : Nat
  c : Nat
def Sl.v (s : Sl) : Value := .slice s.a s.n s.c

theorem SetAt.below {w w' : World} {B : Nat} {v : Value} {M : Nat} (h : SetAt w B v M) (hb : Below B w w') : SetAt w' B v M := by
  obtain ⟨A, n, c, rfl, h1, h2, h4, s, r⟩ := h
  refine ⟨A, n, c, rfl, h1, h2, h4, s.below hb, fun b o e h0 => ?_⟩
  obtain ⟨cs, hc⟩ := r b o e h0
  have hne : ((dg 64 M).map wv) ≠ [] := by
    intro e'
    have := congrArg List.length e'
    rw [List.length_map, dg_length, h4] at this
    exact h0 this
  obtain ⟨b', o', e', hb', _⟩ := s hne
  rw [e] at e'
  injection e' with e'
  injection e' with e1 _ _
  exact ⟨cs, hc.below hb (by omega)⟩
theorem SetAt.more {w : World} {B B' : Nat} {v : Value} {M : Nat} (h : SetAt w B v M) (hb : B ≤ B') : SetAt w B' v M := by
  obtain ⟨A, n, c, rfl, h1, h2, h4, s, r⟩ := h
  exact ⟨A, n, c, rfl, h1, h2, h4, s.more hb, r⟩

/-- A holds these sets. -/
def SetsAt (w : World) (B : Nat) (A : Option Addr) (l : List Nat) : Prop :=
  ∀ (i M : Nat), l[i]? = some M → ∃ b o X, A = some ⟨b, o, none⟩ ∧ b < B ∧ w.cell? ⟨b, o + i, none⟩ = some X ∧ SetAt w B (.agg #[X]) M
theorem SetsAt.below {w w' : World} {B : Nat} {A : Option Addr} {l : List Nat} (h : SetsAt w B A l) (hb : Below B w w') : SetsAt w' B A l := fun i M hi => by
  obtain ⟨b, o, X, e, h1, h2, h3⟩ := h i M hi
  exact ⟨b, o, X, e, h1, (hb.cell (p := ⟨b, o + i, none⟩) h1).trans h2, h3.below hb⟩
theorem SetsAt.more {w : World} {B B' : Nat} {A : Option Addr} {l : List Nat} (h : SetsAt w B A l) (hb : B ≤ B') : SetsAt w B' A l := fun i M hi => by
  obtain ⟨b, o, X, e, h1, h2, h3⟩ := h i M hi
  exact ⟨b, o, X, e, by omega, h2, h3.more hb⟩
/-- A holds these pairs. -/
def PairsAt (w : World) (B : Nat) (A : Option Addr) (l : List (Int × Int)) : Prop :=
  ∀ (i : Nat) (x : Int × Int), l[i]? = some x → ∃ b o, A = some ⟨b, o, none⟩ ∧ b < B ∧ w.cell? ⟨b, o + i * 2, none⟩ = some (.int .i64 x.1) ∧ w.cell? ⟨b, o + i * 2 + 1, none⟩ = some (.int .i64 x.2)
theorem PairsAt.below {w w' : World} {B : Nat} {A : Option Addr} {l : List (Int × Int)} (h : PairsAt w B A l) (hb : Below B w w') : PairsAt w' B A l := fun i x hi => by
  obtain ⟨b, o, e, h1, h2, h3⟩ := h i x hi
  exact ⟨b, o, e, h1, (hb.cell (p := ⟨b, o + i * 2, none⟩) h1).trans h2, (hb.cell (p := ⟨b, o + i * 2 + 1, none⟩) h1).trans h3⟩
theorem PairsAt.more {w : World} {B B' : Nat} {A : Option Addr} {l : List (Int × Int)} (h : PairsAt w B A l) (hb : B ≤ B') : PairsAt w B' A l := fun i x hi => by
  obtain ⟨b, o, e, h1, h2, h3⟩ := h i x hi
  exact ⟨b, o, e, by omega, h2, h3⟩
/-- A holds these limits. -/
def MostAt (w : World) (B : Nat) (A : Option Addr) (l : List (Int × Nat)) : Prop :=
  ∀ (i : Nat) (x : Int × Nat), l[i]? = some x → ∃ b o X, A = some ⟨b, o, none⟩ ∧ b < B ∧ w.cell? ⟨b, o + i * 2, none⟩ = some (.int .i64 x.1) ∧ w.cell? ⟨b, o + i * 2 + 1, none⟩ = some X ∧ SetAt w B (.agg #[X]) x.2
theorem MostAt.below {w w' : World} {B : Nat} {A : Option Addr} {l : List (Int × Nat)} (h : MostAt w B A l) (hb : Below B w w') : MostAt w' B A l := fun i x hi => by
  obtain ⟨b, o, X, e, h1, h2, h3, h4⟩ := h i x hi
  exact ⟨b, o, X, e, h1, (hb.cell (p := ⟨b, o + i * 2, none⟩) h1).trans h2, (hb.cell (p := ⟨b, o + i * 2 + 1, none⟩) h1).trans h3, h4.below hb⟩
theorem MostAt.more {w : World} {B B' : Nat} {A : Option Addr} {l : List (Int × Nat)} (h : MostAt w B A l) (hb : B ≤ B') : MostAt w B' A l := fun i x hi => by
  obtain ⟨b, o, X, e, h1, h2, h3, h4⟩ := h i x hi
  exact ⟨b, o, X, e, by omega, h2, h3, h4.more hb⟩

/-- A problem's value. -/
structure PrV where
  s1 : Sl
  s2 : Sl
  s3 : Sl
  s4 : Sl
  s5 : Sl
def PrV.v (p : PrV) : Value := .agg #[p.s1.v, p.s2.v, p.s3.v, p.s4.v, p.s5.v]
/-- The problem P lies in memory, in blocks below B. -/
structure PrAt (w : World) (B : Nat) (p : PrV) (P : Pr) : Prop where
  l1 : P.elig.length = p.s1.n
  l2 : P.dif.length = p.s2.n
  l3 : P.sam.length = p.s3.n
  l4 : P.mst.length = p.s4.n
  l5 : P.fix.length = p.s5.n
  e1 : SetsAt w B p.s1.a P.elig
  e2 : PairsAt w B p.s2.a P.dif
  e3 : PairsAt w B p.s3.a P.sam
  e4 : MostAt w B p.s4.a P.mst
  e5 : Sees w B p.s5.a (P.fix.map iv)
  b1 : p.s1.n ≤ 1000000
  b2 : p.s2.n ≤ 1000000
  b3 : p.s3.n ≤ 1000000
  b4 : p.s4.n ≤ 1000000
  b5 : p.s5.n ≤ 1000000
  c5 : p.s5.n ≤ p.s5.c
theorem PrAt.below {w w' : World} {B : Nat} {p : PrV} {P : Pr} (h : PrAt w B p P) (hb : Below B w w') : PrAt w' B p P :=
  ⟨h.l1, h.l2, h.l3, h.l4, h.l5, h.e1.below hb, h.e2.below hb, h.e3.below hb, h.e4.below hb, h.e5.below hb, h.b1, h.b2, h.b3, h.b4, h.b5, h.c5⟩
theorem PrAt.more {w : World} {B B' : Nat} {p : PrV} {P : Pr} (h : PrAt w B p P) (hb : B ≤ B') : PrAt w B' p P :=
  ⟨h.l1, h.l2, h.l3, h.l4, h.l5, h.e1.more hb, h.e2.more hb, h.e3.more hb, h.e4.more hb, h.e5.more hb, h.b1, h.b2, h.b3, h.b4, h.b5, h.c5⟩
theorem PrAt.on {w w' : World} {p : PrV} {P : Pr} (h : PrAt w w.heap.size p P) (hb : Below w.heap.size w w') : PrAt w' w'.heap.size p P := (h.below hb).more hb.size
end Go.Proofs.YtcnofhlgiffkjaaGreatDoor
/- refute.user; slices.ContainsFunc with the closure of CheckProblem; pairs. -/
namespace Go.Proofs.YtcnofhlgiffkjaaGreatDoor
open Go.RowKit
set_option linter.unusedVariables false
set_option linter.unusedSimpArgs false

theorem user_any (u : Int) (w : World) :
    Calls Tryz.prog 62 #[.int .i64 u] w fun e w' => e = .returned (.bool (userB u)) ∧ w = w' := by
  by_cases h1 : 1 ≤ u
  · by_cases h2 : u ≤ 256
    · have e : userB u = true := by unfold userB; rw [decide_eq_true ⟨h1, h2⟩]
      rw [e]
      go_enter Tryz.func62, Tryz.ntmps62
      go_wp2_with fail
      go_ret
      exact ⟨rfl, rfl⟩
    · have e : userB u = false := by unfold userB; rw [decide_eq_false (fun h => h2 h.2)]
      rw [e]
      go_enter Tryz.func62, Tryz.ntmps62
      go_wp2_with fail
      go_ret
      exact ⟨rfl, rfl⟩
  · have e : userB u = false := by unfold userB; rw [decide_eq_false (fun h => h1 h.1)]
    rw [e]
    go_enter Tryz.func62, Tryz.ntmps62
    go_wp2_with fail
    go_ret
    exact ⟨rfl, rfl⟩
theorem fixBad_user (u : Int) (h : u ≠ 0) : fixBad u = !userB u := by
  unfold fixBad userB
  by_cases h1 : 1 ≤ u ∧ u ≤ 256
  · rw [decide_eq_true h1, decide_eq_false (fun e => e.2 h1)]; rfl
  · rw [decide_eq_false h1, decide_eq_true ⟨h, h1⟩]; rfl
theorem chk1_any (u : Int) (w : World) :
    Calls Tryz.prog 61 #[.int .i64 u] w fun e w' => e = .returned (.bool (fixBad u)) ∧ w = w' := by
  by_cases h : u = 0
  · subst h
    go_enter Tryz.func61, Tryz.ntmps61
    go_wp2_with fail
    go_ret
    exact ⟨rfl, rfl⟩
  · rw [fixBad_user u h]
    have hb : (u != 0) = true := by simpa using h
    have hu := user_any u w
    generalize userB u = z at hu ⊢
    go_enter Tryz.func61, Tryz.ntmps61
    go_wp2_with fail
    refine hu.mono ?_
    rintro e w1 ⟨rfl, rfl⟩
    go_wp2_with fail
    go_ret
    exact ⟨rfl, rfl⟩


/-- slices.IndexFunc with the closure arbac/refute.CheckProblem$1. -/
theorem idx_chk  (A : Option Addr) (n c : Nat) (l : List Int) (w : World) (h : Sees w w.heap.size A (l.map iv)) (hn : l.length = n) (hb : n ≤ 1000000) :
    Calls Tryz.prog 93 #[.slice A n c, .func (.func 61) #[] #[]] w fun e w' => (∃ z : Int, e = .returned (.int .i64 z) ∧ Hid (decide (0 ≤ z) = l.any (fixBad))) ∧ w = w' := by
  have Hn := Lib.hid hn
  have hb1 : (n : Int) ≤ 1000000 := by omega
  clear hn
  go_enter Tryz.func93, Tryz.ntmps93
  go_wp2_with fail
  go_loopw [8] (fun i wr => ∃ k : Nat, k ≤ n ∧ i = .int .i64 k ∧ Hid ((l.take k).any (fixBad) = false) ∧ w = wr) (fun i _ => n - (intOf i).toNat)
  case atStart => exact ⟨0, Nat.zero_le _, rfl, Lib.hid rfl, rfl⟩
  case round =>
    obtain ⟨k, hk, rfl, HP, rfl⟩ := hrel
    by_cases hlt : k < n
    · have hlt' : (k : Int) < (n : Int) := by omega
      obtain ⟨b, o, z, rfl, hb2, Hz, hc⟩ := Sees.int (k := k) h (by rw [Hn.out]; exact hlt)
      have hcall := chk1_any z w
      have hnext : (l.take (k + 1)).any (fixBad) = ((l.take k).any (fixBad) || (fixBad) z) := by
        rw [List.take_add_one, Hz.out]; simp
      rw [HP.out, Bool.false_or] at hnext
      have Hnext := Lib.hid hnext
      clear hnext
      by_cases hz : (fixBad) z = true
      · rw [hz] at hcall Hnext
        clear hz
        go_wp2_with fail
        refine hcall.mono ?_
        rintro e w1 ⟨rfl, rfl⟩
        go_wp2_with fail
        go_ret
        refine ⟨⟨k, rfl, Lib.hid ?_⟩, rfl⟩
        rw [decide_eq_true (by omega)]
        symm
        have h1 := Hnext.out
        obtain ⟨x, hx, hp⟩ := List.any_eq_true.1 h1
        exact List.any_eq_true.2 ⟨x, List.mem_of_mem_take hx, hp⟩
      · have hz : (fixBad) z = false := by simpa using hz
        rw [hz] at hcall Hnext
        clear hz
        go_wp2_with fail
        refine hcall.mono ?_
        rintro e w1 ⟨rfl, rfl⟩
        go_wp2_with fail
        go_roundw
        case rel => exact ⟨k + 1, by omega, by go_num, Hnext, by simp⟩
        case measure => simp [intOf]; omega
    · obtain rfl : k = n := by omega
      go_wp2_with fail
      go_ret
      refine ⟨⟨-1, rfl, Lib.hid ?_⟩, rfl⟩
      have h1 := HP.out
      rw [List.take_of_length_le (by rw [Hn.out]; exact Nat.le_refl _)] at h1
      rw [h1]
      rfl
/-- slices.ContainsFunc with the closure arbac/refute.CheckProblem$1. -/
theorem cf_chk  (A : Option Addr) (n c : Nat) (l : List Int) (w : World) (h : Sees w w.heap.size A (l.map iv)) (hn : l.length = n) (hb : n ≤ 1000000) :
    Calls Tryz.prog 60 #[.slice A n c, .func (.func 61) #[] #[]] w fun e w' => e = .returned (.bool (l.any (fixBad))) ∧ w = w' := by
  have hi := idx_chk  A n c l w h hn hb
  go_enter Tryz.func60, Tryz.ntmps60
  go_wp2_with fail
  refine hi.mono ?_
  rintro e w1 ⟨⟨z, rfl, hz⟩, rfl⟩
  go_wp2_with fail
  go_ret
  exact ⟨ret_bool hz.out, rfl⟩

theorem pro1_any (u : Int) (w : World) :
    Calls Tryz.prog 71 #[.int .i64 u] w fun e w' => e = .returned (.bool (fixBad u)) ∧ w = w' := by
  by_cases h : u = 0
  · subst h
    go_enter Tryz.func71, Tryz.ntmps71
    go_wp2_with fail
    go_ret
    exact ⟨rfl, rfl⟩
  · rw [fixBad_user u h]
    have hb : (u != 0) = true := by simpa using h
    have hu := user_any u w
    generalize userB u = z at hu ⊢
    go_enter Tryz.func71, Tryz.ntmps71
    go_wp2_with fail
    refine hu.mono ?_
    rintro e w1 ⟨rfl, rfl⟩
    go_wp2_with fail
    go_ret
    exact ⟨rfl, rfl⟩

/-- slices.IndexFunc with the closure arbac/refute.proper$1. -/
theorem idx_pro  (A : Option Addr) (n c : Nat) (l : List Int) (w : World) (h : Sees w w.heap.size A (l.map iv)) (hn : l.length = n) (hb : n ≤ 1000000) :
    Calls Tryz.prog 93 #[.slice A n c, .func (.func 71) #[] #[]] w fun e w' => (∃ z : Int, e = .returned (.int .i64 z) ∧ Hid (decide (0 ≤ z) = l.any (fixBad))) ∧ w = w' := by
  have Hn := Lib.hid hn
  have hb1 : (n : Int) ≤ 1000000 := by omega
  clear hn
  go_enter Tryz.func93, Tryz.ntmps93
  go_wp2_with fail
  go_loopw [8] (fun i wr => ∃ k : Nat, k ≤ n ∧ i = .int .i64 k ∧ Hid ((l.take k).any (fixBad) = false) ∧ w = wr) (fun i _ => n - (intOf i).toNat)
  case atStart => exact ⟨0, Nat.zero_le _, rfl, Lib.hid rfl, rfl⟩
  case round =>
    obtain ⟨k, hk, rfl, HP, rfl⟩ := hrel
    by_cases hlt : k < n
    · have hlt' : (k : Int) < (n : Int) := by omega
      obtain ⟨b, o, z, rfl, hb2, Hz, hc⟩ := Sees.int (k := k) h (by rw [Hn.out]; exact hlt)
      have hcall := pro1_any z w
      have hnext : (l.take (k + 1)).any (fixBad) = ((l.take k).any (fixBad) || (fixBad) z) := by
        rw [List.take_add_one, Hz.out]; simp
      rw [HP.out, Bool.false_or] at hnext
      have Hnext := Lib.hid hnext
      clear hnext
      by_cases hz : (fixBad) z = true
      · rw [hz] at hcall Hnext
        clear hz
        go_wp2_with fail
        refine hcall.mono ?_
        rintro e w1 ⟨rfl, rfl⟩
        go_wp2_with fail
        go_ret
        refine ⟨⟨k, rfl, Lib.hid ?_⟩, rfl⟩
        rw [decide_eq_true (by omega)]
        symm
        have h1 := Hnext.out
        obtain ⟨x, hx, hp⟩ := List.any_eq_true.1 h1
        exact List.any_eq_true.2 ⟨x, List.mem_of_mem_take hx, hp⟩
      · have hz : (fixBad) z = false := by simpa using hz
        rw [hz] at hcall Hnext
        clear hz
        go_wp2_with fail
        refine hcall.mono ?_
        rintro e w1 ⟨rfl, rfl⟩
        go_wp2_with fail
        go_roundw
        case rel => exact ⟨k + 1, by omega, by go_num, Hnext, by simp⟩
        case measure => simp [intOf]; omega
    · obtain rfl : k = n := by omega
      go_wp2_with fail
      go_ret
      refine ⟨⟨-1, rfl, Lib.hid ?_⟩, rfl⟩
      have h1 := HP.out
      rw [List.take_of_length_le (by rw [Hn.out]; exact Nat.le_refl _)] at h1
      rw [h1]
      rfl
/-- slices.ContainsFunc with the closure arbac/refute.proper$1. -/
theorem cf_pro  (A : Option Addr) (n c : Nat) (l : List Int) (w : World) (h : Sees w w.heap.size A (l.map iv)) (hn : l.length = n) (hb : n ≤ 1000000) :
    Calls Tryz.prog 60 #[.slice A n c, .func (.func 71) #[] #[]] w fun e w' => e = .returned (.bool (l.any (fixBad))) ∧ w = w' := by
  have hi := idx_pro  A n c l w h hn hb
  go_enter Tryz.func60, Tryz.ntmps60
  go_wp2_with fail
  refine hi.mono ?_
  rintro e w1 ⟨⟨z, rfl, hz⟩, rfl⟩
  go_wp2_with fail
  go_ret
  exact ⟨ret_bool hz.out, rfl⟩
end Go.Proofs.YtcnofhlgiffkjaaGreatDoor
/- Nodes: plain, and as they lie in memory; form. (genform.py) -/
namespace Go.Proofs.YtcnofhlgiffkjaaGreatDoor
open Go.RowKit
set_option linter.unusedVariables false
set_option linter.unusedSimpArgs false

/-- A node. -/
structure Nd where
  kind : Nat
  step : Int
  ch : List Int
  st : List Int
deriving DecidableEq
def chBad (i n k : Int) : Bool := decide (k ≤ i) || decide (n ≤ k)
def formB (i n : Int) (x : Nd) : Bool :=
  if x.kind = 1 then decide (x.st.length = 0) && !x.ch.any (chBad i n)
  else if x.kind = 2 then decide (x.step = 0) && decide (x.ch.length = 0) && decide (x.st.length = 0)
  else if x.kind = 3 then decide (x.step = 0) && decide (x.ch.length = 0) else false
/-- A node's lists lie in memory. -/
structure NdL (w : World) (B : Nat) (C S : Sl) (x : Nd) : Prop where
  k8 : x.kind < 256
  ch : Sees w B C.a (x.ch.map iv)
  st : Sees w B S.a (x.st.map iv)
  lc : x.ch.length = C.n
  ls : x.st.length = S.n
  cc : C.n ≤ C.c
  cs : S.n ≤ S.c
  bc : C.n ≤ 1000000
  bs : S.n ≤ 1000000
theorem NdL.below {w w' : World} {B : Nat} {C S : Sl} {x : Nd} (h : NdL w B C S x) (hb : Below B w w') : NdL w' B C S x :=
  ⟨h.k8, h.ch.below hb, h.st.below hb, h.lc, h.ls, h.cc, h.cs, h.bc, h.bs⟩
theorem NdL.more {w : World} {B B' : Nat} {C S : Sl} {x : Nd} (h : NdL w B C S x) (hb : B ≤ B') : NdL w B' C S x :=
  ⟨h.k8, h.ch.more hb, h.st.more hb, h.lc, h.ls, h.cc, h.cs, h.bc, h.bs⟩
/-- A holds these nodes. -/
def NodesAt (w : World) (B : Nat) (A : Option Addr) (l : List Nd) : Prop :=
  ∀ (i : Nat) (x : Nd), l[i]? = some x → ∃ b o C S, A = some ⟨b, o, none⟩ ∧ b < B ∧ w.cell? ⟨b, o + i * 4, none⟩ = some (.int .u8 (x.kind : Int)) ∧ w.cell? ⟨b, o + i * 4 + 1, none⟩ = some (.int .i64 x.step) ∧
    w.cell? ⟨b, o + i * 4 + 2, none⟩ = some (Sl.v C) ∧ w.cell? ⟨b, o + i * 4 + 3, none⟩ = some (Sl.v S) ∧ NdL w B C S x
theorem NodesAt.below {w w' : World} {B : Nat} {A : Option Addr} {l : List Nd} (h : NodesAt w B A l) (hb : Below B w w') : NodesAt w' B A l := fun i x hi => by
  obtain ⟨b, o, C, S, e, h1, h2, h3, h4, h5, h6⟩ := h i x hi
  exact ⟨b, o, C, S, e, h1, (hb.cell (p := ⟨b, o + i * 4, none⟩) h1).trans h2, (hb.cell (p := ⟨b, o + i * 4 + 1, none⟩) h1).trans h3, (hb.cell (p := ⟨b, o + i * 4 + 2, none⟩) h1).trans h4, (hb.cell (p := ⟨b, o + i * 4 + 3, none⟩) h1).trans h5, h6.below hb⟩
theorem NodesAt.more {w : World} {B B' : Nat} {A : Option Addr} {l : List Nd} (h : NodesAt w B A l) (hb : B ≤ B') : NodesAt w B' A l := fun i x hi => by
  obtain ⟨b, o, C, S, e, h1, h2, h3, h4, h5, h6⟩ := h i x hi
  exact ⟨b, o, C, S, e, by omega, h2, h3, h4, h5, h6.more hb⟩

theorem form1_any (z i n : Int) (g4 g5 : Nat) (w : World) (h4 : w.cell? ⟨g4, 0, none⟩ = some (.int .i64 i)) (h5 : w.cell? ⟨g5, 0, none⟩ = some (.int .i64 n)) :
    Calls Tryz.prog 98 #[.int .i64 z, .pointer (some ⟨g4, 0, none⟩), .pointer (some ⟨g5, 0, none⟩)] w fun e w' => e = .returned (.bool (chBad i n z)) ∧ w = w' := by
  by_cases q1 : z ≤ i
  · have e1 : Hid (chBad i n z = true) := Lib.hid (by unfold chBad; rw [decide_eq_true q1]; rfl)
    go_enter Tryz.func98, Tryz.ntmps98
    go_wp2_with fail
    go_ret
    exact ⟨ret_bool e1.out.symm, rfl⟩
  · by_cases q2 : n ≤ z
    · have e1 : Hid (chBad i n z = true) := Lib.hid (by unfold chBad; rw [decide_eq_true q2, Bool.or_true])
      go_enter Tryz.func98, Tryz.ntmps98
      go_wp2_with fail
      go_ret
      exact ⟨ret_bool e1.out.symm, rfl⟩
    · have e1 : Hid (chBad i n z = false) := Lib.hid (by unfold chBad; rw [decide_eq_false q1, decide_eq_false q2]; rfl)
      go_enter Tryz.func98, Tryz.ntmps98
      go_wp2_with fail
      go_ret
      exact ⟨ret_bool e1.out.symm, rfl⟩

/-- slices.IndexFunc with the closure (arbac/refute.Node).form$1. -/
theorem idx_frm (p9 q9 : Int) (g4 g5 : Nat) (A : Option Addr) (n c : Nat) (l : List Int) (w : World) (h4 : w.cell? ⟨g4, 0, none⟩ = some (.int .i64 p9)) (h5 : w.cell? ⟨g5, 0, none⟩ = some (.int .i64 q9)) (h : Sees w w.heap.size A (l.map iv)) (hn : l.length = n) (hb : n ≤ 1000000) :
    Calls Tryz.prog 93 #[.slice A n c, .func (.func 98) #[] #[.pointer (some ⟨g4, 0, none⟩), .pointer (some ⟨g5, 0, none⟩)]] w fun e w' => (∃ z : Int, e = .returned (.int .i64 z) ∧ Hid (decide (0 ≤ z) = l.any (chBad p9 q9))) ∧ w = w' := by
  have Hn := Lib.hid hn
  have hb1 : (n : Int) ≤ 1000000 := by omega
  clear hn
  go_enter Tryz.func93, Tryz.ntmps93
  go_wp2_with fail
  go_loopw [8] (fun i wr => ∃ k : Nat, k ≤ n ∧ i = .int .i64 k ∧ Hid ((l.take k).any (chBad p9 q9) = false) ∧ w = wr) (fun i _ => n - (intOf i).toNat)
  case atStart => exact ⟨0, Nat.zero_le _, rfl, Lib.hid rfl, rfl⟩
  case round =>
    obtain ⟨k, hk, rfl, HP, rfl⟩ := hrel
    by_cases hlt : k < n
    · have hlt' : (k : Int) < (n : Int) := by omega
      obtain ⟨b, o, z, rfl, hb2, Hz, hc⟩ := Sees.int (k := k) h (by rw [Hn.out]; exact hlt)
      have hcall := form1_any z p9 q9 g4 g5 w h4 h5
      have hnext : (l.take (k + 1)).any (chBad p9 q9) = ((l.take k).any (chBad p9 q9) || (chBad p9 q9) z) := by
        rw [List.take_add_one, Hz.out]; simp
      rw [HP.out, Bool.false_or] at hnext
      have Hnext := Lib.hid hnext
      clear hnext
      by_cases hz : (chBad p9 q9) z = true
      · rw [hz] at hcall Hnext
        clear hz
        go_wp2_with fail
        refine hcall.mono ?_
        rintro e w1 ⟨rfl, rfl⟩
        go_wp2_with fail
        go_ret
        refine ⟨⟨k, rfl, Lib.hid ?_⟩, rfl⟩
        rw [decide_eq_true (by omega)]
        symm
        have h1 := Hnext.out
        obtain ⟨x, hx, hp⟩ := List.any_eq_true.1 h1
        exact List.any_eq_true.2 ⟨x, List.mem_of_mem_take hx, hp⟩
      · have hz : (chBad p9 q9) z = false := by simpa using hz
        rw [hz] at hcall Hnext
        clear hz
        go_wp2_with fail
        refine hcall.mono ?_
        rintro e w1 ⟨rfl, rfl⟩
        go_wp2_with fail
        go_roundw
        case rel => exact ⟨k + 1, by omega, by go_num, Hnext, by simp⟩
        case measure => simp [intOf]; omega
    · obtain rfl : k = n := by omega
      go_wp2_with fail
      go_ret
      refine ⟨⟨-1, rfl, Lib.hid ?_⟩, rfl⟩
      have h1 := HP.out
      rw [List.take_of_length_le (by rw [Hn.out]; exact Nat.le_refl _)] at h1
      rw [h1]
      rfl
/-- slices.ContainsFunc with the closure (arbac/refute.Node).form$1. -/
theorem cf_frm (p9 q9 : Int) (g4 g5 : Nat) (A : Option Addr) (n c : Nat) (l : List Int) (w : World) (h4 : w.cell? ⟨g4, 0, none⟩ = some (.int .i64 p9)) (h5 : w.cell? ⟨g5, 0, none⟩ = some (.int .i64 q9)) (h : Sees w w.heap.size A (l.map iv)) (hn : l.length = n) (hb : n ≤ 1000000) :
    Calls Tryz.prog 60 #[.slice A n c, .func (.func 98) #[] #[.pointer (some ⟨g4, 0, none⟩), .pointer (some ⟨g5, 0, none⟩)]] w fun e w' => e = .returned (.bool (l.any (chBad p9 q9))) ∧ w = w' := by
  have hi := idx_frm p9 q9 g4 g5 A n c l w h4 h5 h hn hb
  go_enter Tryz.func60, Tryz.ntmps60
  go_wp2_with fail
  refine hi.mono ?_
  rintro e w1 ⟨⟨z, rfl, hz⟩, rfl⟩
  go_wp2_with fail
  go_ret
  exact ⟨ret_bool hz.out, rfl⟩

set_option maxHeartbeats 4000000 in
set_option maxRecDepth 100000 in
/-- form. -/
theorem form_any (x : Nd) (C S : Sl) (i n : Int) (w : World) (h : NdL w w.heap.size C S x) :
    Calls Tryz.prog 73 #[.agg #[.int .u8 (x.kind : Int), .int .i64 x.step, Sl.v C, Sl.v S], .int .i64 i, .int .i64 n] w fun e w' => e = .returned (.bool (formB i n x)) ∧ Below w.heap.size w w' := by
  obtain ⟨k, z, ch, st⟩ := x
  obtain ⟨Ac, nc, cc⟩ := C
  obtain ⟨As, ns, cs⟩ := S
  obtain ⟨k8, hch, hst, lc, ls, _, _, bc, bs⟩ := h
  simp only at k8 hch hst lc ls bc bs
  unfold Sl.v
  simp only []
  have b1 : Below w.heap.size w (((w.alloc (.cells #[.int .u8 (k : Int), .int .i64 z, .slice Ac nc cc, .slice As ns cs] 95)).alloc (.cells #[.int .i64 i] 3)).alloc (.cells #[.int .i64 n] 3)) := (((Below.refl _ _).alloc (Nat.le_refl _) _).alloc (by simp) _).alloc (by simp; omega) _
  have p4 := ((Blk.new (w.alloc (.cells #[.int .u8 (k : Int), .int .i64 z, .slice Ac nc cc, .slice As ns cs] 95)) 3 #[.int .i64 i]).alloc (.cells #[.int .i64 n] 3)).cell 0
  have p5 := (Blk.new ((w.alloc (.cells #[.int .u8 (k : Int), .int .i64 z, .slice Ac nc cc, .slice As ns cs] 95)).alloc (.cells #[.int .i64 i] 3)) 3 #[.int .i64 n]).cell 0
  simp only [World.size_alloc] at p4 p5
  replace p4 := p4.trans (show _ = some (Value.int .i64 i) from rfl)
  replace p5 := p5.trans (show _ = some (Value.int .i64 n) from rfl)
  have hcf := cf_frm i n (w.heap.size + 1) (w.heap.size + 1 + 1) Ac nc cc ch (((w.alloc (.cells #[.int .u8 (k : Int), .int .i64 z, .slice Ac nc cc, .slice As ns cs] 95)).alloc (.cells #[.int .i64 i] 3)).alloc (.cells #[.int .i64 n] 3)) p4 p5 (hch.on b1) lc bc
  have hdef : formB i n ⟨k, z, ch, st⟩ = if k = 1 then decide (ns = 0) && !ch.any (chBad i n)
    else if k = 2 then decide (z = 0) && decide (nc = 0) && decide (ns = 0)
    else if k = 3 then decide (z = 0) && decide (nc = 0) else false := by
    unfold formB
    simp only [lc, ls]
  obtain ⟨fb, hfb⟩ : ∃ fb, Hid (fb = ch.any (chBad i n)) := ⟨_, Lib.hid rfl⟩
  rw [← hfb.out] at hcf hdef
  obtain ⟨r, hr⟩ : ∃ r, Hid (r = formB i n ⟨k, z, ch, st⟩) := ⟨_, Lib.hid rfl⟩
  rw [← hr.out] at hdef ⊢
  have Hd := Lib.hid hdef
  clear hdef lc ls hch hst
  by_cases q1 : k = 1
  · subst q1
    by_cases s0 : ns = 0
    · subst s0
      have e1 : Hid (r = !fb) := Lib.hid (by rw [Hd.out]; simp)
      go_enter Tryz.func73, Tryz.ntmps73
      go_wp2_with fail
      refine hcf.mono ?_
      rintro e w2 ⟨rfl, rfl⟩
      go_wp2_with fail
      go_ret
      exact ⟨ret_bool e1.out.symm, b1⟩
    · have s0b : ((ns : Int) == 0) = false := by simp; omega
      have e1 : Hid (r = false) := Lib.hid (by rw [Hd.out]; simp [s0])
      clear s0
      go_enter Tryz.func73, Tryz.ntmps73
      go_wp2_with fail
      go_ret
      exact ⟨ret_bool e1.out.symm, b1⟩
  · have q1b : ((k : Int) == 1) = false := by simp; omega
    by_cases q2 : k = 2
    · subst q2
      by_cases z0 : z = 0
      · subst z0
        by_cases c0 : nc = 0
        · subst c0
          by_cases s0 : ns = 0
          · subst s0
            have e1 : Hid (r = true) := Lib.hid (by rw [Hd.out]; simp)
            clear q1
            go_enter Tryz.func73, Tryz.ntmps73
            go_wp2_with fail
            go_ret
            exact ⟨ret_bool e1.out.symm, b1⟩
          · have s0b : ((ns : Int) == 0) = false := by simp; omega
            have e1 : Hid (r = false) := Lib.hid (by rw [Hd.out]; simp [s0])
            clear s0 q1
            go_enter Tryz.func73, Tryz.ntmps73
            go_wp2_with fail
            go_ret
            exact ⟨ret_bool e1.out.symm, b1⟩
        · have c0b : ((nc : Int) == 0) = false := by simp; omega
          have e1 : Hid (r = false) := Lib.hid (by rw [Hd.out]; simp [c0])
          clear c0 q1
          go_enter Tryz.func73, Tryz.ntmps73
          go_wp2_with fail
          go_ret
          exact ⟨ret_bool e1.out.symm, b1⟩
      · have z0b : (z == 0) = false := by simpa using z0
        have e1 : Hid (r = false) := Lib.hid (by rw [Hd.out]; simp [z0])
        clear z0 q1
        go_enter Tryz.func73, Tryz.ntmps73
        go_wp2_with fail
        go_ret
        exact ⟨ret_bool e1.out.symm, b1⟩
    · have q2b : ((k : Int) == 2) = false := by simp; omega
      by_cases q3 : k = 3
      · subst q3
        by_cases z0 : z = 0
        · subst z0
          by_cases c0 : nc = 0
          · subst c0
            have e1 : Hid (r = true) := Lib.hid (by rw [Hd.out]; simp)
            clear q1 q2
            go_enter Tryz.func73, Tryz.ntmps73
            go_wp2_with fail
            go_ret
            exact ⟨ret_bool e1.out.symm, b1⟩
          · have c0b : ((nc : Int) == 0) = false := by simp; omega
            have e1 : Hid (r = false) := Lib.hid (by rw [Hd.out]; simp [c0])
            clear c0 q1 q2
            go_enter Tryz.func73, Tryz.ntmps73
            go_wp2_with fail
            go_ret
            exact ⟨ret_bool e1.out.symm, b1⟩
        · have z0b : (z == 0) = false := by simpa using z0
          have e1 : Hid (r = false) := Lib.hid (by rw [Hd.out]; simp [z0])
          clear z0 q1 q2
          go_enter Tryz.func73, Tryz.ntmps73
          go_wp2_with fail
          go_ret
          exact ⟨ret_bool e1.out.symm, b1⟩
      · have q3b : ((k : Int) == 3) = false := by simp; omega
        have e1 : Hid (r = false) := Lib.hid (by rw [Hd.out]; simp [q1, q2, q3])
        clear q1 q2 q3
        go_enter Tryz.func73, Tryz.ntmps73
        go_wp2_with fail
        go_ret
        exact ⟨ret_bool e1.out.symm, b1⟩
end Go.Proofs.YtcnofhlgiffkjaaGreatDoor
/- Small laws on problems and nodes in memory. -/
namespace Go.Proofs.YtcnofhlgiffkjaaGreatDoor
open Go.RowKit
set_option linter.unusedVariables false
set_option linter.unusedSimpArgs false

theorem SetsAt.blk {w : World} {g : Nat} {t : TypeId} {cs : Array Value} {Ms : List Nat} (hb : Blk w g t cs) (h : ∀ (i M : Nat), Ms[i]? = some M → ∃ X, cs[i]? = some X ∧ SetAt w w.heap.size (.agg #[X]) M) : SetsAt w w.heap.size (some ⟨g, 0, none⟩) Ms := fun i M hi => by
  obtain ⟨X, h1, h2⟩ := h i M hi
  exact ⟨g, 0, X, rfl, hb.lt, by rw [Nat.zero_add, hb.cell]; exact h1, h2⟩
theorem SetsAt.nil (w : World) (B : Nat) (A : Option Addr) : SetsAt w B A [] := fun i M hi => by simp at hi
theorem PairsAt.nil (w : World) (B : Nat) (A : Option Addr) : PairsAt w B A [] := fun i M hi => by simp at hi
theorem MostAt.nil (w : World) (B : Nat) (A : Option Addr) : MostAt w B A [] := fun i M hi => by simp at hi
theorem PairsAt.blk {w : World} {g : Nat} {t : TypeId} {cs : Array Value} {l : List (Int × Int)} (hb : Blk w g t cs) (h : ∀ (i : Nat) (x : Int × Int), l[i]? = some x → cs[i * 2]? = some (.int .i64 x.1) ∧ cs[i * 2 + 1]? = some (.int .i64 x.2)) : PairsAt w w.heap.size (some ⟨g, 0, none⟩) l := fun i x hi => by
  obtain ⟨h1, h2⟩ := h i x hi
  exact ⟨g, 0, rfl, hb.lt, by rw [Nat.zero_add, hb.cell]; exact h1, by rw [Nat.zero_add, hb.cell]; exact h2⟩
theorem NodesAt.blk {w : World} {g : Nat} {t : TypeId} {cs : Array Value} {l : List Nd} (hb : Blk w g t cs)
    (h : ∀ (i : Nat) (x : Nd), l[i]? = some x → ∃ C S, cs[i * 4]? = some (.int .u8 (x.kind : Int)) ∧ cs[i * 4 + 1]? = some (.int .i64 x.step) ∧ cs[i * 4 + 2]? = some (Sl.v C) ∧ cs[i * 4 + 3]? = some (Sl.v S) ∧ NdL w w.heap.size C S x) : NodesAt w w.heap.size (some ⟨g, 0, none⟩) l := fun i x hi => by
  obtain ⟨C, S, h1, h2, h3, h4, h5⟩ := h i x hi
  exact ⟨g, 0, C, S, rfl, hb.lt, by rw [Nat.zero_add, hb.cell]; exact h1, by rw [Nat.zero_add, hb.cell]; exact h2, by rw [Nat.zero_add, hb.cell]; exact h3, by rw [Nat.zero_add, hb.cell]; exact h4, h5⟩

theorem bAl {w w' : World} (h : Below w.heap.size w w') (o : Obj) : Below w.heap.size w (w'.alloc o) := h.alloc h.size o
theorem bJoin {w w' w'' : World} (h : Below w.heap.size w w') (h2 : Below w'.heap.size w' w'') : Below w.heap.size w w'' := h.trans (h2.mono h.size)
theorem Blk.mk' {w : World} {t : TypeId} {cs : Array Value} {g : Nat} (h : g = w.heap.size) : Blk (w.alloc (.cells cs t)) g t cs := h ▸ Blk.new w t cs
theorem get2 {α : Type} {p : Nat → α → Prop} {a b : α} (h0 : p 0 a) (h1 : p 1 b) : ∀ (i : Nat) (x : α), [a, b][i]? = some x → p i x
  | 0, x, h => by injection h with h; exact h ▸ h0
  | 1, x, h => by injection h with h; exact h ▸ h1
  | i + 2, x, h => by simp at h
theorem get1 {α : Type} {p : Nat → α → Prop} {a : α} (h0 : p 0 a) : ∀ (i : Nat) (x : α), [a][i]? = some x → p i x
  | 0, x, h => by injection h with h; exact h ▸ h0
  | i + 1, x, h => by simp at h
theorem get3 {α : Type} {p : Nat → α → Prop} {a b c : α} (h0 : p 0 a) (h1 : p 1 b) (h2 : p 2 c) : ∀ (i : Nat) (x : α), [a, b, c][i]? = some x → p i x
  | 0, x, h => by injection h with h; exact h ▸ h0
  | 1, x, h => by injection h with h; exact h ▸ h1
  | 2, x, h => by injection h with h; exact h ▸ h2
  | i + 3, x, h => by simp at h
theorem SetAt.at {w w' : World} {v : Value} {M : Nat} (h : SetAt w w.heap.size v M) (hb : Below w.heap.size w w') : SetAt w' w'.heap.size v M := (h.below hb).more hb.size
end Go.Proofs.YtcnofhlgiffkjaaGreatDoor
/- What broken computes, plain. -/
namespace Go.Proofs.YtcnofhlgiffkjaaGreatDoor
open Go.RowKit
set_option linter.unusedVariables false
set_option linter.unusedSimpArgs false

/-- Element k, 0 behind the end. -/
def atI (l : List Int) (k : Nat) : Int := l[k]?.getD 0
/-- Element z. -/
def atZ (l : List Int) (z : Int) : Int := atI l z.toNat
/-- User u is not eligible for step k. -/
def brkE (e : List Nat) (l : List Int) (k : Nat) : Bool := decide (atI l k ≠ 0) && !((e[k]?.getD 0).testBit (atI l k).toNat)
def brkD (l : List Int) (x : Int × Int) : Bool := decide (atZ l x.1 ≠ 0) && decide (atZ l x.1 = atZ l x.2)
def brkS (l : List Int) (x : Int × Int) : Bool := decide (atZ l x.1 ≠ 0) && decide (atZ l x.2 ≠ 0) && decide (atZ l x.1 ≠ atZ l x.2)
/-- How often the user u has one of the steps ks. -/
def cntU (l : List Int) (ks : List Nat) (u : Int) : Nat := (ks.filter fun k => decide (atI l k = u)).length
def brkM (l : List Int) (m : Int × Nat) : Bool := (memM m.2).any fun k => decide (atI l k ≠ 0) && decide (m.1 < (cntU l (memM m.2) (atI l k) : Nat))
/-- Whether fixed users contradict a problem. -/
def brk (P : Pr) (l : List Int) : Bool := (List.range l.length).any (brkE P.elig l) || P.dif.any (brkD l) || P.sam.any (brkS l) || P.mst.any (brkM l)
theorem any_take_succ {α : Type} {l : List α} {k : Nat} {x : α} (f : α → Bool) (h : l[k]? = some x) : (l.take (k + 1)).any f = ((l.take k).any f || f x) := by
  rw [List.take_add_one, h]; simp
theorem any_of_get {α : Type} {l : List α} {k : Nat} {x : α} (f : α → Bool) (h : l[k]? = some x) (hf : f x = true) : l.any f = true :=
  List.any_eq_true.2 ⟨x, List.mem_of_getElem? h, hf⟩
end Go.Proofs.YtcnofhlgiffkjaaGreatDoor
/- A function that holds a range over a function in a loop: its marks among the deferred calls. -/
namespace Go.Proofs.YtcnofhlgiffkjaaGreatDoor
open Go.RowKit
set_option linter.unusedVariables false
set_option linter.unusedSimpArgs false

/-- The mark of the block D. -/
def markOf (D : Nat) : Deferred := { target := .collected D, args := #[] }
/-- The blocks are shut, one after the other. -/
def shut (w : World) : List Nat → World
  | [] => w
  | D :: Ds => shut (w.putObj D (.deferred none)) Ds
/-- The blocks are open. -/
def OpenM (w : World) (B : Nat) (Ds : List Nat) : Prop := Ds.Nodup ∧ ∀ D ∈ Ds, B ≤ D ∧ w.heap[D]? = some (.deferred (some []))
theorem OpenM.nil (w : World) (B : Nat) : OpenM w B [] := ⟨List.nodup_nil, fun D h => by cases h⟩
theorem shut_leaves {F : Fence} {n : Nat} {P : Program} {fn : Func} {tmps : Array Value} {R : Ending → World → Prop} {B : Nat} : ∀ (Ds : List Nat) (w : World), OpenM w B Ds →
    LeavesInM F n P fn tmps R [] .returning (shut w Ds) → LeavesInM F n P fn tmps R (Ds.map markOf) .returning w
  | [], w, _, h => h
  | D :: Ds, w, ho, h => by
    obtain ⟨hn, hb⟩ := ho
    obtain ⟨h1, h2⟩ := List.nodup_cons.1 hn
    have hD := (hb D (by simp)).2
    refine ⟨by simp, .inl ⟨D, w.putObj D (.deferred none), rfl, run_takeDeferred hD, ?_⟩⟩
    refine shut_leaves Ds _ ⟨h2, fun E hE => ⟨(hb E (by simp [hE])).1, ?_⟩⟩ h
    exact (World.putObj_heap_other (by rintro rfl; exact h1 hE)).trans (hb E (by simp [hE])).2
theorem shut_below {B : Nat} : ∀ (Ds : List Nat) (w0 w : World), Below B w0 w → OpenM w B Ds → Below B w0 (shut w Ds)
  | [], _, _, h, _ => h
  | D :: Ds, w0, w, h, ho => by
    obtain ⟨hn, hb⟩ := ho
    obtain ⟨h1, h2⟩ := List.nodup_cons.1 hn
    obtain ⟨hB, hD⟩ := hb D (by simp)
    refine shut_below Ds w0 _ (h.trans ((Below.refl B w).grown (grownBy_putObj' w D _) (by have := (Array.getElem?_eq_some_iff.1 hD).1; omega) (fun k e => by cases e; exact hB))) ⟨h2, fun E hE => ⟨(hb E (by simp [hE])).1, ?_⟩⟩
    exact (World.putObj_heap_other (by rintro rfl; exact h1 hE)).trans (hb E (by simp [hE])).2
theorem shut_blk {B g : Nat} {t : TypeId} {cs : Array Value} : ∀ (Ds : List Nat) (w : World), Blk w g t cs → OpenM w B Ds → Blk (shut w Ds) g t cs
  | [], _, h, _ => h
  | D :: Ds, w, h, ho => by
    obtain ⟨hn, hb⟩ := ho
    obtain ⟨h1, h2⟩ := List.nodup_cons.1 hn
    have hD := (hb D (by simp)).2
    have hne : g ≠ D := by
      rintro rfl
      have h' : w.heap[g]? = some (.cells cs t (0, 0)) := h
      rw [h'] at hD
      cases hD
    refine shut_blk Ds _ ((World.putObj_heap_other hne).trans h) ⟨h2, fun E hE => ⟨(hb E (by simp [hE])).1, ?_⟩⟩
    exact (World.putObj_heap_other (by rintro rfl; exact h1 hE)).trans (hb E (by simp [hE])).2
theorem loadBool {P : Program} {w : World} {g : Nat} {t : TypeId} {b : Bool} (hag : (isAgg t).run P w = .ok false w) (hb : Blk w g t #[.bool b]) : (loadVar t ⟨g, 0, none⟩).run P w = .ok (.bool b) w := by
  have hc : w.cell? ⟨g, 0, none⟩ = some (.bool b) := (hb.cell 0).trans rfl
  simp [loadVar, hag, hc, go_sem]
/-- A result that is a bool, read from its cell, behind marks. -/
theorem retM {F : Fence} {n : Nat} {fn : Func} {R : Ending → World → Prop} {a : Act} {w : World} {p : Tmp} {B : Nat} (h : fn.results = #[.cell p 4]) (g : Nat) (b : Bool) (hp : a.tmps.getD p undef = .pointer (some ⟨g, 0, none⟩))
    (hb : Blk w g 4 #[.bool b]) (Ds : List Nat) (hd : a.defers = Ds.map markOf) (ho : OpenM w B Ds) (hR : R (.returned (.bool b)) (shut w Ds)) : bodyPostM F n Tryz.prog fn R .ret a w := by
  show LeavesInM F n Tryz.prog fn a.tmps R a.defers .returning w
  rw [hd]
  refine shut_leaves Ds w ho ⟨.bool b, ?_, hR⟩
  have hb' := shut_blk Ds w hb ho
  have hp' : a.tmps[p]?.getD undef = .pointer (some ⟨g, 0, none⟩) := by simpa using hp
  have hl := loadBool (P := Tryz.prog) (Tryz.isAgg4 _) hb'
  simp [results, h, hp', asAddr, hl]
end Go.Proofs.YtcnofhlgiffkjaaGreatDoor
/- All's closure, over a body that serves members only. (genlstm.py) -/
namespace Go.Proofs.YtcnofhlgiffkjaaGreatDoor
open Go.RowKit
set_option linter.unusedVariables false
set_option linter.unusedSimpArgs false
attribute [local go_sem] Oper.semAt_some

set_option maxRecDepth 100000 in
set_option maxHeartbeats 2000000 in
/-- All's closure, over whatever loop body keeps what lay below n₀. -/
theorem all1_mem (l Bs n₀ n c M : Nat) (A : Option Addr) (d : Nat) (J Jx : List Nat → World → Prop)
    (hd : 1 ≤ d) (hnc : n ≤ c) (hn : n ≤ 64) (hl : len2 64 M = n) (hn₀ : 0 < n₀)
    (hY : ∀ pre x W, x ∈ memM M → J pre W → pre.length < 4096 → YieldAt Fence.wide (d - 1) Tryz.prog l #[.int .i64 ((x : Nat) : Int)] W fun e W' =>
      (e = .returned (.bool true) ∧ J (pre ++ [x]) W' ∧ Below n₀ W W') ∨ (e = .returned (.bool false) ∧ Jx (pre ++ [x]) W'))
    (W : World) (hBs : W.cell? ⟨Bs, 0, none⟩ = some (.slice A n c)) (hs : Sees W n₀ A ((dg 64 M).map wv)) (hT : Tab W) (h0 : J [] W) :
    CallsIn Fence.wide d Tryz.prog 96 #[.func (.yield l) #[] #[], .pointer (some ⟨Bs, 0, none⟩)] W fun e W' => (∃ v, e = .returned v) ∧
      ((∃ ys, ys = memM M ∧ J ys W') ∨ (∃ pre, pre <+: memM M ∧ Jx pre W')) := by
  have hlen : (dg 64 M).length = n := by rw [dg_length]; exact hl
  have hl := Lib.hid hl
  have hlen := Lib.hid hlen
  have hro : (Fence.wide).round = none := rfl
  refine callsIn_of_wp Tryz.func96 rfl trivial ?_ rfl
  simp only [Tryz.ntmps96, List.size_toArray, List.length_cons, List.length_nil, Nat.reduceAdd, Nat.reduceSub, Array.replicate_succ, Array.replicate_zero, List.push_toArray, List.append_toArray, List.nil_append, List.cons_append]
  gi_wp2
  gi_loopw [8] (fun i wr => ∃ k : Nat, k ≤ n ∧ i = .int .i64 k ∧ J (memU M k) wr ∧ Below n₀ W wr) (fun i _ => n - (intOf i).toNat)
  case atStart => exact ⟨0, Nat.zero_le _, rfl, h0, Below.refl _ _⟩
  case round =>
    obtain ⟨k, hk, rfl, hJs, hB⟩ := hrel
    by_cases hlt : k < n
    · obtain ⟨x, hx, hx1⟩ := dg_some hl.out hlt
      have hnext := Lib.hid (memM_word hl.out hlt hx)
      obtain ⟨b, o, rfl, hb1, hc1⟩ := (hs.below hB).word hx
      have Hx := Lib.hid hx
      clear hx
      gi_wp2
      gi_loopw [4] (fun v wr2 => ∃ (y : Nat) (pre : List Nat), v = .int .u64 y ∧ y < 18446744073709551616 ∧ pre ++ (memW y).map (64 * k + ·) = memU M (k + 1) ∧ J pre wr2 ∧ Below n₀ wr wr2) (fun v _ => (intOf v).toNat)
      case atStart => exact ⟨x, memU M k, rfl, hx1, hnext.out.symm, hJs, Below.refl _ _⟩
      case round =>
        obtain ⟨y, pre, rfl, hy1, hpre, hJp, hB2⟩ := hrel
        by_cases h0 : y = 0
        · subst h0
          have Hpre := Lib.hid hpre
          clear hpre
          gi_wp2
          go_roundw
          case rel => exact ⟨k + 1, by omega, by go_num, by
            have := Hpre.out
            rw [memW_zero, List.map_nil, List.append_nil] at this
            rw [← this]
            exact hJp, hB.trans hB2⟩
          case measure => simp [intOf]; omega
        · have hm := memW_cons h0 hy1
          have hlp : pre.length < 4096 := by
            have h1 := congrArg List.length hpre
            rw [hm] at h1
            have h2 := memU_len M (k + 1)
            simp at h1
            omega
          have hcz : Lib.ctz 64 y < 64 := by
            obtain ⟨_, _, h⟩ := low_form h0 hy1
            exact h
          have hmem : 64 * k + Lib.ctz 64 y ∈ memM M := by
            have h1 : 64 * k + Lib.ctz 64 y ∈ memU M (k + 1) := by rw [← hpre, hm]; simp
            have h2 : memU M (k + 1) <+: memM M := by unfold memM; rw [hl.out]; exact memU_prefix M (show k + 1 ≤ n by omega)
            exact h2.subset h1
          have Hm := Lib.hid hm
          have Hpre := Lib.hid hpre
          clear hm hpre
          obtain ⟨fn, tmps, assign, body, hy, hR⟩ := hY pre (64 * k + Lib.ctz 64 y) wr hmem hJp hlp
          simp only [Int.natCast_add, Int.natCast_mul, Int.cast_ofNat_Int] at hy
          have hb : ((y : Int) == 0) = false := by simp; omega
          have hTr : Tab wr := (hT.below hB hn₀).below hB2 hn₀
          gi_wp2
          refine ⟨trivial, (callsIn_wide.2 (tz_any y hy1 h0 _ hTr)).mono ?_⟩
          rintro e w1 ⟨rfl, rfl⟩
          gi_wp2
          refine hR.mono ?_
          have hand : bits .and .u64 (y : Int) ((y : Int) - 1) = ((y &&& (y - 1) : Nat) : Int) := by
            rw [show (y : Int) - 1 = ((y - 1 : Nat) : Int) by omega, bits_and_u64_nat y (y - 1) hy1 (by omega)]
          have hlow : (1 : Int) ≤ y := by omega
          have hltc := clear_lt h0
          rintro e W3 (⟨rfl, hJ3, hk3⟩ | ⟨rfl, hJx3⟩)
          · gi_wp2
            go_roundw
            case rel =>
              refine ⟨y &&& (y - 1), pre ++ [64 * k + Lib.ctz 64 y], rfl, by omega, ?_, hJ3, hB2.trans hk3⟩
              have := Hpre.out
              rw [Hm.out] at this
              rw [← this]
              simp
            case measure =>
              simp [intOf]
              omega
          · gi_wp2
            refine bodyPost_ret (results_none rfl _ _ _) rfl ?_
            refine ⟨⟨_, rfl⟩, .inr ⟨_, ?_, hJx3⟩⟩
            have := Hpre.out
            rw [Hm.out] at this
            refine List.IsPrefix.trans ?_ (by unfold memM; rw [hl.out]; exact memU_prefix M (show k + 1 ≤ n by omega))
            rw [← this]
            exact ⟨(memW (y &&& (y - 1))).map (64 * k + ·), by simp⟩
    · obtain rfl : k = n := by omega
      gi_wp2
      go_end0
      exact ⟨⟨_, rfl⟩, .inl ⟨_, by unfold memM; rw [hl.out], hJs⟩⟩

/-- A member. -/
abbrev Mb (M : Nat) := { x : Nat // x ∈ memM M }
theorem map_val_snoc {M : Nat} (p : List (Mb M)) (x : Mb M) : (p ++ [x]).map (·.1) = p.map (·.1) ++ [x.1] := by simp
/-- .. as the law of the loop wants it. -/
theorem all_stopsM (Bs n₀ n c M : Nat) (A : Option Addr) (d : Nat) (hd : 1 ≤ d) (hnc : n ≤ c) (hn : n ≤ 64) (hl : len2 64 M = n) (hn₀ : 0 < n₀) (w : World) (hBs : Bs < w.heap.size) (hn₁ : n₀ ≤ w.heap.size)
    (hc : w.cell? ⟨Bs, 0, none⟩ = some (.slice A n c)) (hs : Sees w n₀ A ((dg 64 M).map wv)) (hT : Tab w) :
    SeqStopsK Fence.wide d Tryz.prog 96 #[.pointer (some ⟨Bs, 0, none⟩)] (fun x : Mb M => #[Value.int .i64 ((x.1 : Nat) : Int)]) (Below n₀) (fun ys => ys.map (·.1) = memM M) (fun pre => pre.map (·.1) <+: memM M) 4096 w := fun l J Jx W hW _ _ hY h0 =>
  (all1_mem l Bs n₀ n c M A d (fun pre W => ∃ p : List (Mb M), p.map (·.1) = pre ∧ J p W) (fun pre W => ∃ p : List (Mb M), p.map (·.1) = pre ∧ Jx p W) hd hnc hn hl hn₀
    (fun pre x W hx ⟨p, hp, hJ⟩ hlen => by
      obtain ⟨fn, tmps, assign, body, hy, hR⟩ := hY p ⟨x, hx⟩ W hJ (by rw [← hp, List.length_map] at hlen; exact hlen)
      refine ⟨fn, tmps, assign, body, hy, hR.mono ?_⟩
      rintro e W' (⟨he, hJ', hk⟩ | ⟨he, hJ'⟩)
      · exact .inl ⟨he, ⟨_, by rw [map_val_snoc, hp], hJ'⟩, hk⟩
      · exact .inr ⟨he, ⟨_, by rw [map_val_snoc, hp], hJ'⟩⟩)
    W ((hW.cell (p := ⟨Bs, 0, none⟩) hBs).trans hc) (hs.below (hW.mono hn₁)) (hT.below (hW.mono hn₁) hn₀) ⟨[], rfl, h0⟩).mono (by
      rintro e W' ⟨hv, (⟨ys, hys, p, hp, hJ⟩ | ⟨pre, hpre, p, hp, hJ⟩)⟩
      · exact ⟨hv, .inl ⟨p, hp.trans hys, hJ⟩⟩
      · exact ⟨hv, .inr ⟨p, by subst hp; exact hpre, hJ⟩⟩)
end Go.Proofs.YtcnofhlgiffkjaaGreatDoor
/- Quiet regions that draw, inside a round of a range over a function: no operation there defers. -/
namespace Go.Proofs.YtcnofhlgiffkjaaGreatDoor
open Go
set_option linter.unusedVariables false
set_option linter.unusedSimpArgs false
variable {F : Fence} {n : Nat} {P : Program} {ops : Array Oper} {md : Region.Mode} {C : World → Prop}

def noDefer (ops : Array Oper) : Bool := ops.all fun o => match o.op with
  | .defer _ => false
  | _ => true
theorem noDefer_ne {ops : Array Oper} (h : noDefer ops = true) {i : Nat} {o : Oper} (hi : ops[i]? = some o) : ∀ c, o.op ≠ .defer c := by
  intro c hc
  unfold noDefer at h
  obtain ⟨hi1, hi2⟩ := Array.getElem?_eq_some_iff.1 hi
  have h1 := Array.all_eq_true.1 h i hi1
  rw [hi2, hc] at h1
  cases h1
theorem wpIn_of_quietR {o : Oper} {a : Act} {K : Act → Prop} {K' : Act → World → Prop} {Q' : Exit → Act → World → Prop} {w : World} (hro : ∀ c, o.op ≠ .defer c) (hw : C w) (h : ∀ a w', C w' → K a → K' a w')
    (ha : o.askedIn F P a C) (hh : o.quietIn F n P a C K) : o.wpIn F n P a w K' Q' := by
  obtain ⟨v, h1, h2⟩ := hh
  have h3 := h1 w hw
  unfold Oper.quietAtIn at h3
  unfold Oper.wpIn
  refine ⟨ha w hw, ?_⟩
  rw [Oper.semAt_plain F _ _ hro]
  generalize (execOp a.eval o).run P w = r at *
  cases r with
  | ok x w' =>
    cases x <;> simp only [Oper.quietUponIn] at h3 <;> simp only [Oper.uponIn]
    case value u =>
      obtain ⟨e1, e2⟩ := h3
      rw [e1, e2]
      exact h _ _ hw h2
    case skip =>
      obtain ⟨e1, e2⟩ := h3
      rw [e1, ← e2]
      exact h _ _ hw h2
    case enter f args =>
      obtain ⟨e1, hd, hc⟩ := h3
      rw [e1]
      exact ⟨hd, hc.mono fun e w'' ⟨he, hw''⟩ => by subst he; exact h _ _ hw'' h2⟩
  | halt x w' => simp only [Oper.quietUponIn] at h3
theorem wpOpIn_of_qOpInR {i : Nat} {a : Act} {K : Act → Prop} {K' : Act → World → Prop} {Q' : Exit → Act → World → Prop} {w : World} (hro : noDefer ops = true) (hC : C w) (h : ∀ a w', C w' → K a → K' a w')
    (hh : qOpIn F n P ops C i K a) : wpOpIn F n P ops Q' i K' a w := by
  unfold qOpIn at hh
  unfold wpOpIn
  split
  · rename_i ho; simp only [ho] at hh; exact h _ _ hC hh
  · rename_i o ho
    simp only [ho] at hh
    obtain ⟨ha, hh⟩ := hh
    split
    · rename_i hw; simp only [hw, if_true] at hh; exact wpIn_of_quietR (noDefer_ne hro ho) hC h ha hh
    · rename_i hw; simp only [hw] at hh; exact ⟨ha w hC, h _ _ hC hh⟩
theorem wpAnyIn_of_quietR {Q : Act → Prop} {Q' : Exit → Act → World → Prop} (hro : noDefer ops = true) (hQ : ∀ a w, C w → Q a → Q' .normal a w) : ∀ (fuel : Nat) (listed : Array Bool) (a : Act) (w : World), C w →
    wpAnyQIn F n P md ops C Q fuel listed a → wpAnyIn F n P md ops Q' fuel listed a w
  | 0, _, _, _, hw, h => ⟨h.1, hQ _ _ hw h.2⟩
  | fuel + 1, _, _, _, hw, h => ⟨fun h0 => hQ _ _ hw (h.1 h0), fun i hi => wpOpIn_of_qOpInR hro hw (fun a' w' hw' => wpAnyIn_of_quietR hro hQ fuel _ a' w' hw') (h.2 i hi)⟩
theorem wpIn_region_quietR {id : Nat} {Q : Exit → Act → World → Prop} {a : Act} {w : World} (hro : noDefer ops = true) (hm : P.follows .mixedOrders = true) (hB : Region.lexB .any ops = true) (hC : C { w with drawn := w.drawn + 1 })
    (h : wpQuietIn F n P ops C (fun a' => ∀ w', C w' → Q .normal a' w') ops.toList a) : (Code.region id ops true).wpIn F n P Q a w := by
  simp only [Region.lexB, Bool.and_eq_true] at hB
  refine wpIn_region_any hm (wpAnyIn_of_quietR (Q := fun a' => ∀ w', C w' → Q .normal a' w') hro (fun _ w' hw' h => h w' hw') _ _ _ _ hC ?_)
  have := wpAnyQIn_lex (F := F) (n := n) (C := C) (md := .any) hB.1 ops.toList 0 (Array.replicate ops.size false) a (by simp) (by simpa using hB.2) h
  simpa using this
theorem wpIn_region_quiet_litR {id : Nat} {Q : Exit → Act → World → Prop} {a : Act} {w : World} {l : List Oper} (hro : noDefer l.toArray = true) (hm : P.follows .mixedOrders = true) (hB : Region.lexB .any l.toArray = true)
    (h : wpQuietIn F n P l.toArray (fun w' => ∃ n, w' = w.drewN n) (fun a' => ∀ w', (∃ n, w' = w.drewN n) → Q .normal a' w') l a) : (Code.region id l.toArray true).wpIn F n P Q a w :=
  wpIn_region_quietR (C := fun w' => ∃ n, w' = w.drewN n) hro hm hB ⟨1, rfl⟩ (by simpa using h)
end Go.Proofs.YtcnofhlgiffkjaaGreatDoor
/- Rows of the call's own whose elements have several cells: one more element; pairs, words, limits. -/
namespace Go.Proofs.YtcnofhlgiffkjaaGreatDoor
open Go.RowKit
set_option linter.unusedVariables false
set_option linter.unusedSimpArgs false

theorem wpL_row1 (e t : TypeId) (z : Value) (size bytes : Nat) (hinf : (Tryz.prog.info? e).map (fun i => (i.zero, i.size, i.bytes)) = some (some z, size, bytes)) (ht : Tryz.prog.underlying t = some (.slice e)) (hzs : z.cells.size = size) (hsz : 0 < size) (hby : bytes ≤ 100)
    (w : World) {ops : Array Oper} {rest : List Oper} {o : Oper} {a : Act} {Q : Exit → Act → World → Prop} (hgd : o.guard = none) (s x : Operand) (ho : o.op = .call { callee := .builtin .append, args := #[s, x], argTypes := #[t, t] })
    (w0 : World) (base : Nat) (v : Value) (n : Nat) (xs : List Value) (hs : a.eval s = v) (hown : w0.ownsRow base e size v n xs) (cs : Array Value) (hw : w = w0.alloc (.cells cs e)) (g : Nat) (hg : g = w0.heap.size)
    (hx : a.eval x = .slice (some ⟨g, 0, none⟩) 1 1) (hcs : cs.size = size) (h1 : ∀ u ∈ cs.toList, u.oneCell' = true) (hb : n + 1 ≤ 1000000000) (hbase : base ≤ w0.heap.size) (n' : Nat) (hn' : n + 1 = n')
    (h : ∀ A' c' w', w'.ownsRow base e size (.slice A' n' c') n' (xs ++ cs.toList) → w0.grownBy w' v.ownBlock → Below base w0 w' → ((Value.slice A' n' c').ownBlock = v.ownBlock ∨ (Value.slice A' n' c').ownBlock = some (w0.heap.size + 1)) →
      wpList Tryz.prog ops Q rest (a.put o.dst (.slice A' n' c')) w') : wpList Tryz.prog ops Q (o :: rest) a w := by
  subst hw
  obtain ⟨i0, hi0, hz0, hz1, hz2⟩ := info_parts hinf
  have hz : base ≤ (w0.alloc (.cells cs e)).heap.size := by simp; omega
  refine wpList_append_sees _ hgd s x t ho base e i0 z size bytes ht hi0 hz0 hz1 hz2 hzs hsz v n xs hs (hown.alloc _) _ _ 1 1 cs.toList hx (by simpa using hcs) (Sees.laid w0 cs e (0, 0) _ rfl g hg) h1
    (by unfold maxLen; omega) (by have := Nat.mul_le_mul (show n + 1 ≤ 1000000000 from hb) hby; omega) hz n' hn' _ rfl ?_
  intro A' c' w' q1 q2 q3
  exact h A' c' w' q1 ⟨q2.os, q2.tape, q2.output, Nat.le_trans (by simp) q2.size, fun k hk hne => (q2.block k (by simp; omega) hne).trans (Below.heap_alloc w0 _ k hk)⟩ (below_app ((Below.refl _ _).alloc hbase _) hz (hown.alloc _) q2) (by rw [World.size_alloc] at q3; exact q3)
theorem step_row1 (e t : TypeId) (z : Value) (size bytes : Nat) (hinf : (Tryz.prog.info? e).map (fun i => (i.zero, i.size, i.bytes)) = some (some z, size, bytes)) (ht : Tryz.prog.underlying t = some (.slice e)) (hzs : z.cells.size = size) (hsz : 0 < size) (hby : bytes ≤ 100)
    (w : World) {ops : Array Oper} {o : Oper} {a : Act} {K : Act → World → Prop} {Q : Exit → Act → World → Prop} {E : Prop} (hgd : o.guard = none) (s x : Operand) (ho : o.op = .call { callee := .builtin .append, args := #[s, x], argTypes := #[t, t] })
    (w0 : World) (base : Nat) (v : Value) (n : Nat) (xs : List Value) (hs : a.eval s = v) (hown : w0.ownsRow base e size v n xs) (cs : Array Value) (hw : w = w0.alloc (.cells cs e)) (g : Nat) (hg : g = w0.heap.size)
    (hx : a.eval x = .slice (some ⟨g, 0, none⟩) 1 1) (hcs : cs.size = size) (h1 : ∀ u ∈ cs.toList, u.oneCell' = true) (hb : n + 1 ≤ 1000000000) (hbase : base ≤ w0.heap.size) (n' : Nat) (hn' : n + 1 = n')
    (h : ∀ A' c' w', w'.ownsRow base e size (.slice A' n' c') n' (xs ++ cs.toList) → w0.grownBy w' v.ownBlock → Below base w0 w' → ((Value.slice A' n' c').ownBlock = v.ownBlock ∨ (Value.slice A' n' c').ownBlock = some (w0.heap.size + 1)) →
      K (a.put o.dst (.slice A' n' c')) w') : if Region.wanted o (yielded ops a.tmps) = true then Oper.wp Tryz.prog o a w K Q else E := by
  subst hw
  obtain ⟨i0, hi0, hz0, hz1, hz2⟩ := info_parts hinf
  have hz : base ≤ (w0.alloc (.cells cs e)).heap.size := by simp; omega
  refine step_append_sees _ hgd s x t ho base e i0 z size bytes ht hi0 hz0 hz1 hz2 hzs hsz v n xs hs (hown.alloc _) _ _ 1 1 cs.toList hx (by simpa using hcs) (Sees.laid w0 cs e (0, 0) _ rfl g hg) h1
    (by unfold maxLen; omega) (by have := Nat.mul_le_mul (show n + 1 ≤ 1000000000 from hb) hby; omega) hz n' hn' _ rfl ?_
  intro A' c' w' q1 q2 q3
  exact h A' c' w' q1 ⟨q2.os, q2.tape, q2.output, Nat.le_trans (by simp) q2.size, fun k hk hne => (q2.block k (by simp; omega) hne).trans (Below.heap_alloc w0 _ k hk)⟩ (below_app ((Below.refl _ _).alloc hbase _) hz (hown.alloc _) q2) (by rw [World.size_alloc] at q3; exact q3)

/-- Two rows of different types do not lie in one block. -/
theorem own_apart {w : World} {B1 B2 s1 s2 n1 n2 : Nat} {e1 e2 : TypeId} {v1 v2 : Value} {xs1 xs2 : List Value} (h1 : w.ownsRow B1 e1 s1 v1 n1 xs1) (h2 : w.ownsRow B2 e2 s2 v2 n2 xs2) (hne : e1 ≠ e2) : v1.ownBlock = none ∨ v1.ownBlock ≠ v2.ownBlock := by
  cases hv : v1.ownBlock with
  | none => exact .inl rfl
  | some g =>
    right
    intro h
    obtain ⟨c1, f1, k1⟩ := Lib.ownsRow_kind h1 g hv
    obtain ⟨c2, f2, k2⟩ := Lib.ownsRow_kind h2 g h.symm
    rw [k1] at k2
    injection k2 with k2
    injection k2 with _ k2 _
    exact hne k2
theorem flat_get {α β : Type} {f : α → List β} {m : Nat} (hf : ∀ x, (f x).length = m) : ∀ {l : List α} {i j : Nat} {x : α}, l[i]? = some x → j < m → (l.flatMap f)[i * m + j]? = (f x)[j]?
  | [], _, _, _, h, _ => by simp at h
  | y :: l, 0, j, x, h, hj => by
    injection h with h
    subst h
    rw [List.flatMap_cons, Nat.zero_mul, Nat.zero_add, List.getElem?_append_left (by rw [hf]; exact hj)]
  | y :: l, i + 1, j, x, h, hj => by
    rw [List.getElem?_cons_succ] at h
    rw [List.flatMap_cons, List.getElem?_append_right (by rw [hf, Nat.succ_mul]; omega), hf, show (i + 1) * m + j - m = i * m + j by rw [Nat.succ_mul]; omega]
    exact flat_get hf h hj
theorem flat_len {α β : Type} {f : α → List β} {m : Nat} (hf : ∀ x, (f x).length = m) : ∀ (l : List α), (l.flatMap f).length = l.length * m
  | [] => by simp
  | y :: l => by rw [List.flatMap_cons, List.length_append, hf, flat_len hf l, List.length_cons, Nat.succ_mul]; omega
theorem flat_snoc {α β : Type} (f : α → List β) (l : List α) (x : α) : (l ++ [x]).flatMap f = l.flatMap f ++ f x := by simp

/-- The cells of a pair, of a limit. -/
def pv (x : Int × Int) : List Value := [iv x.1, iv x.2]
def mv (x : Int × Nat) : List Value := [iv x.1, wv x.2]
theorem PairsAt.of {w : World} {B : Nat} {A : Option Addr} {l : List (Int × Int)} (h : Sees w B A (l.flatMap pv)) : PairsAt w B A l := fun i x hi => by
  have e0 := flat_get (f := pv) (m := 2) (fun _ => rfl) hi (show 0 < 2 by omega)
  have e1 := flat_get (f := pv) (m := 2) (fun _ => rfl) hi (show 1 < 2 by omega)
  obtain ⟨b, o, e, hb, hc⟩ := h (by intro h0; rw [h0] at e0; simp [pv] at e0)
  exact ⟨b, o, e, hb, hc _ _ (by rw [show i * 2 = i * 2 + 0 from rfl, e0]; rfl), hc _ _ (by rw [e1]; rfl)⟩
/-- A holds these limits, as the reference has them. -/
def RMostAt (w : World) (B : Nat) (A : Option Addr) (l : List (Int × Nat)) : Prop :=
  ∀ (i : Nat) (x : Int × Nat), l[i]? = some x → ∃ b o, A = some ⟨b, o, none⟩ ∧ b < B ∧ w.cell? ⟨b, o + i * 2, none⟩ = some (.int .i64 x.1) ∧ w.cell? ⟨b, o + i * 2 + 1, none⟩ = some (.int .u64 (x.2 : Int))
theorem RMostAt.below {w w' : World} {B : Nat} {A : Option Addr} {l : List (Int × Nat)} (h : RMostAt w B A l) (hb : Below B w w') : RMostAt w' B A l := fun i x hi => by
  obtain ⟨b, o, e, h1, h2, h3⟩ := h i x hi
  exact ⟨b, o, e, h1, (hb.cell (p := ⟨b, o + i * 2, none⟩) h1).trans h2, (hb.cell (p := ⟨b, o + i * 2 + 1, none⟩) h1).trans h3⟩
theorem RMostAt.more {w : World} {B B' : Nat} {A : Option Addr} {l : List (Int × Nat)} (h : RMostAt w B A l) (hb : B ≤ B') : RMostAt w B' A l := fun i x hi => by
  obtain ⟨b, o, e, h1, h2, h3⟩ := h i x hi
  exact ⟨b, o, e, by omega, h2, h3⟩
theorem RMostAt.of {w : World} {B : Nat} {A : Option Addr} {l : List (Int × Nat)} (h : Sees w B A (l.flatMap mv)) : RMostAt w B A l := fun i x hi => by
  have e0 := flat_get (f := mv) (m := 2) (fun _ => rfl) hi (show 0 < 2 by omega)
  have e1 := flat_get (f := mv) (m := 2) (fun _ => rfl) hi (show 1 < 2 by omega)
  obtain ⟨b, o, e, hb, hc⟩ := h (by intro h0; rw [h0] at e0; simp [mv] at e0)
  exact ⟨b, o, e, hb, hc _ _ (by rw [show i * 2 = i * 2 + 0 from rfl, e0]; rfl), hc _ _ (by rw [e1]; rfl)⟩

/-- The problem P lies in memory as the reference has it, in blocks below B. -/
structure RPrAt (w : World) (B : Nat) (p : PrV) (P : Pr) : Prop where
  l1 : P.elig.length = p.s1.n
  l2 : P.dif.length = p.s2.n
  l3 : P.sam.length = p.s3.n
  l4 : P.mst.length = p.s4.n
  l5 : P.fix.length = p.s5.n
  e1 : Sees w B p.s1.a (P.elig.map wv)
  e2 : PairsAt w B p.s2.a P.dif
  e3 : PairsAt w B p.s3.a P.sam
  e4 : RMostAt w B p.s4.a P.mst
  e5 : Sees w B p.s5.a (P.fix.map iv)
  b1 : p.s1.n ≤ 1000
  b2 : p.s2.n ≤ 1000
  b3 : p.s3.n ≤ 1000
  b4 : p.s4.n ≤ 1000
  b5 : p.s5.n ≤ 1000
  c5 : p.s5.n ≤ p.s5.c
  w1 : ∀ M ∈ P.elig, M < 2 ^ 64
  w4 : ∀ m ∈ P.mst, m.2 < 2 ^ 64
theorem RPrAt.below {w w' : World} {B : Nat} {p : PrV} {P : Pr} (h : RPrAt w B p P) (hb : Below B w w') : RPrAt w' B p P :=
  ⟨h.l1, h.l2, h.l3, h.l4, h.l5, h.e1.below hb, h.e2.below hb, h.e3.below hb, h.e4.below hb, h.e5.below hb, h.b1, h.b2, h.b3, h.b4, h.b5, h.c5, h.w1, h.w4⟩
theorem RPrAt.more {w : World} {B B' : Nat} {p : PrV} {P : Pr} (h : RPrAt w B p P) (hb : B ≤ B') : RPrAt w B' p P :=
  ⟨h.l1, h.l2, h.l3, h.l4, h.l5, h.e1.more hb, h.e2.more hb, h.e3.more hb, h.e4.more hb, h.e5.more hb, h.b1, h.b2, h.b3, h.b4, h.b5, h.c5, h.w1, h.w4⟩
theorem RPrAt.on {w w' : World} {p : PrV} {P : Pr} (h : RPrAt w w.heap.size p P) (hb : Below w.heap.size w w') : RPrAt w' w'.heap.size p P := (h.below hb).more hb.size
end Go.Proofs.YtcnofhlgiffkjaaGreatDoor
/- The walks of bits.trim and bits.Of. -/
namespace Go.Proofs.YtcnofhlgiffkjaaGreatDoor
open Go.RowKit
set_option linter.unusedVariables false
set_option linter.unusedSimpArgs false

theorem top_zero {M k : Nat} (h : len2 64 M ≤ k + 1) : M / 2 ^ (64 * k) % 2 ^ 64 = 0 ↔ len2 64 M ≤ k := by
  have h1 := (len2_le (t := 64) (by omega)).1 h
  rw [Nat.mul_add, Nat.mul_one, Nat.pow_add] at h1
  rw [Nat.mod_eq_of_lt (Nat.div_lt_of_lt_mul h1), len2_le (by omega)]
  constructor
  · intro h
    exact (Nat.div_eq_zero_iff_lt (Nat.two_pow_pos _)).1 h
  · intro h
    exact Nat.div_eq_of_lt h

set_option maxRecDepth 100000 in
/-- trim. -/
theorem trim_any (g n M : Nat) (w : World) (h : Blk w g 70 ((fx 64 n M).map wv).toArray) (hn : n ≤ 64) (hM : len2 64 M ≤ n) :
    Calls Tryz.prog 54 #[.slice (some ⟨g, 0, none⟩) n n] w fun e w' => ∃ v', e = .returned v' ∧ SetAt w' w'.heap.size v' M ∧ Below w.heap.size w w' := by
  have bA : Below w.heap.size w (w.alloc (.cells #[.slice none 0 0] 63)) := (Below.refl _ _).alloc (Nat.le_refl _) _
  have h1 := h.on bA
  have bR := Blk.new w 63 #[.slice none 0 0]
  have hg := h.lt
  go_enter Tryz.func54, Tryz.ntmps54
  go_wp2_with fail
  go_loop [0] (fun v0 => ∃ k : Nat, v0 = .slice (some ⟨g, 0, none⟩) k n ∧ k ≤ n ∧ Hid (len2 64 M ≤ k)) (fun v0 => match v0 with | .slice _ k _ => k | _ => 0)
  case atStart => exact ⟨n, rfl, Nat.le_refl _, Lib.hid hM⟩
  case round =>
    obtain ⟨k, rfl, hk, HM⟩ := hrel
    have fin : ∀ k, k ≤ n → len2 64 M = k → ∀ w', w' = (w.alloc (.cells #[.slice (some ⟨g, 0, none⟩) k n] 63)) → SetAt w' w'.heap.size (.agg #[.slice (some ⟨g, 0, none⟩) k n]) M ∧ Below w.heap.size w w' := by
      rintro k hk hl w' rfl
      have bB : Below w.heap.size w (w.alloc (.cells #[.slice (some ⟨g, 0, none⟩) k n] 63)) := (Below.refl _ _).alloc (Nat.le_refl _) _
      have h2 := h.on bB
      refine ⟨⟨_, k, n, rfl, hk, by omega, hl, ?_, fun b o e _ => ?_⟩, bB⟩
      · have hs := h2.sees.take_ k
        rw [← List.map_take] at hs
        have e : (fx 64 n M).take k = dg 64 M := by
          rw [fx_pad (by omega) hM, hl, List.take_append_of_le_length (by rw [dg_length, hl]; exact Nat.le_refl _), List.take_of_length_le (by rw [dg_length, hl]; exact Nat.le_refl _)]
        rw [e] at hs
        exact hs
      · injection e with e
        injection e with e
        subst e
        exact ⟨_, h2⟩
    by_cases hk0 : k = 0
    · have hk0' : ¬ 0 < (k : Int) := by omega
      have hl0 : len2 64 M = k := by have := HM.out; omega
      subst hk0
      obtain ⟨f1, f2⟩ := fin 0 hk hl0 _ rfl
      clear fin hl0
      go_wp2_with fail
      exact ret_set rfl w.heap.size _ rfl (Blk.new _ _ _) rfl ⟨_, rfl, f1, f2⟩
    · obtain ⟨j, rfl⟩ : ∃ j, k = j + 1 := ⟨k - 1, by omega⟩
      have hj0 : 0 < ((j + 1 : Nat) : Int) := by omega
      have hj1 : ((j + 1 : Nat) : Int) - 1 = (j : Int) := by omega
      have hj2 : (j : Int) < ((j + 1 : Nat) : Int) := by omega
      obtain ⟨x, hx⟩ : ∃ x, x = M / 2 ^ (64 * j) % 2 ^ 64 := ⟨_, rfl⟩
      have hz := top_zero HM.out
      rw [← hx] at hz
      have hc := h1.wcell (k := j) (x := x) (by rw [hx]; exact fx_get (by omega))
      have Hx := Lib.hid hx
      have Hz := Lib.hid hz
      clear hx hz
      by_cases hx0 : x = 0
      · have hxb : ((x : Int) == 0) = true := by rw [hx0]; rfl
        have hl := Hz.out.1 hx0
        have HL := Lib.hid hl
        clear hx0 fin hl
        go_wp2_with fail
        go_round
        case rel => exact ⟨j, rfl, by omega, HL⟩
        case measure => show j < j + 1; omega
      · have hxb : ((x : Int) == 0) = false := beq_false_of_ne (by omega)
        have hl : len2 64 M = j + 1 := by
          have := HM.out
          have : ¬ len2 64 M ≤ j := fun h => hx0 (Hz.out.2 h)
          omega
        obtain ⟨f1, f2⟩ := fin (j + 1) hk hl _ rfl
        clear hx0 fin hl
        go_wp2_with fail
        exact ret_set rfl w.heap.size _ rfl (Blk.new _ _ _) rfl ⟨_, rfl, f1, f2⟩

/-- The members as a number. -/
def ofL (l : List Nat) : Nat := l.foldl (fun M i => M ||| 1 <<< i) 0
theorem ofL_snoc (l : List Nat) (i : Nat) : ofL (l ++ [i]) = ofL l ||| 1 <<< i := by unfold ofL; rw [List.foldl_append]; rfl
theorem ofL_take {l : List Nat} {k x : Nat} (h : l[k]? = some x) : ofL (l.take (k + 1)) = ofL (l.take k) ||| 1 <<< x := by
  rw [List.take_add_one, h]; exact ofL_snoc _ _
theorem ofL_lt (l : List Nat) (K : Nat) (h : ∀ i ∈ l, i < K) : ofL l < 2 ^ K := by
  have : ∀ (l : List Nat) (M : Nat), M < 2 ^ K → (∀ i ∈ l, i < K) → l.foldl (fun M i => M ||| 1 <<< i) M < 2 ^ K := by
    intro l
    induction l with
    | nil => intro M h _; exact h
    | cons a l ih =>
      intro M hM hl
      exact ih _ (or_lt_iff.2 ⟨hM, hl a (by simp)⟩) (fun i hi => hl i (by simp [hi]))
  exact this l 0 (Nat.two_pow_pos K) h
/-- The greatest of the first k. -/
def topL (l : List Nat) : Int := l.foldl (fun (t : Int) (i : Nat) => max t (i : Int)) (-1)
theorem topL_snoc (l : List Nat) (i : Nat) : topL (l ++ [i]) = max (topL l) (i : Int) := by unfold topL; rw [List.foldl_append]; rfl
theorem topL_take {l : List Nat} {k x : Nat} (h : l[k]? = some x) : topL (l.take (k + 1)) = max (topL (l.take k)) (x : Int) := by
  rw [List.take_add_one, h]; exact topL_snoc _ _
theorem topL_spec (l : List Nat) (K : Int) (h : ∀ i ∈ l, (i : Int) ≤ K) (hK : -1 ≤ K) : -1 ≤ topL l ∧ topL l ≤ K ∧ ∀ i ∈ l, (i : Int) ≤ topL l := by
  have : ∀ (l : List Nat) (t : Int), -1 ≤ t → t ≤ K → (∀ i ∈ l, (i : Int) ≤ K) → t ≤ l.foldl (fun (t : Int) (i : Nat) => max t (i : Int)) t ∧ l.foldl (fun (t : Int) (i : Nat) => max t (i : Int)) t ≤ K ∧ ∀ i ∈ l, (i : Int) ≤ l.foldl (fun (t : Int) (i : Nat) => max t (i : Int)) t := by
    intro l
    induction l with
    | nil => intro t h1 h2 _; exact ⟨Int.le_refl _, h2, by simp⟩
    | cons a l ih =>
      intro t h1 h2 hl
      have ha := hl a (by simp)
      obtain ⟨g1, g2, g3⟩ := ih (max t (a : Int)) (by omega) (by omega) (fun i hi => hl i (by simp [hi]))
      rw [List.foldl_cons]
      refine ⟨by omega, g2, fun i hi => ?_⟩
      rcases List.mem_cons.1 hi with rfl | hi
      · omega
      · exact g3 i hi
  exact this l (-1) (Int.le_refl _) hK h
def niv (l : List Nat) : List Value := (l.map fun i => ((i : Nat) : Int)).map iv

set_option maxHeartbeats 4000000 in
set_option maxRecDepth 100000 in
/-- bits.Of. -/
theorem of_any (A : Option Addr) (n c : Nat) (l : List Nat) (w : World) (h : Sees w w.heap.size A (niv l)) (hn : l.length = n) (hl : ∀ i ∈ l, i < 4096) (hb : n ≤ 1000000000000) :
    Calls Tryz.prog 17 #[.slice A n c] w fun e w' => ∃ v', e = .returned v' ∧ SetAt w' w'.heap.size v' (ofL l) ∧ Below w.heap.size w w' := by
  have bA : Below w.heap.size w (w.alloc (.cells #[.slice none 0 0] 63)) := (Below.refl _ _).alloc (Nat.le_refl _) _
  have h1 := h.on bA
  have bR := Blk.new w 63 #[.slice none 0 0]
  have hn1 : (n : Int) ≤ 1000000000000 := by omega
  have hLl : (l.map fun i => ((i : Nat) : Int)).length = n := by rw [List.length_map, hn]
  have HLl := Lib.hid hLl
  have Hn := Lib.hid hn
  obtain ⟨T, hT⟩ : ∃ T, Hid (T = topL l) := ⟨_, Lib.hid rfl⟩
  obtain ⟨t1, t2, t3⟩ := topL_spec l 4095 (fun i hi => by have := hl i hi; omega) (by omega)
  rw [← hT.out] at t1 t2 t3
  have Hl := Lib.hid hl
  have T3 := Lib.hid t3
  clear hLl hn hl t3
  go_enter Tryz.func17, Tryz.ntmps17
  go_wp2_with fail
  go_loop [3, 11] (fun v3 v11 => ∃ (k : Nat) (t : Int), v11 = .int .i64 k ∧ k ≤ n ∧ v3 = .int .i64 t ∧ Hid (t = topL (l.take k))) (fun _ v11 => n - (intOf v11).toNat)
  case atStart => exact ⟨0, -1, rfl, Nat.zero_le _, rfl, Lib.hid rfl⟩
  case round =>
    obtain ⟨k, t, rfl, hk, rfl, Ht⟩ := hrel
    by_cases hlt : k < n
    · have hlt' : (k : Int) < (n : Int) := by omega
      have hkl : k < l.length := by rw [Hn.out]; exact hlt
      have hx : l[k]? = some l[k] := List.getElem?_eq_getElem hkl
      obtain ⟨x, hxe⟩ : ∃ x, x = l[k] := ⟨_, rfl⟩
      have hx4 : x < 4096 := by rw [hxe]; exact Hl.out _ (List.getElem_mem _)
      obtain ⟨b, o, hA, hbb, hc⟩ := h1.at_ (k := k) (by unfold niv; rw [List.length_map, HLl.out]; exact hlt)
      have hcx : (niv l)[k]'(by unfold niv; rw [List.length_map, HLl.out]; exact hlt) = .int .i64 (x : Int) := by
        unfold niv
        rw [List.getElem_map, List.getElem_map, hxe]; rfl
      rw [hcx] at hc
      rw [← hxe] at hx
      have Hx := Lib.hid (topL_take hx)
      rw [← Ht.out] at Hx
      clear hcx hx hxe
      have hx5 : (x : Int) ≤ 4095 := by omega
      subst hA
      go_wp2_with fail
      go_round
      case rel => exact ⟨k + 1, max t (x : Int), by go_num, by omega, by first | rfl | skip, Lib.hid (by rw [Hx.out])⟩
      case measure => simp [intOf]; omega
    · obtain rfl : k = n := by omega
      have hTt : t = T := by
        have := Ht.out
        rw [List.take_of_length_le (by rw [Hn.out]; exact Nat.le_refl _), ← hT.out] at this
        exact this
      subst hTt
      by_cases hneg : t < 0
      · have hnil : l = [] := by
          cases l with
          | nil => rfl
          | cons a l =>
            have := T3.out a (by simp)
            omega
        go_wp2_with fail
        refine ret_set rfl w.heap.size (.slice none 0 0) rfl bR rfl ?_
        subst hnil
        exact ⟨_, rfl, SetAt.zero _ _ _ _, bA⟩
      · have hneg' : 0 ≤ t := by omega
        obtain ⟨n', hn', hn64⟩ : ∃ n' : Nat, t / 64 + 1 = (n' : Int) ∧ n' ≤ 64 := ⟨(t / 64 + 1).toNat, by omega, by omega⟩
        go_wp2_with (refine wpL_mkW _ rfl _ _ rfl _ _ n' rfl rfl (by omega) (by omega) (by omega) ?_
                     intro w2 G2 bw2 z2)
        have hM64 : len2 64 (ofL l) ≤ n' := by
          rw [len2_le (by omega)]
          refine ofL_lt l (64 * n') (fun i hi => ?_)
          have := T3.out i hi
          omega
        go_loopw [30] (fun i wr => ∃ (j : Nat), j ≤ k ∧ i = .int .i64 j ∧ Hid (Blk wr (w.heap.size + 1) 70 ((fx 64 n' (ofL (l.take j))).map wv).toArray) ∧ Below (w.alloc (.cells #[.slice none 0 0] 63)).heap.size (w.alloc (.cells #[.slice none 0 0] 63)) wr) (fun i _ => k - (intOf i).toNat)
        case atStart => exact ⟨0, Nat.zero_le _, rfl, Lib.hid (by rw [List.take_zero, show ofL [] = 0 from rfl, fx_zero]; have := G2.out; simpa using this), bw2⟩
        case round =>
          obtain ⟨j, hj, rfl, G, bw2⟩ := hrel
          by_cases hlt : j < k
          · have hlt' : (j : Int) < (k : Int) := by omega
            have hkl : j < l.length := by rw [Hn.out]; exact hlt
            have hx : l[j]? = some l[j] := List.getElem?_eq_getElem hkl
            obtain ⟨x, hxe⟩ : ∃ x, x = l[j] := ⟨_, rfl⟩
            have hxt : (x : Int) ≤ t := by rw [hxe]; exact T3.out _ (List.getElem_mem _)
            obtain ⟨b, o, hA, hbb, hc⟩ := (h1.on bw2).at_ (k := j) (by unfold niv; rw [List.length_map, HLl.out]; exact hlt)
            have hcx : (niv l)[j]'(by unfold niv; rw [List.length_map, HLl.out]; exact hlt) = .int .i64 (x : Int) := by
              unfold niv
              rw [List.getElem_map, List.getElem_map, hxe]; rfl
            rw [hcx] at hc
            rw [← hxe] at hx
            have Hx := Lib.hid (ofL_take hx)
            clear hcx hx hxe
            subst hA
            have hx0 : 0 ≤ (x : Int) := by omega
            obtain ⟨q, hq, hqn⟩ : ∃ q : Nat, (x : Int) / 64 = (q : Int) ∧ Hid (q = x / 64) := ⟨x / 64, by omega, Lib.hid rfl⟩
            obtain ⟨r, hr, hrn⟩ : ∃ r : Nat, (x : Int) % 64 = (r : Int) ∧ Hid (r = x % 64) := ⟨x % 64, by omega, Lib.hid rfl⟩
            have hr64 : r < 64 := by rw [hrn.out]; omega
            have hqn' : q < n' := by omega
            have hqz : (q : Int) < (n' : Int) := by omega
            obtain ⟨z, hzv, hz1⟩ : ∃ z : Nat, Hid (z = ofL (l.take j) / 2 ^ (64 * q) % 2 ^ 64) ∧ z < 18446744073709551616 := ⟨_, Lib.hid rfl, Nat.mod_lt _ (by omega)⟩
            obtain ⟨p, hp1, hp2, hp3⟩ := bit_u64 hr64
            have hcz := G.out.wcell (k := q) (x := z) (by rw [hzv.out]; exact fx_get hqn')
            have hfz := G.out.frozen q
            have hqw : IntKind.i64.wrap (q : Int) = (q : Int) := by rw [IntKind.wrap_i64]; omega
            have hqw1 : 0 ≤ IntKind.i64.wrap (q : Int) ∧ IntKind.i64.wrap (q : Int) < (n' : Int) := by rw [hqw]; omega
            have hrw : IntKind.i64.wrap (r : Int) = (r : Int) := by rw [IntKind.wrap_i64]; omega
            have hrt : (x : Int).tmod 64 = (r : Int) := by rw [Int.tmod_eq_emod_of_nonneg hx0]; exact hr
            have hqt : (x : Int).tdiv 64 = (q : Int) := by rw [Int.tdiv_eq_ediv_of_nonneg hx0]; exact hq
            go_wp2_with fail
            go_region
            have hor : bits BinOp.or IntKind.u64 (z : Int) (p : Int) = ((z ||| p : Nat) : Int) := bits_or_u64_nat z p hz1 hp2
            have hb4 := G.out.wset q (z ||| p)
            have hL : (fx 64 n' (ofL (l.take j))).set q (z ||| p) = fx 64 n' (ofL (l.take (j + 1))) := by
              rw [Hx.out, fx_bit, hzv.out, hp1.out, hrn.out, hqn.out]
            rw [hL] at hb4
            have Hb4 := Lib.hid (hb4.drewN 1)
            clear hb4 hL
            go_wp2_with fail
            go_roundw
            case rel => exact ⟨j + 1, by omega, by go_num, (by first | exact Hb4 | (rw [hor]; exact Hb4)), (bw2.setCell (p := ⟨w.heap.size + 1, q, none⟩) (by simp) _).drew⟩
            case measure => simp [intOf]; omega
          · obtain rfl : j = k := by omega
            have G' := G.out
            rw [List.take_of_length_le (by rw [Hn.out]; exact Nat.le_refl _)] at G'
            have b2 := bR.on bw2
            have HB2 := Lib.hid b2
            clear b2 bR
            go_wp2_with fail
            refine (trim_any (w.heap.size + 1) n' (ofL l) _ G' hn64 hM64).mono ?_
            rintro e w4 ⟨v4, rfl, hs4, hb4⟩
            obtain ⟨A4, n4, c4, rfl, _⟩ := id hs4
            have b4 := HB2.out.on hb4
            have c4' := b4.cell 0
            have f4' := b4.frozen 0
            simp at c4'
            have B4 := Lib.hid b4
            clear b4
            have hbs := bw2.size
            simp at hbs
            go_wp2_with fail
            refine ret_set rfl w.heap.size (.slice A4 n4 c4) rfl ?_ rfl ?_
            · have := B4.out.put 0 (.slice A4 n4 c4)
              simpa using this
            refine ⟨_, rfl, ?_, ((bA.trans (bw2.mono (by simp))).trans (hb4.mono (by omega))).setCell (Nat.le_refl _) _⟩
            exact hs4.off B4.out _
end Go.Proofs.YtcnofhlgiffkjaaGreatDoor
