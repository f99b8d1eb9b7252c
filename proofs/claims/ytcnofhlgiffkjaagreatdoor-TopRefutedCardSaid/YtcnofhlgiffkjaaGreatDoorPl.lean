/- A pack of texts: MkA, OwnQ. -/
import Derived.Test.YtcnofhlgiffkjaaGreatDoorPt
import Derived.Test.YtcnofhlgiffkjaaGreatDoorPg
import Derived.Test.YtcnofhlgiffkjaaGreatDoorPi
/- A problem as the program has it, of the call's own, that lies in a block: one more set, one more limit; slices.Clone at pairs. -/
namespace Go.Proofs.YtcnofhlgiffkjaaGreatDoor
open Go.RowKit
set_option linter.unusedVariables false
set_option linter.unusedSimpArgs false

theorem set_info : (Tryz.prog.info? 63).map (fun i => (i.zero, i.size, i.bytes)) = some (some (.agg #[.slice none 0 0]), 1, 24) := by kernel_rfl
theorem fmost_info : (Tryz.prog.info? 81).map (fun i => (i.zero, i.size, i.bytes)) = some (some (.agg #[.int .i64 0, .slice none 0 0]), 2, 32) := by kernel_rfl
theorem SetAt.grownR {w w' : World} {B : Nat} {v : Value} {M : Nat} {row : Option Nat} (h : SetAt w B v M) (hg : w.grownBy w' row) (hB : B ≤ w.heap.size) (hrow : ∀ g, row = some g → ∃ c e f, w.heap[g]? = some (.cells c e f) ∧ e ≠ 70) : SetAt w' B v M := by
  obtain ⟨A, n, c, rfl, h1, h2, h4, s, r⟩ := h
  have hne : ∀ b o, A = some ⟨b, o, none⟩ → n ≠ 0 → some b ≠ row := fun b o e h0 e2 => by
    obtain ⟨cs', hc⟩ := r b o e h0
    obtain ⟨c9, e9, f9, h9, h8⟩ := hrow b e2.symm
    unfold Blk at hc
    rw [hc] at h9
    injection h9 with h9
    injection h9 with _ h9 _
    exact h8 h9.symm
  refine ⟨A, n, c, rfl, h1, h2, h4, fun hn => ?_, fun b o e h0 => ?_⟩
  · have h0 : n ≠ 0 := by
      rintro rfl
      apply hn
      apply List.eq_nil_of_length_eq_zero
      rw [List.length_map, dg_length, h4]
    obtain ⟨b, o, e, hb, hc⟩ := s hn
    refine ⟨b, o, e, hb, fun j x hx => ?_⟩
    rw [World.cell?_of_block (hg.block b (by omega) (hne b o e h0))]
    exact hc j x hx
  · obtain ⟨cs', hc⟩ := r b o e h0
    exact ⟨cs', (hg.block b hc.lt (hne b o e h0)).trans hc⟩
theorem PairsAt.sees {w : World} {B : Nat} {A : Option Addr} {l : List (Int × Int)} (h : PairsAt w B A l) : Sees w B A (l.flatMap pv) := fun hn => by
  cases l with
  | nil => exact absurd rfl hn
  | cons x l =>
    obtain ⟨b, o, rfl, hb, _, _⟩ := h 0 x rfl
    refine ⟨b, o, rfl, hb, fun j u hu => ?_⟩
    have hl := flat_len (f := pv) (m := 2) (fun _ => rfl) (x :: l)
    have hj : j < ((x :: l).flatMap pv).length := (List.getElem?_eq_some_iff.1 hu).1
    obtain ⟨y, hy⟩ : ∃ y, (x :: l)[j / 2]? = some y := ⟨_, List.getElem?_eq_getElem (by omega)⟩
    obtain ⟨b', o', e, _, c0, c1⟩ := h (j / 2) y hy
    injection e with e
    injection e with e1 e2 _
    subst e1 e2
    have hf := flat_get (f := pv) (m := 2) (fun _ => rfl) hy (show j % 2 < 2 by omega)
    rw [show j / 2 * 2 + j % 2 = j by omega, hu] at hf
    rcases Nat.mod_two_eq_zero_or_one j with h0 | h1
    · rw [h0] at hf
      have hf' : u = .int .i64 y.1 := by
        have : some u = some (.int .i64 y.1) := hf
        injection this
      rw [hf', ← c0]
      congr 2
      omega
    · rw [h1] at hf
      have hf' : u = .int .i64 y.2 := by
        have : some u = some (.int .i64 y.2) := hf
        injection this
      rw [hf', ← c1]
      congr 2
      omega
theorem oneCell_pv (l : List (Int × Int)) : ∀ u ∈ l.flatMap pv, u.oneCell' = true := by
  intro u hu
  obtain ⟨x, _, hx⟩ := List.mem_flatMap.1 hu
  simp [pv] at hx
  rcases hx with rfl | rfl <;> rfl

set_option maxHeartbeats 4000000 in
/-- slices.Clone at pairs. -/
theorem cloneP_any (A : Option Addr) (n c : Nat) (l : List (Int × Int)) (w : World) (h : PairsAt w w.heap.size A l) (hn : l.length = n) (hb : n ≤ 1000000) :
    Calls Tryz.prog 22 #[.slice A n c] w fun e w' => ∃ A' c', e = .returned (.slice A' n c') ∧ w'.ownsRow w.heap.size 77 2 (.slice A' n c') n (l.flatMap pv) ∧ Below w.heap.size w w' := by
  have h1 := fun w => Lib.run_eql_slice_nil (P := Tryz.prog) w 28 77 A n c 0 0 Tryz.underlying28
  have h := h.sees
  have hfl := flat_len (f := pv) (m := 2) (fun _ => rfl) l
  obtain ⟨i0, hi0, hz0, hz1, hz2⟩ := info_parts pair_info
  rcases A with _ | ad
  · go_enter Tryz.func22, Tryz.ntmps22
    go_wp2_with fail
    go_ret
    have h2 := h.none_
    rw [h2] at hfl
    have h3 : l = [] := List.eq_nil_of_length_eq_zero (by simp at hfl; omega)
    subst h3
    subst hn
    exact ⟨none, 0, rfl, World.ownsRow_nil _ _ _ _, Below.refl _ _⟩
  · have hl0 : (w.alloc (.cells #[] 77)).ownsRow w.heap.size 77 2 (.slice (some ⟨w.heap.size, 0, none⟩) 0 0) 0 [] := World.ownsRow_lit w #[] 0 (Nat.le_refl _) (by unfold maxLen; omega) rfl
    go_enter Tryz.func22, Tryz.ntmps22
    go_wp2_with (at_builtin; refine wpList_append_sees _ rfl (.tmp 5) (.tmp 6) _ rfl w.heap.size _ i0 _ 2 16 Tryz.underlying28 hi0 hz0 hz1 hz2 rfl (by omega) _ 0 [] rfl hl0 w.heap.size (some ad) n c (l.flatMap pv) rfl (by omega) (h.alloc (Nat.le_refl _) _) (oneCell_pv l) (by unfold maxLen; omega) (by omega) (by simp) n (by omega) (l.flatMap pv) rfl ?_; intro A' c' w1 hown hg _)
    go_ret
    exact ⟨A', c', rfl, hown, below_app ((Below.refl _ _).alloc (Nat.le_refl _) _) (by simp) hl0 hg⟩

def qv (m : Int × Value) : List Value := [iv m.1, m.2]
structure HoldP (w : World) (base g : Nat) (q : PrV) (P : Pr) (xs : List Value) (ms : List (Int × Value)) : Prop where
  o1 : w.ownsRow base 63 1 q.s1.v q.s1.n xs
  o2 : w.ownsRow base 77 2 q.s2.v q.s2.n (P.dif.flatMap pv)
  o3 : w.ownsRow base 77 2 q.s3.v q.s3.n (P.sam.flatMap pv)
  o4 : w.ownsRow base 81 2 q.s4.v q.s4.n (ms.flatMap qv)
  o5 : w.ownsRow base 3 1 q.s5.v q.s5.n (P.fix.map iv)
  x1 : xs.length = P.elig.length
  s1 : ∀ (i M : Nat), P.elig[i]? = some M → ∃ X, xs[i]? = some X ∧ SetAt w w.heap.size (.agg #[X]) M
  x4 : ms.length = P.mst.length
  s4 : ∀ (i : Nat) (x : Int × Nat), P.mst[i]? = some x → ∃ m, ms[i]? = some m ∧ m.1 = x.1 ∧ SetAt w w.heap.size (.agg #[m.2]) x.2
  blk : Blk w g 37 q.cs
  b1 : q.s1.n ≤ 1000
  b2 : q.s2.n ≤ 1000
  b3 : q.s3.n ≤ 1000
  b4 : q.s4.n ≤ 1000
  b5 : q.s5.n ≤ 1000
theorem HoldP.on {w w' : World} {base g : Nat} {q : PrV} {P : Pr} {xs : List Value} {ms : List (Int × Value)} (h : HoldP w base g q P xs ms) (hb : Below w.heap.size w w') : HoldP w' base g q P xs ms :=
  ⟨own_on h.o1 hb, own_on h.o2 hb, own_on h.o3 hb, own_on h.o4 hb, own_on h.o5 hb, h.x1, fun i M hi => by obtain ⟨X, a, b⟩ := h.s1 i M hi; exact ⟨X, a, b.at hb⟩, h.x4,
    fun i x hi => by obtain ⟨m, a, b, c⟩ := h.s4 i x hi; exact ⟨m, a, b, c.at hb⟩, h.blk.on hb, h.b1, h.b2, h.b3, h.b4, h.b5⟩
theorem HoldP.at {w : World} {base g : Nat} {q : PrV} {P : Pr} {xs : List Value} {ms : List (Int × Value)} (h : HoldP w base g q P xs ms) : PrAt w w.heap.size q P := by
  have q1 := Sees.own h.o1 (by omega)
  have q4 := Sees.own h.o4 (by omega)
  have h4 := own_len2 (f := qv) (fun _ => rfl) h.o4
  refine ⟨?_, own_len2 (fun _ => rfl) h.o2, own_len2 (fun _ => rfl) h.o3, by rw [← h.x4]; exact h4, by have := h.o5.1; simpa using this, fun i M hi => ?_, PairsAt.of (Sees.own h.o2 (by omega)), PairsAt.of (Sees.own h.o3 (by omega)), fun i x hi => ?_, Sees.own h.o5 (by omega),
    by have := h.b1; omega, by have := h.b2; omega, by have := h.b3; omega, by have := h.b4; omega, by have := h.b5; omega, own_room h.o5⟩
  · rw [← h.x1]
    have := h.o1.1
    omega
  · obtain ⟨X, a, b⟩ := h.s1 i M hi
    obtain ⟨b9, o9, e9, hb, hc⟩ := q1 (by intro e; rw [e] at a; simp at a)
    exact ⟨b9, o9, X, e9, hb, hc i X a, b⟩
  · obtain ⟨m, a, b, c⟩ := h.s4 i x hi
    have e0 := flat_get (f := qv) (m := 2) (fun _ => rfl) a (show 0 < 2 by omega)
    have e1 := flat_get (f := qv) (m := 2) (fun _ => rfl) a (show 1 < 2 by omega)
    obtain ⟨b9, o9, e9, hb, hc⟩ := q4 (by intro h0; rw [h0] at e0; simp [qv] at e0)
    exact ⟨b9, o9, m.2, e9, hb, hc _ _ (by rw [show i * 2 = i * 2 + 0 from rfl, e0, ← b]; rfl), hc _ _ (by rw [e1]; rfl), c⟩
theorem get_snoc {α : Type} {l : List α} {x y : α} {i : Nat} (h : (l ++ [x])[i]? = some y) : l[i]? = some y ∨ (i = l.length ∧ y = x) := by
  rw [List.getElem?_append] at h
  split at h
  · exact .inl h
  · rename_i hi
    obtain ⟨h1, h2⟩ := List.getElem?_eq_some_iff.1 h
    simp at h1
    right
    refine ⟨by omega, ?_⟩
    simpa using h2.symm
theorem HoldP.add1 {w w' : World} {B g n' c' : Nat} {q : PrV} {P : Pr} {xs : List Value} {ms : List (Int × Value)} {A' : Option Addr} {M : Nat} {X : Value} (h : HoldP w B g q P xs ms) (ho : w'.ownsRow B 63 1 (.slice A' n' c') n' (xs ++ [X])) (hg : w.grownBy w' q.s1.v.ownBlock) (hn : n' ≤ 1000) (hX : SetAt w w.heap.size (.agg #[X]) M) :
    HoldP (w'.setCell ⟨g, 0, none⟩ (.slice A' n' c')) B g ⟨⟨A', n', c'⟩, q.s2, q.s3, q.s4, q.s5⟩ ⟨P.elig ++ [M], P.dif, P.sam, P.mst, P.fix⟩ (xs ++ [X]) ms := by
  have hb := h.blk.grown hg (own_off h.o1 h.blk (by decide))
  have hrow : ∀ g', q.s1.v.ownBlock = some g' → ∃ c e f, w.heap[g']? = some (.cells c e f) ∧ e ≠ 70 := fun g' hv => by
    obtain ⟨c, f, k⟩ := Lib.ownsRow_kind h.o1 g' hv
    exact ⟨c, _, f, k, by decide⟩
  have keepS : ∀ v M, SetAt w w.heap.size v M → SetAt (w'.setCell ⟨g, 0, none⟩ (.slice A' n' c')) (w'.setCell ⟨g, 0, none⟩ (.slice A' n' c')).heap.size v M := fun v M hv => by
    rw [setCell_size]
    exact ((hv.grownR hg (Nat.le_refl _) hrow).far hb (by decide)).more hg.size
  refine ⟨?_, keepRow h.o2 hg (own_apart h.o2 h.o1 (by decide)) hb (by decide), keepRow h.o3 hg (own_apart h.o3 h.o1 (by decide)) hb (by decide), keepRow h.o4 hg (own_apart h.o4 h.o1 (by decide)) hb (by decide), keepRow h.o5 hg (own_apart h.o5 h.o1 (by decide)) hb (by decide), by simp [h.x1], fun i M' hi => ?_, h.x4, fun i x hi => ?_, hb.put 0 _, hn, h.b2, h.b3, h.b4, h.b5⟩
  · exact ownsRow_setCell_other ho (a := ⟨g, 0, none⟩) (own_off ho hb (by decide)) (.slice A' n' c')
  · rcases get_snoc hi with h1 | ⟨rfl, rfl⟩
    · obtain ⟨X', a, b⟩ := h.s1 i M' h1
      exact ⟨X', by rw [List.getElem?_append_left (List.getElem?_eq_some_iff.1 a).1]; exact a, keepS _ _ b⟩
    · exact ⟨X, by rw [← h.x1]; simp, keepS _ _ hX⟩
  · obtain ⟨m, a, b, c⟩ := h.s4 i x hi
    exact ⟨m, a, b, keepS _ _ c⟩
theorem HoldP.add4 {w w' : World} {B g n' c' : Nat} {q : PrV} {P : Pr} {xs : List Value} {ms : List (Int × Value)} {A' : Option Addr} {M : Nat} {X : Value} {z : Int} (h : HoldP w B g q P xs ms) (ho : w'.ownsRow B 81 2 (.slice A' n' c') n' (ms.flatMap qv ++ [.int .i64 z, X])) (hg : w.grownBy w' q.s4.v.ownBlock) (hn : n' ≤ 1000) (hX : SetAt w w.heap.size (.agg #[X]) M) :
    HoldP (w'.setCell ⟨g, 3, none⟩ (.slice A' n' c')) B g ⟨q.s1, q.s2, q.s3, ⟨A', n', c'⟩, q.s5⟩ ⟨P.elig, P.dif, P.sam, P.mst ++ [(z, M)], P.fix⟩ xs (ms ++ [(z, X)]) := by
  have hb := h.blk.grown hg (own_off h.o4 h.blk (by decide))
  have hrow : ∀ g', q.s4.v.ownBlock = some g' → ∃ c e f, w.heap[g']? = some (.cells c e f) ∧ e ≠ 70 := fun g' hv => by
    obtain ⟨c, f, k⟩ := Lib.ownsRow_kind h.o4 g' hv
    exact ⟨c, _, f, k, by decide⟩
  have keepS : ∀ v M, SetAt w w.heap.size v M → SetAt (w'.setCell ⟨g, 3, none⟩ (.slice A' n' c')) (w'.setCell ⟨g, 3, none⟩ (.slice A' n' c')).heap.size v M := fun v M hv => by
    rw [setCell_size]
    exact ((hv.grownR hg (Nat.le_refl _) hrow).far hb (by decide)).more hg.size
  refine ⟨keepRow h.o1 hg (own_apart h.o1 h.o4 (by decide)) hb (by decide), keepRow h.o2 hg (own_apart h.o2 h.o4 (by decide)) hb (by decide), keepRow h.o3 hg (own_apart h.o3 h.o4 (by decide)) hb (by decide), ?_, keepRow h.o5 hg (own_apart h.o5 h.o4 (by decide)) hb (by decide), h.x1, fun i M' hi => ?_, by simp [h.x4], fun i x hi => ?_, hb.put 3 _, h.b1, h.b2, h.b3, hn, h.b5⟩
  · have := ownsRow_setCell_other ho (a := ⟨g, 3, none⟩) (own_off ho hb (by decide)) (.slice A' n' c')
    simp only [flat_snoc]
    exact this
  · obtain ⟨X', a, b⟩ := h.s1 i M' hi
    exact ⟨X', a, keepS _ _ b⟩
  · rcases get_snoc hi with h1 | ⟨rfl, rfl⟩
    · obtain ⟨m, a, b, c⟩ := h.s4 i x h1
      exact ⟨m, by rw [List.getElem?_append_left (List.getElem?_eq_some_iff.1 a).1]; exact a, b, keepS _ _ c⟩
    · exact ⟨(z, X), by rw [← h.x4]; simp, rfl, keepS _ _ hX⟩
set_option maxHeartbeats 4000000 in
theorem HoldP.set5 {w : World} {B g g' t : Nat} {p : PrV} {P : Pr} {xs : List Value} {ms : List (Int × Value)} {cs : Array Value} {a' b' c' d' e' : Value} (h : HoldP w B g p P xs ms) (hb : Blk w g' t cs) (ht : t = 37) :
    PrAt (((((w.setCell ⟨g', 0, none⟩ a').setCell ⟨g', 1, none⟩ b').setCell ⟨g', 2, none⟩ c').setCell ⟨g', 3, none⟩ d').setCell ⟨g', 4, none⟩ e') (((((w.setCell ⟨g', 0, none⟩ a').setCell ⟨g', 1, none⟩ b').setCell ⟨g', 2, none⟩ c').setCell ⟨g', 3, none⟩ d').setCell ⟨g', 4, none⟩ e').heap.size p P := by
  subst ht
  simp only [setCell_size]
  have hS : ∀ v M, SetAt w w.heap.size v M → SetAt (((((w.setCell ⟨g', 0, none⟩ a').setCell ⟨g', 1, none⟩ b').setCell ⟨g', 2, none⟩ c').setCell ⟨g', 3, none⟩ d').setCell ⟨g', 4, none⟩ e') w.heap.size v M := fun v M hv => by
    have k0 := hb.put 0 a'
    have k1 := k0.put 1 b'
    have k2 := k1.put 2 c'
    have k3 := k2.put 3 d'
    have r0 := SetAt.far (i := 0) (u := a') hv hb (by decide)
    have r1 := SetAt.far (i := 1) (u := b') r0 k0 (by decide)
    have r2 := SetAt.far (i := 2) (u := c') r1 k1 (by decide)
    have r3 := SetAt.far (i := 3) (u := d') r2 k2 (by decide)
    exact SetAt.far (i := 4) (u := e') r3 k3 (by decide)
  have q1 := own5 (a' := a') (b' := b') (c' := c') (d' := d') (e' := e') h.o1 hb (by decide)
  have q2 := own5 (a' := a') (b' := b') (c' := c') (d' := d') (e' := e') h.o2 hb (by decide)
  have q3 := own5 (a' := a') (b' := b') (c' := c') (d' := d') (e' := e') h.o3 hb (by decide)
  have q4 := own5 (a' := a') (b' := b') (c' := c') (d' := d') (e' := e') h.o4 hb (by decide)
  have q5 := own5 (a' := a') (b' := b') (c' := c') (d' := d') (e' := e') h.o5 hb (by decide)
  have k1 := Sees.own q1 (by omega)
  have k2 := Sees.own q2 (by omega)
  have k3 := Sees.own q3 (by omega)
  have k4 := Sees.own q4 (by omega)
  have k5 := Sees.own q5 (by omega)
  simp only [setCell_size] at k1 k2 k3 k4 k5
  have h0 := h.at
  refine ⟨h0.l1, h0.l2, h0.l3, h0.l4, h0.l5, fun i M hi => ?_, PairsAt.of k2, PairsAt.of k3, fun i x hi => ?_, k5, h0.b1, h0.b2, h0.b3, h0.b4, h0.b5, h0.c5⟩
  · obtain ⟨X, a, b⟩ := h.s1 i M hi
    obtain ⟨b9, o9, e9, hb9, hc⟩ := k1 (by intro e; rw [e] at a; simp at a)
    exact ⟨b9, o9, X, e9, hb9, hc i X a, hS _ _ b⟩
  · obtain ⟨m, a, b, c⟩ := h.s4 i x hi
    have e0 := flat_get (f := qv) (m := 2) (fun _ => rfl) a (show 0 < 2 by omega)
    have e1 := flat_get (f := qv) (m := 2) (fun _ => rfl) a (show 1 < 2 by omega)
    obtain ⟨b9, o9, e9, hb9, hc⟩ := k4 (by intro h0; rw [h0] at e0; simp [qv] at e0)
    exact ⟨b9, o9, m.2, e9, hb9, hc _ _ (by rw [show i * 2 = i * 2 + 0 from rfl, e0, ← b]; rfl), hc _ _ (by rw [e1]; rfl), hS _ _ c⟩
end Go.Proofs.YtcnofhlgiffkjaaGreatDoor
/- A problem, as the program has it, whose lists are the call's own. -/
namespace Go.Proofs.YtcnofhlgiffkjaaGreatDoor
open Go.RowKit
set_option linter.unusedVariables false
set_option linter.unusedSimpArgs false

/-- A problem whose lists are the call's own. -/
structure OwnQ (w : World) (base : Nat) (q : PrV) (P : Pr) (xs : List Value) (ms : List (Int × Value)) : Prop where
  o1 : w.ownsRow base 63 1 q.s1.v q.s1.n xs
  o2 : w.ownsRow base 77 2 q.s2.v q.s2.n (P.dif.flatMap pv)
  o3 : w.ownsRow base 77 2 q.s3.v q.s3.n (P.sam.flatMap pv)
  o4 : w.ownsRow base 81 2 q.s4.v q.s4.n (ms.flatMap qv)
  o5 : w.ownsRow base 3 1 q.s5.v q.s5.n (P.fix.map iv)
  x1 : xs.length = P.elig.length
  s1 : ∀ (i M : Nat), P.elig[i]? = some M → ∃ X, xs[i]? = some X ∧ SetAt w w.heap.size (.agg #[X]) M
  x4 : ms.length = P.mst.length
  s4 : ∀ (i : Nat) (x : Int × Nat), P.mst[i]? = some x → ∃ m, ms[i]? = some m ∧ m.1 = x.1 ∧ SetAt w w.heap.size (.agg #[m.2]) x.2
  b1 : q.s1.n ≤ 1000
  b2 : q.s2.n ≤ 1000
  b3 : q.s3.n ≤ 1000
  b4 : q.s4.n ≤ 1000
  b5 : q.s5.n ≤ 1000
theorem HoldP.ownQ {w : World} {base g : Nat} {q : PrV} {P : Pr} {xs : List Value} {ms : List (Int × Value)} (h : HoldP w base g q P xs ms) : OwnQ w base q P xs ms :=
  ⟨h.o1, h.o2, h.o3, h.o4, h.o5, h.x1, h.s1, h.x4, h.s4, h.b1, h.b2, h.b3, h.b4, h.b5⟩
theorem OwnQ.less {w : World} {base base' : Nat} {q : PrV} {P : Pr} {xs : List Value} {ms : List (Int × Value)} (h : OwnQ w base q P xs ms) (hb : base' ≤ base) : OwnQ w base' q P xs ms :=
  ⟨own_less h.o1 hb, own_less h.o2 hb, own_less h.o3 hb, own_less h.o4 hb, own_less h.o5 hb, h.x1, h.s1, h.x4, h.s4, h.b1, h.b2, h.b3, h.b4, h.b5⟩
theorem OwnQ.on {w w' : World} {base : Nat} {q : PrV} {P : Pr} {xs : List Value} {ms : List (Int × Value)} (h : OwnQ w base q P xs ms) (hb : Below w.heap.size w w') : OwnQ w' base q P xs ms :=
  ⟨own_on h.o1 hb, own_on h.o2 hb, own_on h.o3 hb, own_on h.o4 hb, own_on h.o5 hb, h.x1, fun i M hi => by obtain ⟨X, a, b⟩ := h.s1 i M hi; exact ⟨X, a, b.at hb⟩, h.x4,
    fun i x hi => by obtain ⟨m, a, b, c⟩ := h.s4 i x hi; exact ⟨m, a, b, c.at hb⟩, h.b1, h.b2, h.b3, h.b4, h.b5⟩
/-- A store into a block of another type. -/
theorem OwnQ.put {w : World} {base g t i : Nat} {q : PrV} {P : Pr} {xs : List Value} {ms : List (Int × Value)} {cs : Array Value} {u : Value} (h : OwnQ w base q P xs ms) (hb : Blk w g t cs)
    (ht : t ≠ 63 ∧ t ≠ 77 ∧ t ≠ 81 ∧ t ≠ 3 ∧ t ≠ 70) : OwnQ (w.setCell ⟨g, i, none⟩ u) base q P xs ms := by
  obtain ⟨t1, t2, t3, t4, t5⟩ := ht
  have hS : ∀ v M, SetAt w w.heap.size v M → SetAt (w.setCell ⟨g, i, none⟩ u) (w.setCell ⟨g, i, none⟩ u).heap.size v M := fun v M hv => by
    rw [setCell_size]
    exact SetAt.far hv hb t5
  refine ⟨ownsRow_setCell_other h.o1 (a := ⟨g, i, none⟩) (own_off h.o1 hb (Ne.symm t1)) u, ownsRow_setCell_other h.o2 (a := ⟨g, i, none⟩) (own_off h.o2 hb (Ne.symm t2)) u, ownsRow_setCell_other h.o3 (a := ⟨g, i, none⟩) (own_off h.o3 hb (Ne.symm t2)) u, ownsRow_setCell_other h.o4 (a := ⟨g, i, none⟩) (own_off h.o4 hb (Ne.symm t3)) u,
    ownsRow_setCell_other h.o5 (a := ⟨g, i, none⟩) (own_off h.o5 hb (Ne.symm t4)) u, h.x1, fun j M hj => ?_, h.x4, fun j x hj => ?_, h.b1, h.b2, h.b3, h.b4, h.b5⟩
  · obtain ⟨X, a, b⟩ := h.s1 j M hj
    exact ⟨X, a, hS _ _ b⟩
  · obtain ⟨m, a, b, c⟩ := h.s4 j x hj
    exact ⟨m, a, b, hS _ _ c⟩
theorem OwnQ.put5 {w : World} {base g t : Nat} {q : PrV} {P : Pr} {xs : List Value} {ms : List (Int × Value)} {cs : Array Value} {a b c d e : Value} (h : OwnQ w base q P xs ms) (hb : Blk w g t cs)
    (ht : t ≠ 63 ∧ t ≠ 77 ∧ t ≠ 81 ∧ t ≠ 3 ∧ t ≠ 70) : OwnQ (((((w.setCell ⟨g, 0, none⟩ a).setCell ⟨g, 1, none⟩ b).setCell ⟨g, 2, none⟩ c).setCell ⟨g, 3, none⟩ d).setCell ⟨g, 4, none⟩ e) base q P xs ms :=
  ((((h.put hb ht).put (hb.put 0 a) ht).put ((hb.put 0 a).put 1 b) ht).put (((hb.put 0 a).put 1 b).put 2 c) ht).put ((((hb.put 0 a).put 1 b).put 2 c).put 3 d) ht
theorem OwnQ.at {w : World} {base : Nat} {q : PrV} {P : Pr} {xs : List Value} {ms : List (Int × Value)} (h : OwnQ w base q P xs ms) : PrAt w w.heap.size q P := by
  have q1 := Sees.own h.o1 (by omega)
  have q4 := Sees.own h.o4 (by omega)
  have h4 := own_len2 (f := qv) (fun _ => rfl) h.o4
  refine ⟨?_, own_len2 (fun _ => rfl) h.o2, own_len2 (fun _ => rfl) h.o3, by rw [← h.x4]; exact h4, by have := h.o5.1; simpa using this, fun i M hi => ?_, PairsAt.of (Sees.own h.o2 (by omega)), PairsAt.of (Sees.own h.o3 (by omega)), fun i x hi => ?_, Sees.own h.o5 (by omega),
    by have := h.b1; omega, by have := h.b2; omega, by have := h.b3; omega, by have := h.b4; omega, by have := h.b5; omega, own_room h.o5⟩
  · rw [← h.x1]
    have := h.o1.1
    omega
  · obtain ⟨X, a, b⟩ := h.s1 i M hi
    obtain ⟨b9, o9, e9, hb, hc⟩ := q1 (by intro e; rw [e] at a; simp at a)
    exact ⟨b9, o9, X, e9, hb, hc i X a, b⟩
  · obtain ⟨m, a, b, c⟩ := h.s4 i x hi
    have e0 := flat_get (f := qv) (m := 2) (fun _ => rfl) a (show 0 < 2 by omega)
    have e1 := flat_get (f := qv) (m := 2) (fun _ => rfl) a (show 1 < 2 by omega)
    obtain ⟨b9, o9, e9, hb, hc⟩ := q4 (by intro h0; rw [h0] at e0; simp [qv] at e0)
    exact ⟨b9, o9, m.2, e9, hb, hc _ _ (by rw [show i * 2 = i * 2 + 0 from rfl, e0, ← b]; rfl), hc _ _ (by rw [e1]; rfl), c⟩
end Go.Proofs.YtcnofhlgiffkjaaGreatDoor
