/- A pack of texts: Hold, RSet, Rw. -/
import Derived.Test.YtcnofhlgiffkjaaGreatDoorPh
import Derived.Test.YtcnofhlgiffkjaaGreatDoorPi
import Derived.Test.YtcnofhlgiffkjaaGreatDoorPc
import Derived.Test.YtcnofhlgiffkjaaGreatDoorPb
import Derived.Test.YtcnofhlgiffkjaaGreatDoorPg
/- A problem of the call's own that lies in a block: one more element. -/
namespace Go.Proofs.YtcnofhlgiffkjaaGreatDoor
open Go.RowKit
set_option linter.unusedVariables false
set_option linter.unusedSimpArgs false

/-- A problem of the call's own. -/
structure OwnPr (w : World) (base : Nat) (p : PrV) (P : Pr) : Prop where
  o1 : w.ownsRow base 70 1 p.s1.v p.s1.n (P.elig.map wv)
  o2 : w.ownsRow base 77 2 p.s2.v p.s2.n (P.dif.flatMap pv)
  o3 : w.ownsRow base 77 2 p.s3.v p.s3.n (P.sam.flatMap pv)
  o4 : w.ownsRow base 75 2 p.s4.v p.s4.n (P.mst.flatMap mv)
  o5 : w.ownsRow base 3 1 p.s5.v p.s5.n (P.fix.map iv)
  ap : p.s2.v.ownBlock = none ∨ p.s2.v.ownBlock ≠ p.s3.v.ownBlock
  b1 : p.s1.n ≤ 100
  b2 : p.s2.n ≤ 100
  b3 : p.s3.n ≤ 100
  b4 : p.s4.n ≤ 100
  b5 : p.s5.n ≤ 100
  w1 : ∀ M ∈ P.elig, M < 2 ^ 64
  w4 : ∀ m ∈ P.mst, m.2 < 2 ^ 64
theorem own_on {w w' : World} {base size n : Nat} {e : TypeId} {v : Value} {xs : List Value} (h : w.ownsRow base e size v n xs) (hb : Below w.heap.size w w') : w'.ownsRow base e size v n xs :=
  World.ownsRow.kept (row := none) h ⟨hb.os, hb.tape, hb.output, hb.size, fun k hk _ => hb.block k hk⟩ (by cases v.ownBlock <;> simp)
theorem own_len2 {w : World} {base n : Nat} {α : Type} {f : α → List Value} (hf : ∀ x, (f x).length = 2) {e : TypeId} {v : Value} {l : List α} (h : w.ownsRow base e 2 v n (l.flatMap f)) : l.length = n := by
  have := h.1
  rw [flat_len hf] at this
  omega
theorem own_room {w : World} {base n c size : Nat} {e : TypeId} {A : Option Addr} {xs : List Value} (h : w.ownsRow base e size (.slice A n c) n xs) : n ≤ c := by
  obtain ⟨A', c', e, h1, _⟩ := own_form h
  injection e with _ _ e
  omega
theorem OwnPr.at {w : World} {base : Nat} {p : PrV} {P : Pr} (h : OwnPr w base p P) : RPrAt w w.heap.size p P :=
  ⟨by have := h.o1.1; simpa using this, own_len2 (fun _ => rfl) h.o2, own_len2 (fun _ => rfl) h.o3, own_len2 (fun _ => rfl) h.o4, by have := h.o5.1; simpa using this,
    Sees.own h.o1 (by omega), PairsAt.of (Sees.own h.o2 (by omega)), PairsAt.of (Sees.own h.o3 (by omega)), RMostAt.of (Sees.own h.o4 (by omega)), Sees.own h.o5 (by omega),
    by have := h.b1; omega, by have := h.b2; omega, by have := h.b3; omega, by have := h.b4; omega, by have := h.b5; omega, own_room h.o5, h.w1, h.w4⟩
theorem OwnPr.on {w w' : World} {base : Nat} {p : PrV} {P : Pr} (h : OwnPr w base p P) (hb : Below w.heap.size w w') : OwnPr w' base p P :=
  ⟨own_on h.o1 hb, own_on h.o2 hb, own_on h.o3 hb, own_on h.o4 hb, own_on h.o5 hb, h.ap, h.b1, h.b2, h.b3, h.b4, h.b5, h.w1, h.w4⟩
theorem own_less {w : World} {base base' size n : Nat} {e : TypeId} {v : Value} {xs : List Value} (h : w.ownsRow base e size v n xs) (hb : base' ≤ base) : w.ownsRow base' e size v n xs := by
  refine ⟨h.1, ?_⟩
  rcases h.2 with h | ⟨g, cap, cur, h1, h2, h3⟩
  · exact .inl h
  · exact .inr ⟨g, cap, cur, h1, by omega, h3⟩
theorem OwnPr.less {w : World} {base base' : Nat} {p : PrV} {P : Pr} (h : OwnPr w base p P) (hb : base' ≤ base) : OwnPr w base' p P :=
  ⟨own_less h.o1 hb, own_less h.o2 hb, own_less h.o3 hb, own_less h.o4 hb, own_less h.o5 hb, h.ap, h.b1, h.b2, h.b3, h.b4, h.b5, h.w1, h.w4⟩
theorem rmost_info : (Tryz.prog.info? 75).map (fun i => (i.zero, i.size, i.bytes)) = some (some (.agg #[.int .i64 0, .int .u64 0]), 2, 16) := by kernel_rfl

def PrV.cs (p : PrV) : Array Value := #[p.s1.v, p.s2.v, p.s3.v, p.s4.v, p.s5.v]
/-- It lies in block g. -/
structure Hold (w : World) (base g : Nat) (p : PrV) (P : Pr) : Prop where
  own : OwnPr w base p P
  blk : Blk w g 32 p.cs
theorem Hold.on {w w' : World} {base g : Nat} {p : PrV} {P : Pr} (h : Hold w base g p P) (hb : Below w.heap.size w w') : Hold w' base g p P := ⟨h.own.on hb, h.blk.on hb⟩
theorem own_off {w : World} {B e s g n t : Nat} {v : Value} {xs : List Value} {cs : Array Value} (h : w.ownsRow B e s v n xs) (hb : Blk w g t cs) (hne : e ≠ t) : v.ownBlock ≠ some g := fun hv => by
  obtain ⟨c, f, k⟩ := Lib.ownsRow_kind h g hv
  unfold Blk at hb
  rw [hb] at k
  injection k with k
  injection k with _ k _
  exact hne k.symm
theorem keepRow {w w' : World} {B e s g n t i : Nat} {v u : Value} {xs : List Value} {cs : Array Value} {row : Option Nat} (h : w.ownsRow B e s v n xs) (hg : w.grownBy w' row) (hap : v.ownBlock = none ∨ v.ownBlock ≠ row) (hb : Blk w' g t cs) (hne : e ≠ t) :
    (w'.setCell ⟨g, i, none⟩ u).ownsRow B e s v n xs := by
  have h1 := World.ownsRow.kept h hg hap
  exact ownsRow_setCell_other h1 (a := ⟨g, i, none⟩) (own_off h1 hb hne) u

theorem Hold.add1 {w w' : World} {B g n' c' : Nat} {p : PrV} {P : Pr} {A' : Option Addr} {M : Nat} (h : Hold w B g p P) (ho : w'.ownsRow B 70 1 (.slice A' n' c') n' (P.elig.map wv ++ [.int .u64 (M : Int)])) (hg : w.grownBy w' p.s1.v.ownBlock) (hn : n' ≤ 100) (hM : M < 2 ^ 64) :
    Hold (w'.setCell ⟨g, 0, none⟩ (.slice A' n' c')) B g ⟨⟨A', n', c'⟩, p.s2, p.s3, p.s4, p.s5⟩ ⟨P.elig ++ [M], P.dif, P.sam, P.mst, P.fix⟩ := by
  have hb := h.blk.grown hg (own_off h.own.o1 h.blk (by decide))
  refine ⟨⟨?_, keepRow h.own.o2 hg (own_apart h.own.o2 h.own.o1 (by decide)) hb (by decide), keepRow h.own.o3 hg (own_apart h.own.o3 h.own.o1 (by decide)) hb (by decide), keepRow h.own.o4 hg (own_apart h.own.o4 h.own.o1 (by decide)) hb (by decide), keepRow h.own.o5 hg (own_apart h.own.o5 h.own.o1 (by decide)) hb (by decide), h.own.ap, hn, h.own.b2, h.own.b3, h.own.b4, h.own.b5, ?_, h.own.w4⟩, hb.put 0 _⟩
  · have := ownsRow_setCell_other ho (a := ⟨g, 0, none⟩) (own_off ho hb (by decide)) (.slice A' n' c')
    simp only [List.map_append]
    exact this
  · intro x hx
    rcases List.mem_append.1 hx with h1 | h1
    · exact h.own.w1 x h1
    · simp at h1; subst h1; exact hM
theorem Hold.add5 {w w' : World} {B g n' c' : Nat} {p : PrV} {P : Pr} {A' : Option Addr} {z : Int} (h : Hold w B g p P) (ho : w'.ownsRow B 3 1 (.slice A' n' c') n' (P.fix.map iv ++ [.int .i64 z])) (hg : w.grownBy w' p.s5.v.ownBlock) (hn : n' ≤ 100) :
    Hold (w'.setCell ⟨g, 4, none⟩ (.slice A' n' c')) B g ⟨p.s1, p.s2, p.s3, p.s4, ⟨A', n', c'⟩⟩ ⟨P.elig, P.dif, P.sam, P.mst, P.fix ++ [z]⟩ := by
  have hb := h.blk.grown hg (own_off h.own.o5 h.blk (by decide))
  refine ⟨⟨keepRow h.own.o1 hg (own_apart h.own.o1 h.own.o5 (by decide)) hb (by decide), keepRow h.own.o2 hg (own_apart h.own.o2 h.own.o5 (by decide)) hb (by decide), keepRow h.own.o3 hg (own_apart h.own.o3 h.own.o5 (by decide)) hb (by decide), keepRow h.own.o4 hg (own_apart h.own.o4 h.own.o5 (by decide)) hb (by decide), ?_, h.own.ap, h.own.b1, h.own.b2, h.own.b3, h.own.b4, hn, h.own.w1, h.own.w4⟩, hb.put 4 _⟩
  have := ownsRow_setCell_other ho (a := ⟨g, 4, none⟩) (own_off ho hb (by decide)) (.slice A' n' c')
  simp only [List.map_append]
  exact this
theorem Hold.add4 {w w' : World} {B g n' c' : Nat} {p : PrV} {P : Pr} {A' : Option Addr} {z : Int} {M : Nat} (h : Hold w B g p P) (ho : w'.ownsRow B 75 2 (.slice A' n' c') n' (P.mst.flatMap mv ++ [.int .i64 z, .int .u64 (M : Int)])) (hg : w.grownBy w' p.s4.v.ownBlock) (hn : n' ≤ 100) (hM : M < 2 ^ 64) :
    Hold (w'.setCell ⟨g, 3, none⟩ (.slice A' n' c')) B g ⟨p.s1, p.s2, p.s3, ⟨A', n', c'⟩, p.s5⟩ ⟨P.elig, P.dif, P.sam, P.mst ++ [(z, M)], P.fix⟩ := by
  have hb := h.blk.grown hg (own_off h.own.o4 h.blk (by decide))
  refine ⟨⟨keepRow h.own.o1 hg (own_apart h.own.o1 h.own.o4 (by decide)) hb (by decide), keepRow h.own.o2 hg (own_apart h.own.o2 h.own.o4 (by decide)) hb (by decide), keepRow h.own.o3 hg (own_apart h.own.o3 h.own.o4 (by decide)) hb (by decide), ?_, keepRow h.own.o5 hg (own_apart h.own.o5 h.own.o4 (by decide)) hb (by decide), h.own.ap, h.own.b1, h.own.b2, h.own.b3, hn, h.own.b5, h.own.w1, ?_⟩, hb.put 3 _⟩
  · have := ownsRow_setCell_other ho (a := ⟨g, 3, none⟩) (own_off ho hb (by decide)) (.slice A' n' c')
    simp only [flat_snoc]
    exact this
  · intro x hx
    rcases List.mem_append.1 hx with h1 | h1
    · exact h.own.w4 x h1
    · simp at h1; subst h1; exact hM
theorem Hold.add2 {w w' : World} {B g n' c' : Nat} {p : PrV} {P : Pr} {A' : Option Addr} {x y : Int} (h : Hold w B g p P) (ho : w'.ownsRow B 77 2 (.slice A' n' c') n' (P.dif.flatMap pv ++ [.int .i64 x, .int .i64 y])) (hg : w.grownBy w' p.s2.v.ownBlock) (hn : n' ≤ 100)
    (hk : (Value.slice A' n' c').ownBlock = p.s2.v.ownBlock ∨ (Value.slice A' n' c').ownBlock = some (w.heap.size + 1)) :
    Hold (w'.setCell ⟨g, 1, none⟩ (.slice A' n' c')) B g ⟨p.s1, ⟨A', n', c'⟩, p.s3, p.s4, p.s5⟩ ⟨P.elig, P.dif ++ [(x, y)], P.sam, P.mst, P.fix⟩ := by
  have hb := h.blk.grown hg (own_off h.own.o2 h.blk (by decide))
  have hap : p.s3.v.ownBlock = none ∨ p.s3.v.ownBlock ≠ p.s2.v.ownBlock := by
    rcases h.own.ap with h1 | h1
    · cases h3 : p.s3.v.ownBlock with
      | none => exact .inl rfl
      | some k => right; rw [h1]; simp
    · exact .inr (Ne.symm h1)
  refine ⟨⟨keepRow h.own.o1 hg (own_apart h.own.o1 h.own.o2 (by decide)) hb (by decide), ?_, keepRow h.own.o3 hg hap hb (by decide), keepRow h.own.o4 hg (own_apart h.own.o4 h.own.o2 (by decide)) hb (by decide), keepRow h.own.o5 hg (own_apart h.own.o5 h.own.o2 (by decide)) hb (by decide), ?_, h.own.b1, hn, h.own.b3, h.own.b4, h.own.b5, h.own.w1, h.own.w4⟩, hb.put 1 _⟩
  · have := ownsRow_setCell_other ho (a := ⟨g, 1, none⟩) (own_off ho hb (by decide)) (.slice A' n' c')
    simp only [flat_snoc]
    exact this
  · show (Value.slice A' n' c').ownBlock = none ∨ (Value.slice A' n' c').ownBlock ≠ p.s3.v.ownBlock
    rcases hk with h1 | h1
    · rw [h1]; exact h.own.ap
    · right
      rw [h1]
      intro h3
      have := (h.own.o3.lt _ h3.symm).2
      omega
theorem Hold.add3 {w w' : World} {B g n' c' : Nat} {p : PrV} {P : Pr} {A' : Option Addr} {x y : Int} (h : Hold w B g p P) (ho : w'.ownsRow B 77 2 (.slice A' n' c') n' (P.sam.flatMap pv ++ [.int .i64 x, .int .i64 y])) (hg : w.grownBy w' p.s3.v.ownBlock) (hn : n' ≤ 100)
    (hk : (Value.slice A' n' c').ownBlock = p.s3.v.ownBlock ∨ (Value.slice A' n' c').ownBlock = some (w.heap.size + 1)) :
    Hold (w'.setCell ⟨g, 2, none⟩ (.slice A' n' c')) B g ⟨p.s1, p.s2, ⟨A', n', c'⟩, p.s4, p.s5⟩ ⟨P.elig, P.dif, P.sam ++ [(x, y)], P.mst, P.fix⟩ := by
  have hb := h.blk.grown hg (own_off h.own.o3 h.blk (by decide))
  refine ⟨⟨keepRow h.own.o1 hg (own_apart h.own.o1 h.own.o3 (by decide)) hb (by decide), keepRow h.own.o2 hg h.own.ap hb (by decide), ?_, keepRow h.own.o4 hg (own_apart h.own.o4 h.own.o3 (by decide)) hb (by decide), keepRow h.own.o5 hg (own_apart h.own.o5 h.own.o3 (by decide)) hb (by decide), ?_, h.own.b1, h.own.b2, hn, h.own.b4, h.own.b5, h.own.w1, h.own.w4⟩, hb.put 2 _⟩
  · have := ownsRow_setCell_other ho (a := ⟨g, 2, none⟩) (own_off ho hb (by decide)) (.slice A' n' c')
    simp only [flat_snoc]
    exact this
  · show p.s2.v.ownBlock = none ∨ p.s2.v.ownBlock ≠ (Value.slice A' n' c').ownBlock
    rcases hk with h1 | h1
    · rw [h1]; exact h.own.ap
    · cases h2 : p.s2.v.ownBlock with
      | none => exact .inl rfl
      | some k =>
        right
        rw [h1]
        intro h3
        injection h3 with h3
        have := (h.own.o2.lt _ h2).2
        omega
theorem bset5 {B g : Nat} {w w' : World} {a b c d e : Value} (h : Below B w w') (hg : B ≤ g) : Below B w (((((w'.setCell ⟨g, 0, none⟩ a).setCell ⟨g, 1, none⟩ b).setCell ⟨g, 2, none⟩ c).setCell ⟨g, 3, none⟩ d).setCell ⟨g, 4, none⟩ e) :=
  ((((h.setCell (p := ⟨g, 0, none⟩) hg _).setCell (p := ⟨g, 1, none⟩) hg _).setCell (p := ⟨g, 2, none⟩) hg _).setCell (p := ⟨g, 3, none⟩) hg _).setCell (p := ⟨g, 4, none⟩) hg _
theorem blk5 {w : World} {g : Nat} {t : TypeId} {a b c d e a' b' c' d' e' : Value} (h : Blk w g t #[a, b, c, d, e]) : Blk (((((w.setCell ⟨g, 0, none⟩ a').setCell ⟨g, 1, none⟩ b').setCell ⟨g, 2, none⟩ c').setCell ⟨g, 3, none⟩ d').setCell ⟨g, 4, none⟩ e') g t #[a', b', c', d', e'] :=
  ((((h.put 0 a').put 1 b').put 2 c').put 3 d').put 4 e'
theorem own5 {w : World} {B e s n g t : Nat} {v : Value} {xs : List Value} {cs : Array Value} {a' b' c' d' e' : Value} (h : w.ownsRow B e s v n xs) (hb : Blk w g t cs) (hne : e ≠ t) :
    (((((w.setCell ⟨g, 0, none⟩ a').setCell ⟨g, 1, none⟩ b').setCell ⟨g, 2, none⟩ c').setCell ⟨g, 3, none⟩ d').setCell ⟨g, 4, none⟩ e').ownsRow B e s v n xs :=
  have ho := own_off h hb hne
  ownsRow_setCell_other (ownsRow_setCell_other (ownsRow_setCell_other (ownsRow_setCell_other (ownsRow_setCell_other h (a := ⟨g, 0, none⟩) ho _) (a := ⟨g, 1, none⟩) ho _) (a := ⟨g, 2, none⟩) ho _) (a := ⟨g, 3, none⟩) ho _) (a := ⟨g, 4, none⟩) ho _
theorem own_sep {w w' : World} {B B' e e' s s' n n' : Nat} {v v' : Value} {xs xs' : List Value} (h : w.ownsRow B e s v n xs) (h' : w'.ownsRow B' e' s' v' n' xs') (hB : w.heap.size ≤ B') : v.ownBlock = none ∨ v.ownBlock ≠ v'.ownBlock := by
  cases hv : v.ownBlock with
  | none => exact .inl rfl
  | some k =>
    right
    intro h2
    have h3 := (h.lt _ hv).2
    have h4 := (h'.lt _ h2.symm).1
    omega
theorem OwnPr.set5 {w : World} {B g t : Nat} {p : PrV} {P : Pr} {cs : Array Value} {a' b' c' d' e' : Value} (h : OwnPr w B p P) (hb : Blk w g t cs) (h1 : 70 ≠ t) (h2 : 77 ≠ t) (h3 : 75 ≠ t) (h4 : 3 ≠ t) :
    OwnPr (((((w.setCell ⟨g, 0, none⟩ a').setCell ⟨g, 1, none⟩ b').setCell ⟨g, 2, none⟩ c').setCell ⟨g, 3, none⟩ d').setCell ⟨g, 4, none⟩ e') B p P :=
  ⟨own5 h.o1 hb h1, own5 h.o2 hb h2, own5 h.o3 hb h2, own5 h.o4 hb h3, own5 h.o5 hb h4, h.ap, h.b1, h.b2, h.b3, h.b4, h.b5, h.w1, h.w4⟩
theorem ret_rpr {fn : Func} {R : Ending → World → Prop} {a : Act} {w : World} {q : Tmp} (h : fn.results = #[.cell q 32]) (g : Nat) (p : PrV) (hp : a.tmps.getD q undef = .pointer (some ⟨g, 0, none⟩))
    (hb : Blk w g 32 #[p.s1.v, p.s2.v, p.s3.v, p.s4.v, p.s5.v]) (hd : a.defers = []) (hR : R (.returned p.v) w) : bodyPost Tryz.prog fn R .ret a w :=
  bodyPost_ret (results_cell_row h _ w g _ _ _ _ hp hb Tryz.underlying32 rfl (by kernel_rfl)) hd hR
theorem ret_pr {fn : Func} {R : Ending → World → Prop} {a : Act} {w : World} {q : Tmp} (h : fn.results = #[.cell q 37]) (g : Nat) (p : PrV) (hp : a.tmps.getD q undef = .pointer (some ⟨g, 0, none⟩))
    (hb : Blk w g 37 #[p.s1.v, p.s2.v, p.s3.v, p.s4.v, p.s5.v]) (hd : a.defers = []) (hR : R (.returned p.v) w) : bodyPost Tryz.prog fn R .ret a w :=
  bodyPost_ret (results_cell_row h _ w g _ _ _ _ hp hb Tryz.underlying37 rfl (by kernel_rfl)) hd hR
end Go.Proofs.YtcnofhlgiffkjaaGreatDoor
/- The members of a number; the set of a number. Printed by genrset.py. -/
namespace Go.Proofs.YtcnofhlgiffkjaaGreatDoor
open Go.RowKit
set_option linter.unusedVariables false
set_option linter.unusedSimpArgs false

theorem ofL_bit (i : Nat) : ∀ (l : List Nat) (M : Nat), (l.foldl (fun M i => M ||| 1 <<< i) M).testBit i = (M.testBit i || decide (i ∈ l))
  | [], M => by simp
  | a :: l, M => by
    rw [List.foldl_cons, ofL_bit i l, Nat.testBit_or, Nat.one_shiftLeft, Nat.testBit_two_pow, Bool.or_assoc]
    congr 1
    by_cases h : a = i
    · subst h; simp
    · have h' : ¬ i = a := fun e => h e.symm
      simp [h, h']
theorem ofL_memT {n M : Nat} (h : M < 2 ^ n) : ofL (memT n M) = M := by
  apply Nat.eq_of_testBit_eq
  intro i
  unfold ofL
  rw [ofL_bit, Nat.zero_testBit, Bool.false_or]
  unfold memT
  by_cases hi : i < n
  · simp [hi]
  · rw [Nat.testBit_lt_two_pow (Nat.lt_of_lt_of_le h (Nat.pow_le_pow_right (by omega) (by omega)))]
    simp [hi]

set_option maxHeartbeats 4000000 in
set_option maxRecDepth 100000 in
theorem mem01_any (M : Nat) (w : World) (hM : M < 2 ^ 64) :
    Calls Tryz.prog 58 #[.int .u64 (M : Int)] w fun e w' => ∃ A' n' c', e = .returned (.slice A' n' c') ∧ OwnI w' w.heap.size (.slice A' n' c') n' ((memT 64 M).map fun x : Nat => (x : Int)) ∧ n' ≤ 64 ∧ Below w.heap.size w w' := by
  go_enter Tryz.func58, Tryz.ntmps58
  go_wp2_with fail
  go_loopw [3, 4] (fun v3 v4 wr => ∃ (k m c' : Nat) (A' : Option Addr), v4 = .int .i64 k ∧ k ≤ 64 ∧ v3 = .slice A' m c' ∧ m ≤ k ∧ OwnI wr w.heap.size (.slice A' m c') m ((memT k M).map fun x : Nat => (x : Int)) ∧ Below w.heap.size w wr) (fun _ v4 _ => 64 - (intOf v4).toNat)
  case atStart => exact ⟨0, 0, 0, none, rfl, Nat.zero_le _, rfl, Nat.le_refl _, OwnI.nil _ _, Below.refl _ _⟩
  case round =>
    obtain ⟨k, m, c', A', rfl, hk, rfl, hm, ho, hB⟩ := hrel
    by_cases hlt : k < 64
    · have hlt1 : (k : Int) < 64 := by omega
      have hz := hB.size
      have hsucc := memT_succ k M
      have hb8 := bit8 M k
      have hbit : M.testBit k = decide (M / 2 ^ k % 2 = 1) := Nat.testBit_eq_decide_div_mod_eq
      rw [← hbit] at hb8
      by_cases hbt : M.testBit k = true
      · rw [if_pos hbt] at hsucc
        rw [hbt] at hb8
        have Hs := Lib.hid hsucc
        clear hbit hsucc hbt
        go_wp2_with (at_builtin; refine wpL_appI1 _ rfl (.tmp 14) (.tmp 16) rfl wr w.heap.size _ m _ rfl ho _ rfl _ rfl rfl (by omega) hz (m + 1) rfl ?_; intro A6 c6 w5 o6 g6 b5)
        go_roundw
        case rel => exact ⟨k + 1, m + 1, c6, A6, by go_num, by omega, rfl, by omega, by rw [Hs.out, List.map_append]; exact o6, hB.trans b5⟩
        case measure => simp [intOf]; omega
      · have hbf : M.testBit k = false := by simpa using hbt
        rw [if_neg hbt, List.append_nil] at hsucc
        rw [hbf] at hb8
        have Hs := Lib.hid hsucc
        clear hbit hsucc hbt hbf
        go_wp2_with fail
        go_roundw
        case rel => exact ⟨k + 1, m, c', A', by go_num, by omega, rfl, by omega, by rw [Hs.out]; exact ho, hB⟩
        case measure => simp [intOf]; omega
    · have hlt1 : ¬ (k : Int) < 64 := by omega
      go_wp2_with fail
      go_ret
      obtain rfl : k = 64 := by omega
      exact ⟨A', m, c', rfl, ho, hm, hB⟩

set_option maxHeartbeats 4000000 in
set_option maxRecDepth 100000 in
/-- The set of a number. -/
theorem set14_any (M : Nat) (w : World) (hM : M < 2 ^ 64) :
    Calls Tryz.prog 24 #[.int .u64 (M : Int)] w fun e w' => ∃ X, e = .returned (.agg #[X]) ∧ SetAt w' w'.heap.size (.agg #[X]) M ∧ Below w.heap.size w w' := by
  have hs := ofL_memT hM
  have b0 := (Below.refl w.heap.size w).alloc (Nat.le_refl _) (.cells #[.slice none 0 0] 63)
  have bC := Blk.new w 63 #[.slice none 0 0]
  have hmem := mem01_any M (w.alloc (.cells #[.slice none 0 0] 63)) hM
  go_enter Tryz.func24, Tryz.ntmps24
  go_wp2_with fail
  generalize (w.alloc (.cells #[.slice none 0 0] 63)) = w1 at b0 bC hmem ⊢
  refine hmem.mono ?_
  rintro e w2 ⟨A', n', c', rfl, ho, hn, b2⟩
  have bC2 := bC.on b2
  have B2 := b0.trans (b2.mono b0.size)
  go_wp2_with fail
  refine (of_any A' n' c' (memT 64 M) w2 ho.sees (by have := ho.len; simpa using this) (fun i hi => by have := List.mem_range.1 (List.mem_filter.1 hi).1; omega) (by omega)).mono ?_
  rintro e w3 ⟨v', rfl, hS, b3⟩
  rw [hs] at hS
  obtain ⟨A3, n3, c3, rfl, _⟩ := id hS
  have bC3 := bC2.on b3
  have B3 := B2.trans (b3.mono B2.size)
  have y0 : w3.cell? ⟨w.heap.size, 0, none⟩ = some (.slice none 0 0) := (bC3.cell 0).trans rfl
  have f0 := bC3.frozen 0
  go_wp2_with fail
  refine ret_set rfl w.heap.size (.slice A3 n3 c3) rfl (bC3.put 0 _) rfl ?_
  exact ⟨_, rfl, by rw [setCell_size]; exact SetAt.far hS bC3 (by decide), B3.setCell (p := ⟨w.heap.size, 0, none⟩) (Nat.le_refl _) _⟩
end Go.Proofs.YtcnofhlgiffkjaaGreatDoor
/- What stands for a problem, and the problem it stands for. -/
namespace Go.Proofs.YtcnofhlgiffkjaaGreatDoor
open Go.RowKit
set_option linter.unusedVariables false
set_option linter.unusedSimpArgs false

/-- What stands for a problem. -/
structure Rw where
  steps : Nat
  elig : List UInt8
  dif : List (UInt8 × UInt8)
  sam : List (UInt8 × UInt8)
  mst : List (UInt8 × UInt8)
  fix : List UInt8
structure RwV where
  s1 : Sl
  s2 : Sl
  s3 : Sl
  s4 : Sl
  s5 : Sl
def RwV.v (r : RwV) (R : Rw) : Value := .agg #[.int .u8 (R.steps : Int), r.s1.v, r.s2.v, r.s3.v, r.s4.v, r.s5.v]
structure RwAt (w : World) (B : Nat) (r : RwV) (R : Rw) : Prop where
  k0 : R.steps < 256
  l1 : R.elig.length = r.s1.n
  l2 : R.dif.length = r.s2.n
  l3 : R.sam.length = r.s3.n
  l4 : R.mst.length = r.s4.n
  l5 : R.fix.length = r.s5.n
  e1 : Sees w B r.s1.a (R.elig.map bv)
  e2 : Sees w B r.s2.a (R.dif.flatMap pb)
  e3 : Sees w B r.s3.a (R.sam.flatMap pb)
  e4 : Sees w B r.s4.a (R.mst.flatMap pb)
  e5 : Sees w B r.s5.a (R.fix.map bv)
theorem RwAt.below {w w' : World} {B : Nat} {r : RwV} {R : Rw} (h : RwAt w B r R) (hb : Below B w w') : RwAt w' B r R :=
  ⟨h.k0, h.l1, h.l2, h.l3, h.l4, h.l5, h.e1.below hb, h.e2.below hb, h.e3.below hb, h.e4.below hb, h.e5.below hb⟩
theorem RwAt.more {w : World} {B B' : Nat} {r : RwV} {R : Rw} (h : RwAt w B r R) (hb : B ≤ B') : RwAt w B' r R :=
  ⟨h.k0, h.l1, h.l2, h.l3, h.l4, h.l5, h.e1.more hb, h.e2.more hb, h.e3.more hb, h.e4.more hb, h.e5.more hb⟩
theorem RwAt.on {w w' : World} {r : RwV} {R : Rw} (h : RwAt w w.heap.size r R) (hb : Below w.heap.size w w') : RwAt w' w'.heap.size r R := (h.below hb).more hb.size

def rn (R : Rw) : Nat := 1 + R.steps % 5
def mkE (R : Rw) (k : Nat) : Nat := atB R.elig k % 16 * 2
def mkF (R : Rw) (k : Nat) : Int := if 6 ≤ atB R.fix k then 0 else (atB R.fix k : Nat)
def mk1 (n : Nat) (x : UInt8 × UInt8) : Option (Int × Nat) := if x.2.toNat % 2 ^ n = 0 then none else some (1 + ((x.1.toNat % 3 : Nat) : Int), x.2.toNat % 2 ^ n)
def mkP (R : Rw) : Pr := ⟨(List.range (rn R)).map (mkE R), fitL (rn R) (R.dif.take 4), fitL (rn R) (R.sam.take 4), (R.mst.take 3).filterMap (mk1 (rn R)), (List.range (rn R)).map (mkF R)⟩


end Go.Proofs.YtcnofhlgiffkjaaGreatDoor
