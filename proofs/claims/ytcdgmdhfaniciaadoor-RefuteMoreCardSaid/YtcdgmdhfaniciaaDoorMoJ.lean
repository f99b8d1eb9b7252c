/- A problem with another's conditions beside its own: the plain law, and the three rows. -/
import Derived.Test.YtcdgmdhfaniciaaDoorPm
import Derived.Test.YtcdgmdhfaniciaaDoorPo
import Derived.Test.YtcdgmdhfaniciaaDoorPk
namespace Go.Proofs.YtcdgmdhfaniciaaDoor
open Go.RowKit
set_option linter.unusedVariables false
set_option linter.unusedSimpArgs false

def moP (P Q : Pr) : Pr := ⟨P.elig, P.dif ++ Q.dif, P.sam ++ Q.sam, P.mst ++ Q.mst, P.fix⟩
theorem More.mo (P Q : Pr) : More P (moP P Q) := ⟨rfl, rfl, fun x h => List.mem_append_left _ h, fun x h => List.mem_append_left _ h, fun x h => List.mem_append_left _ h⟩
theorem mst_ok (R : Rw) : (mkP R).mst.any (mstBad (rn R)) = false := by
  refine Bool.eq_false_iff.2 fun h => ?_
  obtain ⟨x, hx, hb⟩ := List.any_eq_true.1 h
  obtain ⟨y, _, hy⟩ := List.mem_filterMap.1 (show x ∈ (R.mst.take 3).filterMap (mk1 (rn R)) from hx)
  unfold mk1 at hy
  split at hy
  · cases hy
  · rename_i hne
    injection hy with hy
    subst hy
    rw [mstBad_small] at hb
    simp only [Bool.or_eq_true, decide_eq_true_eq] at hb
    have h1 : y.2.toNat % 2 ^ rn R < 2 ^ rn R := Nat.mod_lt _ (Nat.two_pow_pos _)
    have h2 : y.2.toNat % 2 ^ rn R / 2 ^ rn R = 0 := Nat.div_eq_of_lt h1
    rw [h2] at hb
    omega
theorem chkP_mo {R R' : Rw} (hs : R'.steps = R.steps) : chkP (moP (mkP R) (mkP R')) = 0 := by
  have f := mkP_few R
  have f' := mkP_few R'
  have hn : rn R' = rn R := by unfold rn; rw [hs]
  have hr : 0 < rn R := by unfold rn; omega
  have hr5 : rn R ≤ 5 := by unfold rn; omega
  have hl : (moP (mkP R) (mkP R')).elig.length = rn R := by simp [moP, mkP]
  have hl1 : (mkP R).elig.length = rn R := by simp [mkP]
  have e1 : (moP (mkP R) (mkP R')).elig.any eligBad = false := by
    refine Bool.eq_false_iff.2 fun h => ?_
    obtain ⟨M, hM, hb⟩ := List.any_eq_true.1 h
    obtain ⟨k, _, rfl⟩ := List.mem_map.1 (show M ∈ (List.range (rn R)).map (mkE R) from hM)
    have hlt : mkE R k < 32 := by unfold mkE; omega
    rw [eligBad_small (by omega)] at hb
    simp only [decide_eq_true_eq] at hb
    unfold mkE at hb
    omega
  have e2 : (moP (mkP R) (mkP R')).fix.any fixBad = false := by
    refine Bool.eq_false_iff.2 fun h => ?_
    obtain ⟨u, hu, hb⟩ := List.any_eq_true.1 h
    obtain ⟨k, _, rfl⟩ := List.mem_map.1 (show u ∈ (List.range (rn R)).map (mkF R) from hu)
    unfold fixBad mkF at hb
    simp only [decide_eq_true_eq] at hb
    split at hb <;> omega
  have e3 : chkPairs (rn R) (moP (mkP R) (mkP R')).dif = 0 := chkPairs_zero fun x hx => by
    rcases List.mem_append.1 (show x ∈ (mkP R).dif ++ (mkP R').dif from hx) with h | h
    · exact fitL_ok hr _ x h
    · have h2 := fitL_ok (by rw [hn]; exact hr) _ x (show x ∈ fitL (rn R') (R'.dif.take 4) from h)
      rw [hn] at h2
      exact h2
  have e4 : chkPairs (rn R) (moP (mkP R) (mkP R')).sam = 0 := chkPairs_zero fun x hx => by
    rcases List.mem_append.1 (show x ∈ (mkP R).sam ++ (mkP R').sam from hx) with h | h
    · exact fitL_ok hr _ x h
    · have h2 := fitL_ok (by rw [hn]; exact hr) _ x (show x ∈ fitL (rn R') (R'.sam.take 4) from h)
      rw [hn] at h2
      exact h2
  have e5 : (moP (mkP R) (mkP R')).mst.any (mstBad (rn R)) = false := by
    show ((mkP R).mst ++ (mkP R').mst).any (mstBad (rn R)) = false
    have h2 := mst_ok R'
    rw [hn] at h2
    rw [List.any_append, mst_ok R, h2]
    rfl
  have d1 : (moP (mkP R) (mkP R')).dif.length ≤ 8 := by show ((mkP R).dif ++ (mkP R').dif).length ≤ 8; rw [List.length_append]; have := f.d1; have := f'.d1; omega
  have d2 : (moP (mkP R) (mkP R')).sam.length ≤ 8 := by show ((mkP R).sam ++ (mkP R').sam).length ≤ 8; rw [List.length_append]; have := f.s1; have := f'.s1; omega
  have d3 : (moP (mkP R) (mkP R')).mst.length ≤ 8 := by show ((mkP R).mst ++ (mkP R').mst).length ≤ 8; rw [List.length_append]; have := f.m1; have := f'.m1; omega
  have d4 : (moP (mkP R) (mkP R')).fix.length = rn R := by show (mkP R).fix.length = rn R; rw [f.f1, hl1]
  unfold chkP
  rw [hl, if_neg (by omega), if_neg (by omega), if_neg (by omega), if_neg (by rw [e1]; simp), if_neg (by rw [e2]; simp), if_neg (by rw [e3]; simp), if_neg (by rw [e4]; simp), if_neg (by rw [e5]; simp)]
theorem chkR_mo {R R' : Rw} (hs : R'.steps = R.steps) {l : List Nd} (h : chkR (mkP R) l = (1, 0)) : chkR (moP (mkP R) (mkP R')) l = (1, 0) := by
  rw [chkR_more (More.mo _ _) (chkP_mo hs) (by rw [h]), h]

theorem apS {a b : Option Nat} (h : a = none ∨ a ≠ b) : b = none ∨ b ≠ a := by
  cases b with
  | none => exact .inl rfl
  | some y =>
    right
    rintro rfl
    rcases h with h | h
    · cases h
    · exact h rfl
theorem OwnNs.grown {k : IntKind} {T : TypeId} {w w' : World} {base n B s e m : Nat} {v u : Value} {ys : List NdS} {xs : List Value} (h : OwnNs k T w base v n ys) (ho : w.ownsRow B e s u m xs) (hg : w.grownBy w' u.ownBlock) (h1 : T ≠ e) (h2 : 3 ≠ e) : OwnNs k T w' base v n ys :=
  ⟨World.ownsRow.kept h.row hg (own_apart h.row ho h1), fun y hy => (h.nd y hy).grown hg (own_apart (h.nd y hy).ch ho h2) (own_apart (h.nd y hy).st ho h2)⟩

/-- The problem's rows, its block, the block and the rows of the nodes. -/
structure MoW (w : World) (B g7 g8 : Nat) (cs7 : Array Value) (p : PrV) (P : Pr) (A : Option Addr) (n c : Nat) (ys : List NdS) : Prop where
  op : OwnPr w B p P
  k7 : Blk w g7 39 cs7
  k8 : Blk w g8 53 #[.slice A n c]
  ns : OwnNs .u8 90 w B (.slice A n c) n ys
theorem MoW.two {w w1 : World} {B g7 g8 n c n' c' : Nat} {cs7 : Array Value} {p : PrV} {P : Pr} {A A' : Option Addr} {ys : List NdS} {xs : List (Int × Int)} (h : MoW w B g7 g8 cs7 p P A n c ys)
    (o : w1.ownsRow B 98 2 (.slice A' n' c') n' (P.dif.flatMap pv ++ xs.flatMap pv)) (hg : w.grownBy w1 p.s2.v.ownBlock) (hk : (Value.slice A' n' c').ownBlock = p.s2.v.ownBlock ∨ (Value.slice A' n' c').ownBlock = some w.heap.size) (hn : n' ≤ 100) :
    MoW w1 B g7 g8 cs7 ⟨p.s1, ⟨A', n', c'⟩, p.s3, p.s4, p.s5⟩ ⟨P.elig, P.dif ++ xs, P.sam, P.mst, P.fix⟩ A n c ys := by
  have q := h.op
  refine ⟨⟨World.ownsRow.kept q.o1 hg (own_apart q.o1 q.o2 (by decide)), by rw [List.flatMap_append]; exact o, World.ownsRow.kept q.o3 hg (apS q.ap), World.ownsRow.kept q.o4 hg (own_apart q.o4 q.o2 (by decide)), World.ownsRow.kept q.o5 hg (own_apart q.o5 q.o2 (by decide)), ?_, q.b1, hn, q.b3, q.b4, q.b5, q.w1, q.w4⟩,
    h.k7.grown hg (own_off q.o2 h.k7 (by decide)), h.k8.grown hg (own_off q.o2 h.k8 (by decide)), h.ns.grown q.o2 hg (by decide) (by decide)⟩
  show (Value.slice A' n' c').ownBlock = none ∨ (Value.slice A' n' c').ownBlock ≠ p.s3.v.ownBlock
  rcases hk with hk | hk
  · rw [hk]; exact q.ap
  · rw [hk]
    right
    intro e
    have := (q.o3.lt _ e.symm).2
    omega
theorem MoW.three {w w1 : World} {B g7 g8 n c n' c' : Nat} {cs7 : Array Value} {p : PrV} {P : Pr} {A A' : Option Addr} {ys : List NdS} {xs : List (Int × Int)} (h : MoW w B g7 g8 cs7 p P A n c ys)
    (o : w1.ownsRow B 98 2 (.slice A' n' c') n' (P.sam.flatMap pv ++ xs.flatMap pv)) (hg : w.grownBy w1 p.s3.v.ownBlock) (hk : (Value.slice A' n' c').ownBlock = p.s3.v.ownBlock ∨ (Value.slice A' n' c').ownBlock = some w.heap.size) (hn : n' ≤ 100) :
    MoW w1 B g7 g8 cs7 ⟨p.s1, p.s2, ⟨A', n', c'⟩, p.s4, p.s5⟩ ⟨P.elig, P.dif, P.sam ++ xs, P.mst, P.fix⟩ A n c ys := by
  have q := h.op
  refine ⟨⟨World.ownsRow.kept q.o1 hg (own_apart q.o1 q.o3 (by decide)), World.ownsRow.kept q.o2 hg q.ap, by rw [List.flatMap_append]; exact o, World.ownsRow.kept q.o4 hg (own_apart q.o4 q.o3 (by decide)), World.ownsRow.kept q.o5 hg (own_apart q.o5 q.o3 (by decide)), ?_, q.b1, q.b2, hn, q.b4, q.b5, q.w1, q.w4⟩,
    h.k7.grown hg (own_off q.o3 h.k7 (by decide)), h.k8.grown hg (own_off q.o3 h.k8 (by decide)), h.ns.grown q.o3 hg (by decide) (by decide)⟩
  show p.s2.v.ownBlock = none ∨ p.s2.v.ownBlock ≠ (Value.slice A' n' c').ownBlock
  rcases hk with hk | hk
  · rw [hk]; exact q.ap
  · rw [hk]
    right
    intro e
    have := (q.o2.lt _ e).2
    omega
theorem MoW.four {w w1 : World} {B g7 g8 n c n' c' : Nat} {cs7 : Array Value} {p : PrV} {P : Pr} {A A' : Option Addr} {ys : List NdS} {xs : List (Int × Nat)} (h : MoW w B g7 g8 cs7 p P A n c ys)
    (o : w1.ownsRow B 101 2 (.slice A' n' c') n' (P.mst.flatMap mv ++ xs.flatMap mv)) (hg : w.grownBy w1 p.s4.v.ownBlock) (hn : n' ≤ 100) (hx : ∀ m ∈ xs, m.2 < 2 ^ 64) :
    MoW w1 B g7 g8 cs7 ⟨p.s1, p.s2, p.s3, ⟨A', n', c'⟩, p.s5⟩ ⟨P.elig, P.dif, P.sam, P.mst ++ xs, P.fix⟩ A n c ys := by
  have q := h.op
  exact ⟨⟨World.ownsRow.kept q.o1 hg (own_apart q.o1 q.o4 (by decide)), World.ownsRow.kept q.o2 hg (own_apart q.o2 q.o4 (by decide)), World.ownsRow.kept q.o3 hg (own_apart q.o3 q.o4 (by decide)), by rw [List.flatMap_append]; exact o, World.ownsRow.kept q.o5 hg (own_apart q.o5 q.o4 (by decide)), q.ap, q.b1, q.b2, q.b3, hn, q.b5, q.w1, fun m hm => by
      rcases List.mem_append.1 hm with h1 | h1
      · exact q.w4 m h1
      · exact hx m h1⟩,
    h.k7.grown hg (own_off q.o4 h.k7 (by decide)), h.k8.grown hg (own_off q.o4 h.k8 (by decide)), h.ns.grown q.o4 hg (by decide) (by decide)⟩
theorem MoW.put {w : World} {B g7 g8 n c : Nat} {cs7 : Array Value} {p : PrV} {P : Pr} {A : Option Addr} {ys : List NdS} (h : MoW w B g7 g8 cs7 p P A n c ys) (i : Nat) (u : Value) :
    MoW (w.setCell ⟨g7, i, none⟩ u) B g7 g8 (cs7.setIfInBounds i u) p P A n c ys := by
  have q := h.op
  have k := h.k7
  have hne : g8 ≠ g7 := h.k8.apart k (by decide)
  exact ⟨⟨ownsRow_setCell_other q.o1 (a := ⟨g7, i, none⟩) (own_off q.o1 k (by decide)) u, ownsRow_setCell_other q.o2 (a := ⟨g7, i, none⟩) (own_off q.o2 k (by decide)) u, ownsRow_setCell_other q.o3 (a := ⟨g7, i, none⟩) (own_off q.o3 k (by decide)) u, ownsRow_setCell_other q.o4 (a := ⟨g7, i, none⟩) (own_off q.o4 k (by decide)) u, ownsRow_setCell_other q.o5 (a := ⟨g7, i, none⟩) (own_off q.o5 k (by decide)) u, q.ap, q.b1, q.b2, q.b3, q.b4, q.b5, q.w1, q.w4⟩,
    k.put i u, h.k8.far (p := ⟨g7, i, none⟩) hne u, h.ns.put k (by decide) (by decide) u⟩
theorem OwnPr.off {w : World} {B g i t : Nat} {p : PrV} {P : Pr} {cs : Array Value} (q : OwnPr w B p P) (k : Blk w g t cs) (h1 : 99 ≠ t) (h2 : 98 ≠ t) (h3 : 101 ≠ t) (h4 : 3 ≠ t) (u : Value) : OwnPr (w.setCell ⟨g, i, none⟩ u) B p P :=
  ⟨ownsRow_setCell_other q.o1 (a := ⟨g, i, none⟩) (own_off q.o1 k h1) u, ownsRow_setCell_other q.o2 (a := ⟨g, i, none⟩) (own_off q.o2 k h2) u, ownsRow_setCell_other q.o3 (a := ⟨g, i, none⟩) (own_off q.o3 k h2) u, ownsRow_setCell_other q.o4 (a := ⟨g, i, none⟩) (own_off q.o4 k h3) u, ownsRow_setCell_other q.o5 (a := ⟨g, i, none⟩) (own_off q.o5 k h4) u, q.ap, q.b1, q.b2, q.b3, q.b4, q.b5, q.w1, q.w4⟩
/-- A store into a box of Raw. -/
theorem MoW.box {w : World} {B g7 g8 n c g : Nat} {cs7 cs : Array Value} {p : PrV} {P : Pr} {A : Option Addr} {ys : List NdS} (h : MoW w B g7 g8 cs7 p P A n c ys) (hb : Blk w g 25 cs) (i : Nat) (u : Value) :
    MoW (w.setCell ⟨g, i, none⟩ u) B g7 g8 cs7 p P A n c ys :=
  ⟨h.op.off hb (by decide) (by decide) (by decide) (by decide) u, h.k7.far (p := ⟨g, i, none⟩) (h.k7.apart hb (by decide)) u, h.k8.far (p := ⟨g, i, none⟩) (h.k8.apart hb (by decide)) u, h.ns.put hb (by decide) (by decide) u⟩
theorem MoW.on {w w' : World} {B g7 g8 n c : Nat} {cs7 : Array Value} {p : PrV} {P : Pr} {A : Option Addr} {ys : List NdS} (h : MoW w B g7 g8 cs7 p P A n c ys) (hb : Below w.heap.size w w') : MoW w' B g7 g8 cs7 p P A n c ys :=
  ⟨h.op.on hb, h.k7.on hb, h.k8.on hb, h.ns.on hb⟩
theorem oneCell_mv (l : List (Int × Nat)) : ∀ u ∈ l.flatMap mv, u.oneCell' = true := by
  intro u hu
  obtain ⟨x, _, h⟩ := List.mem_flatMap.1 hu
  simp only [mv, List.mem_cons, List.not_mem_nil, or_false] at h
  rcases h with rfl | rfl <;> rfl
theorem RwAt.steps {w : World} {B : Nat} {r : RwV} {R : Rw} (h : RwAt w B r R) {s : Nat} (hs : s < 256) : RwAt w B r { R with steps := s } := ⟨hs, h.l1, h.l2, h.l3, h.l4, h.l5, h.e1, h.e2, h.e3, h.e4, h.e5⟩
end Go.Proofs.YtcdgmdhfaniciaaDoor
