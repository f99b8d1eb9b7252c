/- closure.Having and closure.Common at a matrix of one element. (genlb.py) -/
import Derived.Test.YtcnofhlgiffkjaaGreatDoorLaA
import Derived.Test.YtcnofhlgiffkjaaGreatDoorInR
import Derived.Test.YtcnofhlgiffkjaaGreatDoorPi
import Derived.Test.YtcnofhlgiffkjaaGreatDoorPl
import Derived.Deep.CutBlock
import Derived.Sort.CutIn
namespace Go.Proofs.YtcnofhlgiffkjaaGreatDoor
open Go.RowKit
set_option linter.unusedVariables false
set_option linter.unusedSimpArgs false
attribute [local go_sem] Oper.semAt_some

theorem Sees.keepB {w w' : World} {B B' : Nat} {A : Option Addr} {xs : List Value} (h : Sees w B A xs) (hb : Below B' w w') (h0 : Sees w B' A xs) : Sees w' B A xs := fun hn => by
  obtain ⟨b, o, e, h1, h2⟩ := h hn
  obtain ⟨b', o', e', h1', h2'⟩ := h0 hn
  rw [e] at e'
  injection e' with e'
  injection e' with e1 e2 _
  subst e1 e2
  exact ⟨b, o, e, h1, fun j u hu => (hb.cell (p := ⟨b, o + j, none⟩) h1').trans (h2 j u hu)⟩
theorem SetAt.keepNC {w w' : World} {v : Value} {M : Nat} {row : Option Nat} (h : SetAt w w.heap.size v M) (hg : w.grownBy w' row) (nb : ∀ (j t : Nat) (cs : Array Value), Blk w j t cs → row ≠ some j) : SetAt w' w'.heap.size v M := by
  obtain ⟨A, n, c, rfl, h1, h2, h4, s, r⟩ := h
  refine ⟨A, n, c, rfl, h1, h2, h4, fun hn => ?_, fun b o e h0 => ?_⟩
  · obtain ⟨b, o, e, hb, hc⟩ := s hn
    have h0 : n ≠ 0 := by
      rintro rfl
      apply hn
      rw [List.map_eq_nil_iff]
      apply List.eq_nil_of_length_eq_zero
      rw [dg_length]; exact h4
    obtain ⟨cs, k⟩ := r b o e h0
    have hk := hg.block b k.lt (fun e => nb _ _ _ k e.symm)
    exact ⟨b, o, e, Nat.lt_of_lt_of_le hb hg.size, fun j u hu => (World.cell?_of_block (a := ⟨b, o + j, none⟩) hk).trans (hc j u hu)⟩
  · obtain ⟨cs, k⟩ := r b o e h0
    exact ⟨cs, (hg.block b k.lt (fun e => nb _ _ _ k e.symm)).trans k⟩
theorem SetAt.shut {v : Value} {M B : Nat} : ∀ {Ds : List Nat} {w : World}, SetAt w w.heap.size v M → OpenM w B Ds → SetAt (shut w Ds) (shut w Ds).heap.size v M
  | [], w, h, _ => h
  | D :: Ds, w, h, ho => by
    obtain ⟨hn, hb⟩ := ho
    obtain ⟨h1, h2⟩ := List.nodup_cons.1 hn
    obtain ⟨_, hD⟩ := hb D (by simp)
    refine SetAt.shut (Ds := Ds) (w := w.putObj D (.deferred none)) (h.keepNC (grownBy_putObj' w D _) fun j t cs hk e => ?_) ⟨h2, fun E hE => ⟨(hb E (by simp [hE])).1, ?_⟩⟩
    · injection e with e
      subst e
      rw [show w.heap[D]? = some (.cells cs t (0, 0)) from hk] at hD
      cases hD
    · exact (World.putObj_heap_other (by rintro rfl; exact h1 hE)).trans (hb E (by simp [hE])).2
theorem retMs {F : Fence} {n : Nat} {fn : Func} {R : Ending → World → Prop} {a : Act} {w : World} {p : Tmp} {B : Nat} (h : fn.results = #[.cell p 63]) (g : Nat) (u : Value) (hp : a.tmps.getD p undef = .pointer (some ⟨g, 0, none⟩))
    (hb : Blk w g 63 #[u]) (Ds : List Nat) (hd : a.defers = Ds.map markOf) (ho : OpenM w B Ds) (hR : R (.returned (.agg #[u])) (shut w Ds)) : bodyPostM F n Tryz.prog fn R .ret a w := by
  show LeavesInM F n Tryz.prog fn a.tmps R a.defers .returning w
  rw [hd]
  exact shut_leaves Ds w ho ⟨.agg #[u], results_cell_row h _ _ g _ _ _ _ hp (shut_blk Ds w hb ho) Tryz.underlying63 rfl (by kernel_rfl), hR⟩
/-- What the rounds keep: the box holds the one set. -/
structure HvJ (W0 W : World) (gO : Nat) : Prop where
  box : ∃ A n c, Blk W gO 63 #[.slice A n c] ∧ SetAt W W.heap.size (.agg #[.slice A n c]) 1
  bel : Below gO W0 W
theorem HvJ.own_from {W0 : World} {gO N : Nat} (hgO : gO ≤ W0.heap.size) : OwnFrom W0.heap.size (fun (pre : List (Mb N)) W => HvJ W0 W gO) := fun s A B' row hs hg hr => by
  obtain ⟨⟨A1, n, c, b, sA⟩, bl⟩ := hs
  have nb : ∀ (j t : Nat) (cs : Array Value), Blk A j t cs → row ≠ some j := fun j t cs hb e => by
    obtain ⟨_, o, ho, hc⟩ := hr j e
    rw [show A.heap[j]? = some (.cells cs t (0, 0)) from hb] at ho
    injection ho with ho
    subst ho
    cases hc
  exact ⟨⟨A1, n, c, (hg.block gO b.lt (fun e => nb _ _ _ b e.symm)).trans b, sA.keepNC hg nb⟩, bl.trans ((Below.refl gO A).grown hg (Nat.le_of_lt b.lt) fun r e => Nat.le_trans hgO (hr r e).1)⟩
set_option maxHeartbeats 16000000 in
set_option maxRecDepth 100000 in
theorem having1 (g N : Nat) (v : Value) (w : World) (hM : MxAt w g) (hN : N ≤ 1) (h : SetAt w w.heap.size v N) (hT : Tab w) :
    Calls Tryz.prog 87 #[.pointer (some ⟨g, 0, none⟩), v] w fun e w' => ∃ v', e = .returned v' ∧ SetAt w' w'.heap.size v' 1 ∧ Below w.heap.size w w' := by
  have h63 := h
  obtain ⟨A, n, c, rfl, hnc, hn, hl, hs, _⟩ := h
  have hg0 : 0 < w.heap.size := World.block_lt_of_cell? w _ (hT 0 (by omega))
  have hro : (Fence.wide).round = none := rfl
  have h1 : 1 ≤ 5 := by omega
  have bC : Below w.heap.size w (((w.alloc (.cells #[.pointer (some ⟨g, 0, none⟩)] 59)).alloc (.cells #[.slice A n c] 63)).alloc (.cells #[.slice none 0 0] 63)) := bAl (bAl (bAl (Below.refl _ _) _) _) _
  have kA := ((Blk.new w 59 #[.pointer (some ⟨g, 0, none⟩)]).alloc (.cells #[.slice A n c] 63)).alloc (.cells #[.slice none 0 0] 63)
  have kB := (Blk.new (w.alloc (.cells #[.pointer (some ⟨g, 0, none⟩)] 59)) 63 #[.slice A n c]).alloc (.cells #[.slice none 0 0] 63)
  have kR := Blk.new ((w.alloc (.cells #[.pointer (some ⟨g, 0, none⟩)] 59)).alloc (.cells #[.slice A n c] 63)) 63 #[.slice none 0 0]
  have z2 : ((w.alloc (.cells #[.pointer (some ⟨g, 0, none⟩)] 59)).alloc (.cells #[.slice A n c] 63)).heap.size = w.heap.size + 2 := by simp
  rw [World.size_alloc] at kB
  rw [z2] at kR
  have z3 : (((w.alloc (.cells #[.pointer (some ⟨g, 0, none⟩)] 59)).alloc (.cells #[.slice A n c] 63)).alloc (.cells #[.slice none 0 0] 63)).heap.size = w.heap.size + 3 := by simp
  refine (callsIn_wide (n := 5)).1 ?_
  refine callsIn_of_wp_marks Tryz.func87 rfl trivial ?_ rfl
  simp only [Tryz.ntmps87, List.size_toArray, List.length_cons, List.length_nil, Nat.reduceAdd, Nat.reduceSub, Array.replicate_succ, Array.replicate_zero, List.push_toArray, List.append_toArray, List.nil_append, List.cons_append]
  gi_upto_region 1 with (fail)
  generalize (((w.alloc (.cells #[.pointer (some ⟨g, 0, none⟩)] 59)).alloc (.cells #[.slice A n c] 63)).alloc (.cells #[.slice none 0 0] 63)) = W3 at bC kA kB kR z3 ⊢
  have x0 : W3.cell? ⟨w.heap.size, 0, none⟩ = some (.pointer (some ⟨g, 0, none⟩)) := (kA.cell 0).trans rfl
  have hfi := rows1 g W3 (hM.on bC)
  have hbl : Calls Tryz.prog 53 #[.int .i64 1] W3 fun e w' => ∃ v', e = .returned v' ∧ SetAt w' w'.heap.size v' 1 ∧ Below W3.heap.size W3 w' := below_any 1 W3 (by omega)
  have hz3 : w.heap.size + 2 < W3.heap.size := by omega
  clear z2 z3
  gi_wp2
  refine ⟨trivial, (callsIn_wide.2 hfi).mono ?_⟩
  rintro e w4 ⟨rfl, rfl⟩
  gi_wp2
  refine ⟨trivial, (callsIn_wide.2 hbl).mono ?_⟩
  rintro e w4 ⟨v1, rfl, s1, b4⟩
  obtain ⟨A1, n1, c1, rfl, _⟩ := id s1
  gi_upto_region 2 with (fail)
  have bw4 := bC.trans (b4.mono bC.size)
  have b5 := bAl (Below.refl w4.heap.size w4) (.cells #[.slice A1 n1 c1] 63)
  have kO := Blk.new w4 63 #[.slice A1 n1 c1]
  have kA5 := (kA.on b4).on b5
  have kB5 := (kB.on b4).on b5
  have kR5 := (kR.on b4).on b5
  have s5 := s1.on b5
  have bw5 := bw4.trans (b5.mono bw4.size)
  have hz4 : w.heap.size + 2 < w4.heap.size := Nat.lt_of_lt_of_le hz3 b4.size
  obtain ⟨gO, hgO⟩ : ∃ gO, gO = w4.heap.size := ⟨_, rfl⟩
  rw [← hgO] at kO hz4 ⊢
  clear hgO
  generalize (w4.alloc (.cells #[.slice A1 n1 c1] 63)) = W5 at b5 kO kA5 kB5 kR5 s5 bw5 ⊢
  have x3 : W5.cell? ⟨w.heap.size + 1, 0, none⟩ = some (.slice A n c) := (kB5.cell 0).trans rfl
  clear kA kB kR s1 x0 hfi hbl b4 bw4 b5 bC hz3
  gi_wp2
  refine ⟨trivial, (allF_any _ _ _ _ trivial rfl).mono ?_⟩
  rintro e w6 ⟨rfl, rfl⟩
  gi_wp2
  have bN := Boxed.new W5 63 (.slice A n c)
  have b6 := bAl (Below.refl W5.heap.size W5) (.cells #[.slice A n c] 63)
  have z6 : (W5.alloc (.cells #[.slice A n c] 63)).heap.size = W5.heap.size + 1 := by simp
  have kO6 := kO.on b6
  have kA6 := kA5.on b6
  have kR6 := kR5.on b6
  have s6 := s5.on b6
  have bw6 := bw5.trans (b6.mono bw5.size)
  have hOl := kO.lt
  clear kO kA5 kB5 kR5 s5 x3 b6
  obtain ⟨W6, hW6⟩ : ∃ W6, W6 = (W5.alloc (.cells #[.slice A n c] 63)) := ⟨_, rfl⟩
  rw [← hW6] at bN z6 kO6 kA6 kR6 s6 bw6 ⊢
  clear hW6
  refine wpIn_rangeFunc_ownG hro h1 (gf := 96) (lb := #[.pointer (some ⟨W5.heap.size, 0, none⟩)]) rfl trivial (enters_of Tryz.func96 (by kernel_rfl) rfl)
    (all_stopsM W5.heap.size gO n c N A 4 (by omega) hnc hn hl (Nat.lt_of_lt_of_le hg0 (by omega)) W6 (by omega) (by omega) bN.cell ((hs.more (by omega : w.heap.size ≤ gO)).keepB bw6 hs) (hT.below bw6 hg0)) belowK_t (belowK_b (by omega)) (Below.refl _ _) (fun _ => rfl)
    (fun (pre : List (Mb N)) W => HvJ W6 W gO) (fun _ _ _ => False)
    (HvJ.own_from (by omega)) (fun c => fun s A B' row hs hg hr => hs.elim) ⟨⟨A1, n1, c1, kO6, s6⟩, Below.refl _ _⟩
    (fun x : Mb N => { tmps := #[.pointer (some ⟨g, 0, none⟩), .agg #[.slice A n c], .pointer (some ⟨w.heap.size, 0, none⟩), .pointer (some ⟨w.heap.size + 1, 0, none⟩), .pointer (some ⟨w.heap.size + 2, 0, none⟩), .pointer (some ⟨gO, 0, none⟩), .int .i64 ((x.1 : Nat) : Int), .pointer (some ⟨g, 0, none⟩), .int .i64 1, .agg #[.slice A1 n1 c1], .agg #[.slice A n c], .func (.func 96) #[] #[.pointer (some ⟨W5.heap.size, 0, none⟩)], .int .i64 ((x.1 : Nat) : Int), undef, undef, undef, undef, undef, undef, undef, undef, undef, undef], defers := [] }) ?assign ?body ?done ?stop
  case assign =>
    intro l x W K hK
    gi_wp2
    exact hK
  case body =>
    rintro l pre x W hJ hlt
    have hx1 : x.1 < 1 := bit_lt (M := N) (n := 1) (by omega) (memM_bit x.2)
    obtain ⟨y, hy⟩ : ∃ y, y = x.1 := ⟨_, rfl⟩
    rw [← hy] at hx1 ⊢
    clear hy
    obtain ⟨⟨A2, n2, c2, k2, s2⟩, bl⟩ := id hJ
    have bwW := bw6.trans (bl.mono (by omega))
    have hMW := hM.on bwW
    have hy1 : (y : Int) < 1 := by omega
    have kA7 := kA6.below bl (by omega)
    have hin := cols1 g W hMW
    have x2 : W.cell? ⟨w.heap.size, 0, none⟩ = some (.pointer (some ⟨g, 0, none⟩)) := (kA7.cell 0).trans rfl
    gi_wp2
    refine ⟨trivial, (CallsIn.inRound l (callsIn_wide.2 hin)).mono ?_⟩
    rintro e w7 ⟨rfl, rfl⟩
    gi_upto_region 5 with (fail)
    obtain ⟨SS, hSS⟩ : ∃ S : World → Prop, S = (fun V => V.cell? ⟨gO, 0, none⟩ = some (.slice A2 n2 c2) ∧ V.cell? ⟨w.heap.size, 0, none⟩ = some (.pointer (some ⟨g, 0, none⟩))) := ⟨_, rfl⟩
    have x5 : W.cell? ⟨gO, 0, none⟩ = some (.slice A2 n2 c2) := (k2.cell 0).trans rfl
    refine wpIn_region_F (fun i => decide (5 ≤ i)) SS (by kernel_rfl) (fun ⟨a, w, h⟩ => h) (by kernel_rfl) (by rw [hSS]; exact ⟨x5, x2⟩) (fun hHeld => ?_)
    have hgW := k2.lt
    have bd : Below W.heap.size W W.drew := (Below.refl _ _).drew
    have zd : W.drew.heap.size = W.heap.size := rfl
    have k2 := k2.on bd
    have s2 := s2.on bd
    have kA7 := kA7.on bd
    have hMW := hMW.on bd
    clear x2 x5 hin
    generalize W.drew = u1 at bd zd k2 s2 kA7 hMW hHeld ⊢
    refine wpAnyF_take (i := 0) (v := ?_) rfl (by kernel_rfl) (by kernel_rfl) (by kernel_rfl) (by kernel_rfl) (fun _ _ _ h => h) hHeld (Or.inl ⟨by rfl, ?_⟩) ?_
    rotate_left
    · (intro w hSw; (try rw [hSS] at hSw); (try dsimp only at hSw); go_simp; try with_reducible rfl)
    try simp only [Act.put, List.getElem_toArray, List.getElem_cons_zero, List.getElem_cons_succ, List.setIfInBounds_toArray, List.set_cons_zero, List.set_cons_succ]
    refine wpAnyF_take (i := 1) (v := ?_) rfl (by kernel_rfl) (by kernel_rfl) (by kernel_rfl) (by kernel_rfl) (fun _ _ _ h => h) hHeld (Or.inl ⟨by rfl, ?_⟩) ?_
    rotate_left
    · (intro w hSw; (try rw [hSS] at hSw); (try dsimp only at hSw); go_simp; try with_reducible rfl)
    try simp only [Act.put, List.getElem_toArray, List.getElem_cons_zero, List.getElem_cons_succ, List.setIfInBounds_toArray, List.set_cons_zero, List.set_cons_succ]
    refine wpAnyF_take (i := 2) (v := ?_) rfl (by kernel_rfl) (by kernel_rfl) (by kernel_rfl) (by kernel_rfl) (fun _ _ _ h => h) hHeld (Or.inl ⟨by rfl, ?_⟩) ?_
    rotate_left
    · (intro w hSw; (try rw [hSS] at hSw); (try dsimp only at hSw); go_simp; try with_reducible rfl)
    try simp only [Act.put, List.getElem_toArray, List.getElem_cons_zero, List.getElem_cons_succ, List.setIfInBounds_toArray, List.set_cons_zero, List.set_cons_succ]
    refine wpAnyF_one (i := 3) (by kernel_rfl) rfl (fun K hK => ?_)
    go_simp
    go_at_call 104
    refine (column1 g y u1 hMW hx1).mono ?_
    rintro e u2 ⟨v3, rfl, s3, b3⟩
    try simp only []
    have k3 := k2.on b3
    have s23 := s2.on b3
    have kA8 := kA7.on b3
    have b13 := bd.trans (b3.mono (Nat.le_of_eq zd.symm))
    have S3 : SS u2 := by rw [hSS]; exact ⟨(k3.cell 0).trans rfl, (kA8.cell 0).trans rfl⟩
    refine hK.out _ _ (Or.inr S3) ?_
    clear hK K
    try simp only [Act.put, List.getElem_toArray, List.getElem_cons_zero, List.getElem_cons_succ, List.setIfInBounds_toArray, List.set_cons_zero, List.set_cons_succ]
    refine wpAnyF_one (i := 4) (by kernel_rfl) rfl (fun K hK => ?_)
    go_simp
    go_at_call 102
    refine (and1 _ _ u2 s23 s3).mono ?_
    rintro e u3 ⟨v4, rfl, s4, b4⟩
    obtain ⟨A4, n4, c4, rfl, _⟩ := id s4
    try simp only []
    have k4 := k3.on b4
    have kA9 := kA8.on b4
    have b14 := b13.trans (b4.mono b13.size)
    have S4 : SS u3 := by rw [hSS]; exact ⟨(k4.cell 0).trans rfl, (kA9.cell 0).trans rfl⟩
    refine hK.out _ _ (Or.inr S4) ?_
    clear hK K
    try simp only [Act.put, List.getElem_toArray, List.getElem_cons_zero, List.getElem_cons_succ, List.setIfInBounds_toArray, List.set_cons_zero, List.set_cons_succ]
    have c4' : u3.cell? ⟨gO, 0, none⟩ = some (.slice A2 n2 c2) := (k4.cell 0).trans rfl
    have f4 := k4.frozen 0
    refine wpAnyF_one (i := 5) (by kernel_rfl) rfl (fun K hK => ?_)
    go_simp
    refine hK.out _ _ (Or.inl rfl) ?_
    clear hK K
    try simp only [Act.put, List.getElem_toArray, List.getElem_cons_zero, List.getElem_cons_succ, List.setIfInBounds_toArray, List.set_cons_zero, List.set_cons_succ]
    refine wpAnyF_done (by kernel_rfl) ?_ _
    have k5 : Blk (u3.setCell ⟨gO, 0, none⟩ (.slice A4 n4 c4)) gO 63 #[.slice A4 n4 c4] := by simpa using k4.put 0 (.slice A4 n4 c4)
    have s5 : SetAt (u3.setCell ⟨gO, 0, none⟩ (.slice A4 n4 c4)) (u3.setCell ⟨gO, 0, none⟩ (.slice A4 n4 c4)).heap.size (.agg #[.slice A4 n4 c4]) 1 := by rw [setCell_size]; exact s4.far k4 (by decide)
    have hb5 : Below gO W (u3.setCell ⟨gO, 0, none⟩ (.slice A4 n4 c4)) := (show Below gO W u3 from b14.mono (Nat.le_of_lt hgW)).setCell (p := ⟨gO, 0, none⟩) (Nat.le_refl _) _
    have hk5 : KeepsFrom W6.heap.size W (u3.setCell ⟨gO, 0, none⟩ (.slice A4 n4 c4)) := KeepsFrom.trans (Y := u3) ⟨b14.size, fun j o _ hj _ => (b14.block j (Array.getElem?_eq_some_iff.1 hj).1).trans hj⟩ ((KeepsOthers.setCell _ _ _).from _)
    exact ⟨hk5, hb5, ⟨A4, n4, c4, k5, s5⟩, bl.trans hb5⟩
  case done =>
    rintro D ys W hD hys hJ hK
    obtain ⟨⟨A2, n2, c2, k2, s2⟩, bl⟩ := (show HvJ W6 W gO from hJ)
    have kR7 := kR6.below bl (by omega)
    have x4 : W.cell? ⟨w.heap.size + 2, 0, none⟩ = some (.slice none 0 0) := (kR7.cell 0).trans rfl
    have f4 := kR7.frozen 0
    have x5 : W.cell? ⟨gO, 0, none⟩ = some (.slice A2 n2 c2) := (k2.cell 0).trans rfl
    have hD' : w.heap.size + 2 < D := by omega
    have bwW := bw6.trans (bl.mono (by omega))
    gi_wp2
    have kS : Blk (W.setCell ⟨w.heap.size + 2, 0, none⟩ (.slice A2 n2 c2)) (w.heap.size + 2) 63 #[.slice A2 n2 c2] := by simpa using kR7.put 0 (.slice A2 n2 c2)
    have sS : SetAt (W.setCell ⟨w.heap.size + 2, 0, none⟩ (.slice A2 n2 c2)) (W.setCell ⟨w.heap.size + 2, 0, none⟩ (.slice A2 n2 c2)).heap.size (.agg #[.slice A2 n2 c2]) 1 := by rw [setCell_size]; exact s2.far kR7 (by decide)
    have bS : Below w.heap.size w (W.setCell ⟨w.heap.size + 2, 0, none⟩ (.slice A2 n2 c2)) := bwW.setCell (p := ⟨w.heap.size + 2, 0, none⟩) (by simp) _
    have hoS : OpenM (W.setCell ⟨w.heap.size + 2, 0, none⟩ (.slice A2 n2 c2)) w.heap.size [D] := ⟨by simp, fun E hE => by
      obtain rfl : E = D := by simpa using hE
      exact ⟨by omega, (Below.heap_setCell W _ _ E (by simp only []; omega)).trans hK⟩⟩
    refine retMs rfl (w.heap.size + 2) (.slice A2 n2 c2) rfl kS [D] rfl hoS ?_
    exact ⟨_, rfl, sS.shut hoS, shut_below [D] w _ bS hoS⟩
  case stop =>
    rintro D c pre W _ _ h _
    exact h.elim
set_option maxHeartbeats 16000000 in
set_option maxRecDepth 100000 in
theorem common1 (g N : Nat) (v : Value) (w : World) (hM : MxAt w g) (hN : N ≤ 1) (h : SetAt w w.heap.size v N) (hT : Tab w) :
    Calls Tryz.prog 86 #[.pointer (some ⟨g, 0, none⟩), v] w fun e w' => ∃ v', e = .returned v' ∧ SetAt w' w'.heap.size v' 1 ∧ Below w.heap.size w w' := by
  have h63 := h
  obtain ⟨A, n, c, rfl, hnc, hn, hl, hs, _⟩ := h
  have hg0 : 0 < w.heap.size := World.block_lt_of_cell? w _ (hT 0 (by omega))
  have hro : (Fence.wide).round = none := rfl
  have h1 : 1 ≤ 5 := by omega
  have bC : Below w.heap.size w (((w.alloc (.cells #[.pointer (some ⟨g, 0, none⟩)] 59)).alloc (.cells #[.slice A n c] 63)).alloc (.cells #[.slice none 0 0] 63)) := bAl (bAl (bAl (Below.refl _ _) _) _) _
  have kA := ((Blk.new w 59 #[.pointer (some ⟨g, 0, none⟩)]).alloc (.cells #[.slice A n c] 63)).alloc (.cells #[.slice none 0 0] 63)
  have kB := (Blk.new (w.alloc (.cells #[.pointer (some ⟨g, 0, none⟩)] 59)) 63 #[.slice A n c]).alloc (.cells #[.slice none 0 0] 63)
  have kR := Blk.new ((w.alloc (.cells #[.pointer (some ⟨g, 0, none⟩)] 59)).alloc (.cells #[.slice A n c] 63)) 63 #[.slice none 0 0]
  have z2 : ((w.alloc (.cells #[.pointer (some ⟨g, 0, none⟩)] 59)).alloc (.cells #[.slice A n c] 63)).heap.size = w.heap.size + 2 := by simp
  rw [World.size_alloc] at kB
  rw [z2] at kR
  have z3 : (((w.alloc (.cells #[.pointer (some ⟨g, 0, none⟩)] 59)).alloc (.cells #[.slice A n c] 63)).alloc (.cells #[.slice none 0 0] 63)).heap.size = w.heap.size + 3 := by simp
  refine (callsIn_wide (n := 5)).1 ?_
  refine callsIn_of_wp_marks Tryz.func86 rfl trivial ?_ rfl
  simp only [Tryz.ntmps86, List.size_toArray, List.length_cons, List.length_nil, Nat.reduceAdd, Nat.reduceSub, Array.replicate_succ, Array.replicate_zero, List.push_toArray, List.append_toArray, List.nil_append, List.cons_append]
  gi_upto_region 1 with (fail)
  generalize (((w.alloc (.cells #[.pointer (some ⟨g, 0, none⟩)] 59)).alloc (.cells #[.slice A n c] 63)).alloc (.cells #[.slice none 0 0] 63)) = W3 at bC kA kB kR z3 ⊢
  have x0 : W3.cell? ⟨w.heap.size, 0, none⟩ = some (.pointer (some ⟨g, 0, none⟩)) := (kA.cell 0).trans rfl
  have hfi := cols1 g W3 (hM.on bC)
  have hbl : Calls Tryz.prog 53 #[.int .i64 1] W3 fun e w' => ∃ v', e = .returned v' ∧ SetAt w' w'.heap.size v' 1 ∧ Below W3.heap.size W3 w' := below_any 1 W3 (by omega)
  have hz3 : w.heap.size + 2 < W3.heap.size := by omega
  clear z2 z3
  gi_wp2
  refine ⟨trivial, (callsIn_wide.2 hfi).mono ?_⟩
  rintro e w4 ⟨rfl, rfl⟩
  gi_wp2
  refine ⟨trivial, (callsIn_wide.2 hbl).mono ?_⟩
  rintro e w4 ⟨v1, rfl, s1, b4⟩
  obtain ⟨A1, n1, c1, rfl, _⟩ := id s1
  gi_upto_region 2 with (fail)
  have bw4 := bC.trans (b4.mono bC.size)
  have b5 := bAl (Below.refl w4.heap.size w4) (.cells #[.slice A1 n1 c1] 63)
  have kO := Blk.new w4 63 #[.slice A1 n1 c1]
  have kA5 := (kA.on b4).on b5
  have kB5 := (kB.on b4).on b5
  have kR5 := (kR.on b4).on b5
  have s5 := s1.on b5
  have bw5 := bw4.trans (b5.mono bw4.size)
  have hz4 : w.heap.size + 2 < w4.heap.size := Nat.lt_of_lt_of_le hz3 b4.size
  obtain ⟨gO, hgO⟩ : ∃ gO, gO = w4.heap.size := ⟨_, rfl⟩
  rw [← hgO] at kO hz4 ⊢
  clear hgO
  generalize (w4.alloc (.cells #[.slice A1 n1 c1] 63)) = W5 at b5 kO kA5 kB5 kR5 s5 bw5 ⊢
  have x3 : W5.cell? ⟨w.heap.size + 1, 0, none⟩ = some (.slice A n c) := (kB5.cell 0).trans rfl
  clear kA kB kR s1 x0 hfi hbl b4 bw4 b5 bC hz3
  gi_wp2
  refine ⟨trivial, (allF_any _ _ _ _ trivial rfl).mono ?_⟩
  rintro e w6 ⟨rfl, rfl⟩
  gi_wp2
  have bN := Boxed.new W5 63 (.slice A n c)
  have b6 := bAl (Below.refl W5.heap.size W5) (.cells #[.slice A n c] 63)
  have z6 : (W5.alloc (.cells #[.slice A n c] 63)).heap.size = W5.heap.size + 1 := by simp
  have kO6 := kO.on b6
  have kA6 := kA5.on b6
  have kR6 := kR5.on b6
  have s6 := s5.on b6
  have bw6 := bw5.trans (b6.mono bw5.size)
  have hOl := kO.lt
  clear kO kA5 kB5 kR5 s5 x3 b6
  obtain ⟨W6, hW6⟩ : ∃ W6, W6 = (W5.alloc (.cells #[.slice A n c] 63)) := ⟨_, rfl⟩
  rw [← hW6] at bN z6 kO6 kA6 kR6 s6 bw6 ⊢
  clear hW6
  refine wpIn_rangeFunc_ownG hro h1 (gf := 96) (lb := #[.pointer (some ⟨W5.heap.size, 0, none⟩)]) rfl trivial (enters_of Tryz.func96 (by kernel_rfl) rfl)
    (all_stopsM W5.heap.size gO n c N A 4 (by omega) hnc hn hl (Nat.lt_of_lt_of_le hg0 (by omega)) W6 (by omega) (by omega) bN.cell ((hs.more (by omega : w.heap.size ≤ gO)).keepB bw6 hs) (hT.below bw6 hg0)) belowK_t (belowK_b (by omega)) (Below.refl _ _) (fun _ => rfl)
    (fun (pre : List (Mb N)) W => HvJ W6 W gO) (fun _ _ _ => False)
    (HvJ.own_from (by omega)) (fun c => fun s A B' row hs hg hr => hs.elim) ⟨⟨A1, n1, c1, kO6, s6⟩, Below.refl _ _⟩
    (fun x : Mb N => { tmps := #[.pointer (some ⟨g, 0, none⟩), .agg #[.slice A n c], .pointer (some ⟨w.heap.size, 0, none⟩), .pointer (some ⟨w.heap.size + 1, 0, none⟩), .pointer (some ⟨w.heap.size + 2, 0, none⟩), .pointer (some ⟨gO, 0, none⟩), .int .i64 ((x.1 : Nat) : Int), .pointer (some ⟨g, 0, none⟩), .int .i64 1, .agg #[.slice A1 n1 c1], .agg #[.slice A n c], .func (.func 96) #[] #[.pointer (some ⟨W5.heap.size, 0, none⟩)], .int .i64 ((x.1 : Nat) : Int), undef, undef, undef, undef, undef, undef, undef, undef, undef, undef], defers := [] }) ?assign ?body ?done ?stop
  case assign =>
    intro l x W K hK
    gi_wp2
    exact hK
  case body =>
    rintro l pre x W hJ hlt
    have hx1 : x.1 < 1 := bit_lt (M := N) (n := 1) (by omega) (memM_bit x.2)
    obtain ⟨y, hy⟩ : ∃ y, y = x.1 := ⟨_, rfl⟩
    rw [← hy] at hx1 ⊢
    clear hy
    obtain ⟨⟨A2, n2, c2, k2, s2⟩, bl⟩ := id hJ
    have bwW := bw6.trans (bl.mono (by omega))
    have hMW := hM.on bwW
    have hy1 : (y : Int) < 1 := by omega
    have kA7 := kA6.below bl (by omega)
    have hin := rows1 g W hMW
    have x2 : W.cell? ⟨w.heap.size, 0, none⟩ = some (.pointer (some ⟨g, 0, none⟩)) := (kA7.cell 0).trans rfl
    gi_wp2
    refine ⟨trivial, (CallsIn.inRound l (callsIn_wide.2 hin)).mono ?_⟩
    rintro e w7 ⟨rfl, rfl⟩
    gi_upto_region 5 with (fail)
    obtain ⟨SS, hSS⟩ : ∃ S : World → Prop, S = (fun V => V.cell? ⟨gO, 0, none⟩ = some (.slice A2 n2 c2) ∧ V.cell? ⟨w.heap.size, 0, none⟩ = some (.pointer (some ⟨g, 0, none⟩))) := ⟨_, rfl⟩
    have x5 : W.cell? ⟨gO, 0, none⟩ = some (.slice A2 n2 c2) := (k2.cell 0).trans rfl
    refine wpIn_region_F (fun i => decide (5 ≤ i)) SS (by kernel_rfl) (fun ⟨a, w, h⟩ => h) (by kernel_rfl) (by rw [hSS]; exact ⟨x5, x2⟩) (fun hHeld => ?_)
    have hgW := k2.lt
    have bd : Below W.heap.size W W.drew := (Below.refl _ _).drew
    have zd : W.drew.heap.size = W.heap.size := rfl
    have k2 := k2.on bd
    have s2 := s2.on bd
    have kA7 := kA7.on bd
    have hMW := hMW.on bd
    clear x2 x5 hin
    generalize W.drew = u1 at bd zd k2 s2 kA7 hMW hHeld ⊢
    refine wpAnyF_take (i := 0) (v := ?_) rfl (by kernel_rfl) (by kernel_rfl) (by kernel_rfl) (by kernel_rfl) (fun _ _ _ h => h) hHeld (Or.inl ⟨by rfl, ?_⟩) ?_
    rotate_left
    · (intro w hSw; (try rw [hSS] at hSw); (try dsimp only at hSw); go_simp; try with_reducible rfl)
    try simp only [Act.put, List.getElem_toArray, List.getElem_cons_zero, List.getElem_cons_succ, List.setIfInBounds_toArray, List.set_cons_zero, List.set_cons_succ]
    refine wpAnyF_take (i := 1) (v := ?_) rfl (by kernel_rfl) (by kernel_rfl) (by kernel_rfl) (by kernel_rfl) (fun _ _ _ h => h) hHeld (Or.inl ⟨by rfl, ?_⟩) ?_
    rotate_left
    · (intro w hSw; (try rw [hSS] at hSw); (try dsimp only at hSw); go_simp; try with_reducible rfl)
    try simp only [Act.put, List.getElem_toArray, List.getElem_cons_zero, List.getElem_cons_succ, List.setIfInBounds_toArray, List.set_cons_zero, List.set_cons_succ]
    refine wpAnyF_take (i := 2) (v := ?_) rfl (by kernel_rfl) (by kernel_rfl) (by kernel_rfl) (by kernel_rfl) (fun _ _ _ h => h) hHeld (Or.inl ⟨by rfl, ?_⟩) ?_
    rotate_left
    · (intro w hSw; (try rw [hSS] at hSw); (try dsimp only at hSw); go_simp; try with_reducible rfl)
    try simp only [Act.put, List.getElem_toArray, List.getElem_cons_zero, List.getElem_cons_succ, List.setIfInBounds_toArray, List.set_cons_zero, List.set_cons_succ]
    refine wpAnyF_one (i := 3) (by kernel_rfl) rfl (fun K hK => ?_)
    go_simp
    go_at_call 103
    refine (row1 g y u1 hMW hx1).mono ?_
    rintro e u2 ⟨v3, rfl, s3, b3⟩
    try simp only []
    have k3 := k2.on b3
    have s23 := s2.on b3
    have kA8 := kA7.on b3
    have b13 := bd.trans (b3.mono (Nat.le_of_eq zd.symm))
    have S3 : SS u2 := by rw [hSS]; exact ⟨(k3.cell 0).trans rfl, (kA8.cell 0).trans rfl⟩
    refine hK.out _ _ (Or.inr S3) ?_
    clear hK K
    try simp only [Act.put, List.getElem_toArray, List.getElem_cons_zero, List.getElem_cons_succ, List.setIfInBounds_toArray, List.set_cons_zero, List.set_cons_succ]
    refine wpAnyF_one (i := 4) (by kernel_rfl) rfl (fun K hK => ?_)
    go_simp
    go_at_call 102
    refine (and1 _ _ u2 s23 s3).mono ?_
    rintro e u3 ⟨v4, rfl, s4, b4⟩
    obtain ⟨A4, n4, c4, rfl, _⟩ := id s4
    try simp only []
    have k4 := k3.on b4
    have kA9 := kA8.on b4
    have b14 := b13.trans (b4.mono b13.size)
    have S4 : SS u3 := by rw [hSS]; exact ⟨(k4.cell 0).trans rfl, (kA9.cell 0).trans rfl⟩
    refine hK.out _ _ (Or.inr S4) ?_
    clear hK K
    try simp only [Act.put, List.getElem_toArray, List.getElem_cons_zero, List.getElem_cons_succ, List.setIfInBounds_toArray, List.set_cons_zero, List.set_cons_succ]
    have c4' : u3.cell? ⟨gO, 0, none⟩ = some (.slice A2 n2 c2) := (k4.cell 0).trans rfl
    have f4 := k4.frozen 0
    refine wpAnyF_one (i := 5) (by kernel_rfl) rfl (fun K hK => ?_)
    go_simp
    refine hK.out _ _ (Or.inl rfl) ?_
    clear hK K
    try simp only [Act.put, List.getElem_toArray, List.getElem_cons_zero, List.getElem_cons_succ, List.setIfInBounds_toArray, List.set_cons_zero, List.set_cons_succ]
    refine wpAnyF_done (by kernel_rfl) ?_ _
    have k5 : Blk (u3.setCell ⟨gO, 0, none⟩ (.slice A4 n4 c4)) gO 63 #[.slice A4 n4 c4] := by simpa using k4.put 0 (.slice A4 n4 c4)
    have s5 : SetAt (u3.setCell ⟨gO, 0, none⟩ (.slice A4 n4 c4)) (u3.setCell ⟨gO, 0, none⟩ (.slice A4 n4 c4)).heap.size (.agg #[.slice A4 n4 c4]) 1 := by rw [setCell_size]; exact s4.far k4 (by decide)
    have hb5 : Below gO W (u3.setCell ⟨gO, 0, none⟩ (.slice A4 n4 c4)) := (show Below gO W u3 from b14.mono (Nat.le_of_lt hgW)).setCell (p := ⟨gO, 0, none⟩) (Nat.le_refl _) _
    have hk5 : KeepsFrom W6.heap.size W (u3.setCell ⟨gO, 0, none⟩ (.slice A4 n4 c4)) := KeepsFrom.trans (Y := u3) ⟨b14.size, fun j o _ hj _ => (b14.block j (Array.getElem?_eq_some_iff.1 hj).1).trans hj⟩ ((KeepsOthers.setCell _ _ _).from _)
    exact ⟨hk5, hb5, ⟨A4, n4, c4, k5, s5⟩, bl.trans hb5⟩
  case done =>
    rintro D ys W hD hys hJ hK
    obtain ⟨⟨A2, n2, c2, k2, s2⟩, bl⟩ := (show HvJ W6 W gO from hJ)
    have kR7 := kR6.below bl (by omega)
    have x4 : W.cell? ⟨w.heap.size + 2, 0, none⟩ = some (.slice none 0 0) := (kR7.cell 0).trans rfl
    have f4 := kR7.frozen 0
    have x5 : W.cell? ⟨gO, 0, none⟩ = some (.slice A2 n2 c2) := (k2.cell 0).trans rfl
    have hD' : w.heap.size + 2 < D := by omega
    have bwW := bw6.trans (bl.mono (by omega))
    gi_wp2
    have kS : Blk (W.setCell ⟨w.heap.size + 2, 0, none⟩ (.slice A2 n2 c2)) (w.heap.size + 2) 63 #[.slice A2 n2 c2] := by simpa using kR7.put 0 (.slice A2 n2 c2)
    have sS : SetAt (W.setCell ⟨w.heap.size + 2, 0, none⟩ (.slice A2 n2 c2)) (W.setCell ⟨w.heap.size + 2, 0, none⟩ (.slice A2 n2 c2)).heap.size (.agg #[.slice A2 n2 c2]) 1 := by rw [setCell_size]; exact s2.far kR7 (by decide)
    have bS : Below w.heap.size w (W.setCell ⟨w.heap.size + 2, 0, none⟩ (.slice A2 n2 c2)) := bwW.setCell (p := ⟨w.heap.size + 2, 0, none⟩) (by simp) _
    have hoS : OpenM (W.setCell ⟨w.heap.size + 2, 0, none⟩ (.slice A2 n2 c2)) w.heap.size [D] := ⟨by simp, fun E hE => by
      obtain rfl : E = D := by simpa using hE
      exact ⟨by omega, (Below.heap_setCell W _ _ E (by simp only []; omega)).trans hK⟩⟩
    refine retMs rfl (w.heap.size + 2) (.slice A2 n2 c2) rfl kS [D] rfl hoS ?_
    exact ⟨_, rfl, sS.shut hoS, shut_below [D] w _ bS hoS⟩
  case stop =>
    rintro D c pre W _ _ h _
    exact h.elim
end Go.Proofs.YtcnofhlgiffkjaaGreatDoor
