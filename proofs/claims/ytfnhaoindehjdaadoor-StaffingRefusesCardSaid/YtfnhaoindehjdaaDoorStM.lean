/- The memory of a search. -/
import Derived.Test.YtfnhaoindehjdaaDoorStA
import Derived.Test.YtfnhaoindehjdaaDoorRfA
namespace Go.Proofs.YtfnhaoindehjdaaDoor
open Go.RowKit
set_option linter.unusedVariables false
set_option linter.unusedSimpArgs false

/-- Below B nothing has turned, from N on only the row r. -/
structure MvB (w w' : World) (B N : Nat) (r : Option Nat) : Prop where
  os : w'.os = w.os
  tape : w'.tape = w.tape
  output : w'.output = w.output
  size : w.heap.size ≤ w'.heap.size
  block : ∀ k, k < w.heap.size → (k < B ∨ N ≤ k) → r ≠ some k → w'.heap[k]? = w.heap[k]?
/-- The row v' is the row v, or a new one. -/
def NewR (w : World) (v v' : Value) : Prop := v'.ownBlock = v.ownBlock ∨ ∃ k, v'.ownBlock = some k ∧ w.heap.size ≤ k
theorem NewR.refl (w : World) (v : Value) : NewR w v v := .inl rfl
theorem NewR.trans {w w1 : World} {v v1 v2 : Value} (n : NewR w v v1) (hw : w.heap.size ≤ w1.heap.size) (n2 : NewR w1 v1 v2) : NewR w v v2 := by
  rcases n2 with n2 | ⟨k, n2, hk⟩
  · rcases n with n | ⟨j, n, hj⟩
    · exact .inl (n2.trans n)
    · exact .inr ⟨j, n2.trans n, hj⟩
  · exact .inr ⟨k, n2, by omega⟩
theorem MvB.ofBelow {w w' : World} (h : Below w.heap.size w w') (B N : Nat) (r : Option Nat) : MvB w w' B N r := ⟨h.os, h.tape, h.output, h.size, fun k hk _ _ => h.block k hk⟩
theorem MvB.refl (w : World) (B N : Nat) (r : Option Nat) : MvB w w B N r := .ofBelow (Below.refl _ _) _ _ _
theorem MvB.trans {w w1 w2 : World} {B N : Nat} {v v1 : Value} (h : MvB w w1 B N v.ownBlock) (n : NewR w v v1) (h2 : MvB w1 w2 B N v1.ownBlock) : MvB w w2 B N v.ownBlock :=
  ⟨h2.os.trans h.os, h2.tape.trans h.tape, h2.output.trans h.output, Nat.le_trans h.size h2.size, fun k hk hg hr => by
    rw [h2.block k (Nat.lt_of_lt_of_le hk h.size) hg ?_, h.block k hk hg hr]
    rcases n with n | ⟨j, n, hj⟩
    · rw [n]; exact hr
    · rw [n]; intro e; injection e with e; omega⟩
theorem MvB.set {w w1 : World} {B N g i : Nat} {r : Option Nat} (h : MvB w w1 B N r) (h1 : B ≤ g) (h2 : g < N) (u : Value) : MvB w (w1.setCell ⟨g, i, none⟩ u) B N r :=
  ⟨h.os, h.tape, h.output, by have := h.size; simpa using this, fun k hk hg hr => (Below.heap_setCell w1 ⟨g, i, none⟩ u k (show k ≠ g by omega)).trans (h.block k hk hg hr)⟩
theorem MvB.setR {w w1 : World} {B N g i : Nat} (h : MvB w w1 B N (some g)) (u : Value) : MvB w (w1.setCell ⟨g, i, none⟩ u) B N (some g) :=
  ⟨h.os, h.tape, h.output, by have := h.size; simpa using this, fun k hk hg hr => (Below.heap_setCell w1 ⟨g, i, none⟩ u k (show k ≠ g from fun e => hr (by rw [e]))).trans (h.block k hk hg hr)⟩
theorem MvB.grown {w w' : World} {B N : Nat} {r : Option Nat} (h : w.grownBy w' r) : MvB w w' B N r := ⟨h.os, h.tape, h.output, h.size, fun k hk _ hr => h.block k hk (fun e => hr e.symm)⟩
theorem MvB.low {w w' : World} {B N : Nat} {r : Option Nat} (h : MvB w w' B N r) (hB : B ≤ w.heap.size) (hr : ∀ k, r = some k → B ≤ k) : Below B w w' :=
  ⟨h.os, h.tape, h.output, h.size, fun k hk => h.block k (by omega) (.inl hk) (fun e => by have := hr k e; omega)⟩
/-- An own row is as it was where its block is. -/
theorem own_same {w w' : World} {base e size n : Nat} {v : Value} {xs : List Value} (h : w.ownsRow base e size v n xs) (hb : ∀ k, v.ownBlock = some k → w'.heap[k]? = w.heap[k]?) : w'.ownsRow base e size v n xs := by
  obtain ⟨h1, h2⟩ := h
  refine ⟨h1, ?_⟩
  rcases h2 with h2 | ⟨g, cap, cur, rfl, h3, h4, h5⟩
  · exact .inl h2
  · exact .inr ⟨g, cap, cur, rfl, h3, (hb g rfl).trans h4, h5⟩
theorem OwnI.same {w w' : World} {base n : Nat} {v : Value} {l : List Int} (h : OwnI w base v n l) (hb : ∀ k, v.ownBlock = some k → w'.heap[k]? = w.heap[k]?) : OwnI w' base v n l := own_same h hb
theorem NdO.same {w w' : World} {base : Nat} {y : NdS} (h : NdO w base y) (h1 : ∀ k, y.C.v.ownBlock = some k → w'.heap[k]? = w.heap[k]?) (h2 : ∀ k, y.S.v.ownBlock = some k → w'.heap[k]? = w.heap[k]?) : NdO w' base y :=
  ⟨h.k8, h.ch.same h1, h.st.same h2, h.bc, h.bs⟩
/-- The type of a row's block. -/
theorem own_type {w : World} {base e size n k : Nat} {v : Value} {xs : List Value} (h : w.ownsRow base e size v n xs) (hk : v.ownBlock = some k) : ∃ cs, Blk w k e cs ∧ base ≤ k := by
  obtain ⟨h1, h2⟩ := h
  rcases h2 with ⟨rfl, _⟩ | ⟨g, cap, cur, rfl, h3, h4, h5⟩
  · cases hk
  · injection hk with hk
    subst hk
    exact ⟨cur, h4, h3⟩
theorem own_ntype {w : World} {base e t size n k : Nat} {v : Value} {xs : List Value} {cs : Array Value} (h : w.ownsRow base e size v n xs) (hb : Blk w k t cs) (hne : e ≠ t) : v.ownBlock ≠ some k := own_off h hb hne
/-- An own row of numbers after a store. -/
theorem OwnI.set {w : World} {base n c g i : Nat} {l : List Int} (h : OwnI w base (.slice (some ⟨g, 0, none⟩) n c) n l) (hi : i < n) (z : Int) : OwnI (w.setCell ⟨g, i, none⟩ (.int .i64 z)) base (.slice (some ⟨g, 0, none⟩) n c) n (l.set i z) := by
  obtain ⟨h1, h2⟩ := h
  rcases h2 with ⟨e, _⟩ | ⟨g', cap, cur, e, h3, h4, h5, h6, h7, h8⟩
  · cases e
  · injection e with e1 e2 e3
    injection e1 with e1
    injection e1 with e1
    subst e1 e3
    refine ⟨by simpa using h1, .inr ⟨g, c, cur.setIfInBounds i (.int .i64 z), rfl, h3, ?_, h5, h6, by simpa using h7, ?_⟩⟩
    · exact Blk.put (show Blk w g 3 cur from h4) i (.int .i64 z)
    · rw [List.map_set, ← h8]
      simp only [Array.toList_setIfInBounds]
      rw [List.take_set]
      rfl
/-- Below N, whatever lies neither in g, nor in gs, nor in a block of nodes, is as it was. -/
structure Kept (w w' : World) (N g gs : Nat) : Prop where
  size : w.heap.size ≤ w'.heap.size
  same : ∀ k, k < w.heap.size → k < N → k ≠ g → k ≠ gs → (∀ cs, ¬ Blk w k 103 cs) → w'.heap[k]? = w.heap[k]?
theorem Kept.ofBelow {w w' : World} {N g gs : Nat} (h : Below w.heap.size w w') : Kept w w' N g gs := ⟨h.size, fun k hk _ _ _ _ => h.block k hk⟩
theorem Kept.set1 {w : World} {N g gs i : Nat} (u : Value) : Kept w (w.setCell ⟨g, i, none⟩ u) N g gs := ⟨by simp, fun k hk _ h _ _ => Below.heap_setCell w ⟨g, i, none⟩ u k h⟩
theorem Kept.set2 {w : World} {N g gs i : Nat} (u : Value) : Kept w (w.setCell ⟨gs, i, none⟩ u) N g gs := ⟨by simp, fun k hk _ _ h _ => Below.heap_setCell w ⟨gs, i, none⟩ u k h⟩
theorem Kept.grown {w w' : World} {N g gs base size n : Nat} {v : Value} {xs : List Value} (h : w.ownsRow base 103 size v n xs) (hg : w.grownBy w' v.ownBlock) : Kept w w' N g gs :=
  ⟨hg.size, fun k hk _ _ _ hn => hg.block k hk fun e => by
    obtain ⟨cs, hb, _⟩ := own_type h e.symm
    exact hn cs hb⟩
/-- What the call of each may turn: nothing of the search. -/
structure Each (w w' : World) (B N g gs : Nat) : Prop where
  os : w'.os = w.os
  tape : w'.tape = w.tape
  output : w'.output = w.output
  size : w.heap.size ≤ w'.heap.size
  same : ∀ k, k < w.heap.size → (k < B ∨ N ≤ k ∨ k = g ∨ k = gs ∨ ∃ cs, Blk w k 103 cs) → w'.heap[k]? = w.heap[k]?
/-- The search's block. -/
def schC (p : PrV) (gs n cS : Nat) (sl : Sl) (looked limit : Nat) (fE : Value) : Array Value :=
  #[p.s1.v, p.s2.v, p.s3.v, p.s4.v, p.s5.v, .slice (some ⟨gs, 0, none⟩) n cS, sl.v, .int .i64 (looked : Int), .int .i64 (limit : Int), fE]
/-- A search lies in memory. -/
structure Sch {σ : Type} (EI : σ → World → Prop) (p : PrV) (P : Pr) (limit : Nat) (fE : Value) (B N g gs cS : Nat) (w : World) (st : List Int) (sl : Sl) (ys : List NdS) (s : VS σ) : Prop where
  blk : Blk w g 98 (schC p gs st.length cS sl s.looked limit fE)
  stf : OwnI w B (.slice (some ⟨gs, 0, none⟩) st.length cS) st.length st
  row : w.ownsRow B 103 4 sl.v sl.n (ys.flatMap (NdS.cs .u8))
  nd : ∀ y ∈ ys, NdO w N y
  xs : ys.map (·.x) = s.nds
  pr : PrAt w B p P
  ei : EI s.s w
  nw : N ≤ w.heap.size
  gB : B ≤ g
  gN : g < N
  sB : B ≤ gs
  sN : gs < N
  ne : g ≠ gs
  tab : Tab w
  tB : 0 < B
section
variable {σ : Type} {live : σ → Prop} {EI : σ → World → Prop} {p : PrV} {P : Pr} {limit : Nat} {fE : Value} {B N g gs cS : Nat} {w w' : World} {st : List Int} {sl : Sl} {ys : List NdS} {s : VS σ}
theorem Sch.below (h : Sch EI p P limit fE B N g gs cS w st sl ys s) (hE : ∀ s w w', live s → EI s w → Kept w w' N g gs → EI s w') (hl : live s.s) (hb : Below w.heap.size w w') : Sch EI p P limit fE B N g gs cS w' st sl ys s :=
  ⟨h.blk.on hb, h.stf.on hb, own_on h.row hb, fun y hy => (h.nd y hy).on hb, h.xs, h.pr.below (hb.mono (by have := h.nw; have := h.gB; have := h.gN; omega)), hE _ _ _ hl h.ei (.ofBelow hb), Nat.le_trans h.nw hb.size, h.gB, h.gN, h.sB, h.sN, h.ne, h.tab.below (hb.mono (by have := h.nw; have := h.gB; have := h.gN; omega)) h.tB, h.tB⟩
theorem Sch.len (h : Sch EI p P limit fE B N g gs cS w st sl ys s) : ys.length = sl.n := by
  have := h.row.1
  have e : (ys.flatMap (NdS.cs .u8)).length = ys.length * 4 := flat_len (m := 4) (fun _ => rfl) ys
  omega
theorem Sch.size (h : Sch EI p P limit fE B N g gs cS w st sl ys s) : s.nds.length = sl.n := by
  rw [← h.xs, List.length_map]; exact h.len
theorem Sch.rowB (h : Sch EI p P limit fE B N g gs cS w st sl ys s) : ∀ k, sl.v.ownBlock = some k → B ≤ k := fun k hk => (h.row.lt k hk).1
/-- looked. -/
theorem Sch.look (h : Sch EI p P limit fE B N g gs cS w st sl ys s) (hE : ∀ s w w', live s → EI s w → Kept w w' N g gs → EI s w') (hl : live s.s) (q : Nat) :
    Sch EI p P limit fE B N g gs cS (w.setCell ⟨g, 7, none⟩ (.int .i64 (q : Int))) st sl ys ⟨s.nds, q, s.s⟩ :=
  ⟨h.blk.put 7 _, OwnI.same h.stf fun k hk => Below.heap_setCell w _ _ k (by injection hk with hk; rw [← hk]; exact Ne.symm h.ne), own_same h.row fun k hk => Below.heap_setCell w _ _ k (fun e => own_ntype h.row h.blk (by decide) (by rw [hk, e])),
    fun y hy => (h.nd y hy).put h.blk (by decide) _, h.xs, h.pr.below ((Below.refl B w).setCell (p := ⟨g, 7, none⟩) h.gB _), hE _ _ _ hl h.ei (.set1 _), by simpa using h.nw, h.gB, h.gN, h.sB, h.sN, h.ne, h.tab.below ((Below.refl B w).setCell (p := ⟨g, 7, none⟩) h.gB _) h.tB, h.tB⟩
/-- A user is put in. -/
theorem Sch.put (h : Sch EI p P limit fE B N g gs cS w st sl ys s) (hE : ∀ s w w', live s → EI s w → Kept w w' N g gs → EI s w') (hl : live s.s) {z : Nat} (hz : z < st.length) (u : Int) :
    Sch EI p P limit fE B N g gs cS (w.setCell ⟨gs, z, none⟩ (.int .i64 u)) (st.set z u) sl ys s := by
  have hb : ∃ cs, Blk w gs 3 cs := by obtain ⟨cs, h1, _⟩ := own_type h.stf rfl; exact ⟨cs, h1⟩
  obtain ⟨cs, hb⟩ := hb
  have hlen : (st.set z u).length = st.length := List.length_set
  refine ⟨by rw [hlen]; exact h.blk.far h.ne _, by rw [hlen]; exact OwnI.set h.stf hz u, own_same h.row fun k hk => Below.heap_setCell w _ _ k (fun e => own_ntype h.row hb (by decide) (by rw [hk, e])), fun y hy => ?_, h.xs,
    h.pr.below ((Below.refl B w).setCell (p := ⟨gs, z, none⟩) h.sB _), hE _ _ _ hl h.ei (.set2 _), by simpa using h.nw, h.gB, h.gN, h.sB, h.sN, h.ne, h.tab.below ((Below.refl B w).setCell (p := ⟨gs, z, none⟩) h.sB _) h.tB, h.tB⟩
  have hy' := h.nd y hy
  exact hy'.same (fun k hk => Below.heap_setCell w _ _ k (fun e => by have := (hy'.ch.lt k hk).1; have := h.sN; simp at e; omega)) (fun k hk => Below.heap_setCell w _ _ k (fun e => by have := (hy'.st.lt k hk).1; have := h.sN; simp at e; omega))
/-- A node is put in. -/
theorem Sch.store {gr c i : Nat} (h : Sch EI p P limit fE B N g gs cS w st ⟨some ⟨gr, 0, none⟩, sl.n, c⟩ ys s) (hE : ∀ s w w', live s → EI s w → Kept w w' N g gs → EI s w') (hl : live s.s) (hi : i < sl.n) {y : NdS} (hy : NdO w N y) :
    Sch EI p P limit fE B N g gs cS (set4 w gr (i * 4) (.int .u8 (y.x.kind : Int)) (.int .i64 y.x.step) y.C.v y.S.v) st ⟨some ⟨gr, 0, none⟩, sl.n, c⟩ (ys.set i y) ⟨s.nds.set i y.x, s.looked, s.s⟩ := by
  have hrow : w.ownsRow B 103 4 (.slice (some ⟨gr, 0, none⟩) sl.n c) sl.n (ys.flatMap (NdS.cs .u8)) := h.row
  obtain ⟨g', cs, e, hBg, hb⟩ := own_blk hrow (by omega)
  injection e with e
  injection e with e _ _
  subst e
  have n1 : g ≠ gr := fun e => by subst e; exact (Blk.apart h.blk hb (by decide)) rfl
  have keep : ∀ z, NdO w N z → NdO (set4 w gr (i * 4) (.int .u8 (y.x.kind : Int)) (.int .i64 y.x.step) y.C.v y.S.v) N z := fun z hz =>
    ⟨hz.k8, own_set4 hz.ch hb (by decide) _ _ _ _, own_set4 hz.st hb (by decide) _ _ _ _, hz.bc, hz.bs⟩
  refine ⟨far_set4 h.blk n1 _ _ _ _, own_set4 h.stf hb (by decide) _ _ _ _, ?_, fun z hz => ?_, by rw [List.map_set, h.xs], h.pr.below (below_set4 (Below.refl B w) hBg _ _ _ _), hE _ _ _ hl h.ei ⟨?_, fun k hk _ _ _ hn => ?_⟩, ?_, h.gB, h.gN, h.sB, h.sN, h.ne, h.tab.below (below_set4 (Below.refl B w) hBg _ _ _ _) h.tB, h.tB⟩
  · have hl := h.len
    rw [flat_set (by rw [hl]; exact hi)]
    have h1 := (World.ownsRow.stored hrow (i * 4) (.int .u8 (y.x.kind : Int))).1
    have h2 := (World.ownsRow.stored h1 (i * 4 + 1) (.int .i64 y.x.step)).1
    have h3 := (World.ownsRow.stored h2 (i * 4 + 2) y.C.v).1
    exact (World.ownsRow.stored h3 (i * 4 + 3) y.S.v).1
  · rcases List.mem_or_eq_of_mem_set hz with h1 | rfl
    · exact keep z (h.nd z h1)
    · exact keep z hy
  · simp [set4]
  · have hk' : k ≠ gr := fun e => by subst e; exact hn cs hb
    unfold set4
    rw [Below.heap_setCell _ _ _ k hk', Below.heap_setCell _ _ _ k hk', Below.heap_setCell _ _ _ k hk', Below.heap_setCell _ _ _ k hk']
  · simpa [set4] using h.nw
theorem MvB.set4 {w w1 : World} {B N gr o : Nat} {r : Option Nat} (h : MvB w w1 B N r) (hr : r = some gr ∨ (B ≤ gr ∧ w.heap.size ≤ gr)) (a b c d : Value) : MvB w (set4 w1 gr o a b c d) B N r :=
  ⟨h.os, h.tape, h.output, by have := h.size; simpa [Go.Proofs.YtfnhaoindehjdaaDoor.set4] using this, fun k hk hg hn => by
    have hk' : k ≠ gr := fun e => by
      rcases hr with hr | ⟨_, hr⟩
      · exact hn (by rw [hr, e])
      · omega
    unfold Go.Proofs.YtfnhaoindehjdaaDoor.set4
    rw [Below.heap_setCell _ _ _ k hk', Below.heap_setCell _ _ _ k hk', Below.heap_setCell _ _ _ k hk', Below.heap_setCell _ _ _ k hk']
    exact h.block k hk hg hn⟩
/-- A node is added. -/
theorem Sch.add {A' : Option Addr} {n' c' : Nat} (h : Sch EI p P limit fE B N g gs cS w st sl ys s) (hE : ∀ s w w', live s → EI s w → Kept w w' N g gs → EI s w') (hl : live s.s)
    (ho : w'.ownsRow B 103 4 (.slice A' n' c') n' (ys.flatMap (NdS.cs .u8) ++ nd0S.cs .u8)) (hg : w.grownBy w' sl.v.ownBlock) :
    Sch EI p P limit fE B N g gs cS (w'.setCell ⟨g, 6, none⟩ (.slice A' n' c')) st ⟨A', n', c'⟩ (ys ++ [nd0S]) ⟨s.nds ++ [nd0], s.looked, s.s⟩ := by
  have k1 := h.blk.grown hg (own_ntype h.row h.blk (by decide))
  have hsB : ∃ cs, Blk w gs 3 cs := by obtain ⟨cs, h1, _⟩ := own_type h.stf rfl; exact ⟨cs, h1⟩
  obtain ⟨cs, hsB⟩ := hsB
  have st1 : OwnI w' B (.slice (some ⟨gs, 0, none⟩) st.length cS) st.length st := OwnI.same h.stf fun k hk => by
    injection hk with hk
    subst hk
    exact hg.block gs hsB.lt fun e => own_ntype h.row hsB (by decide) e.symm
  have h0 : NdO w N nd0S := ⟨by decide, OwnI.nil _ _, OwnI.nil _ _, by decide, by decide⟩
  have hnd : ∀ y ∈ ys ++ [nd0S], NdO w N y := fun y hy => by
    rcases List.mem_append.1 hy with h1 | h1
    · exact h.nd y h1
    · obtain rfl : y = nd0S := by simpa using h1
      exact h0
  have kp := Kept.grown (N := N) (g := g) (gs := gs) h.row hg
  have hlow : Below B w (w'.setCell ⟨g, 6, none⟩ (.slice A' n' c')) := (((Below.refl B w).grown hg (by have := h.nw; have := h.gB; have := h.gN; omega) fun k hk => h.rowB k hk)).setCell (p := ⟨g, 6, none⟩) h.gB _
  refine ⟨k1.put 6 _, OwnI.same st1 fun k hk => Below.heap_setCell w' _ _ k (by injection hk with hk; rw [← hk]; exact Ne.symm h.ne), own_same ?_ fun k hk => Below.heap_setCell w' _ _ k (fun e => own_ntype ho k1 (by decide) (by have hk' : (Value.slice A' n' c').ownBlock = some k := hk; rw [hk', e])), fun y hy => ?_, ?_, ?_, ?_, ?_, h.gB, h.gN, h.sB, h.sN, h.ne, h.tab.below hlow h.tB, h.tB⟩
  · rw [flat_snoc]; exact ho
  · exact ((hnd y hy).grown hg (own_apart (hnd y hy).ch h.row (by decide)) (own_apart (hnd y hy).st h.row (by decide))).put k1 (by decide) _
  · rw [List.map_append, h.xs]; rfl
  · exact h.pr.below hlow
  · refine hE _ _ _ hl h.ei ⟨by have := hg.size; simpa using this, fun k hk h0 h1 h2 h3 => ?_⟩
    rw [Below.heap_setCell _ _ _ k h1]
    exact kp.same k hk h0 h1 h2 h3
  · have := hg.size; have := h.nw; simp; omega
theorem Each.mv (h : Each w w' B N g gs) (r : Option Nat) : MvB w w' B N r := ⟨h.os, h.tape, h.output, h.size, fun k hk hg _ => h.same k hk (hg.elim .inl fun h => .inr (.inl h))⟩
/-- Another row from T on is grown. -/
theorem Sch.grow {T n : Nat} {v : Value} {l : List Int} (h : Sch EI p P limit fE B N g gs cS w st sl ys s) (hE : ∀ s w w', live s → EI s w → Kept w w' N g gs → EI s w') (hl : live s.s)
    (hg : w.grownBy w' v.ownBlock) (ho : OwnI w T v n l) (hT : N ≤ T) (hys : ∀ y ∈ ys, Blt T y.C.v ∧ Blt T y.S.v) : Sch EI p P limit fE B N g gs cS w' st sl ys s := by
  have hv : ∀ k, v.ownBlock = some k → T ≤ k := fun k hk => (ho.lt k hk).1
  have hB : B ≤ w.heap.size := by have := h.nw; have := h.gB; have := h.gN; omega
  have hlow : Below B w w' := (Below.refl B w).grown hg hB fun k hk => by have := hv k hk; have := h.gB; have := h.gN; omega
  have sm : ∀ k, k < w.heap.size → k < T → w'.heap[k]? = w.heap[k]? := fun k hk hkT => hg.block k hk fun e => by have := hv k e.symm; omega
  have hsB : ∃ cs, Blk w gs 3 cs := by obtain ⟨cs, h1, _⟩ := own_type h.stf rfl; exact ⟨cs, h1⟩
  obtain ⟨cs, hsB⟩ := hsB
  refine ⟨(sm g h.blk.lt (by have := h.gN; omega)).trans h.blk, OwnI.same h.stf fun k hk => ?_, own_same h.row fun k hk => hg.block k (h.row.lt k hk).2 fun e => ?_, fun y hy => ?_, h.xs, h.pr.below hlow, hE _ _ _ hl h.ei ⟨hg.size, fun k hk hkN _ _ _ => sm k hk (by omega)⟩, Nat.le_trans h.nw hg.size, h.gB, h.gN, h.sB, h.sN, h.ne, h.tab.below hlow h.tB, h.tB⟩
  · injection hk with hk
    subst hk
    exact sm gs hsB.lt (by have := h.sN; omega)
  · obtain ⟨cs', hb', _⟩ := own_type ho e.symm
    exact own_ntype h.row hb' (by decide) hk
  · have hy' := h.nd y hy
    have hy2 := hys y hy
    exact hy'.same (fun k hk => sm k (hy'.ch.lt k hk).2 (hy2.1 k hk)) (fun k hk => sm k (hy'.st.lt k hk).2 (hy2.2 k hk))
theorem MvB.belowW {w w1 w2 : World} {B N : Nat} {r : Option Nat} (h : MvB w w1 B N r) (hb : Below w.heap.size w1 w2) : MvB w w2 B N r :=
  ⟨hb.os.trans h.os, hb.tape.trans h.tape, hb.output.trans h.output, Nat.le_trans h.size hb.size, fun k hk hg hr => (hb.block k hk).trans (h.block k hk hg hr)⟩
/-- A caller is handed a list. -/
theorem Sch.each {s' : σ} (h : Sch EI p P limit fE B N g gs cS w st sl ys s) (he : Each w w' B N g gs) (hs : EI s' w') : Sch EI p P limit fE B N g gs cS w' st sl ys ⟨s.nds, s.looked, s'⟩ := by
  have hrow : ∀ k, sl.v.ownBlock = some k → w'.heap[k]? = w.heap[k]? := fun k hk => by
    obtain ⟨cs, hb, _⟩ := own_type h.row hk
    exact he.same k hb.lt (.inr (.inr (.inr (.inr ⟨cs, hb⟩))))
  have hsB : ∃ cs, Blk w gs 3 cs := by obtain ⟨cs, h1, _⟩ := own_type h.stf rfl; exact ⟨cs, h1⟩
  obtain ⟨cs, hsB⟩ := hsB
  refine ⟨(he.same g h.blk.lt (.inr (.inr (.inl rfl)))).trans h.blk, OwnI.same h.stf fun k hk => ?_, own_same h.row hrow, fun y hy => ?_, h.xs, h.pr.below ⟨he.os, he.tape, he.output, he.size, fun k hk => ?_⟩, hs, Nat.le_trans h.nw he.size, h.gB, h.gN, h.sB, h.sN, h.ne, h.tab.below (he.mv none |>.low (by have := h.nw; have := h.gB; have := h.gN; omega) (fun k hk => by cases hk)) h.tB, h.tB⟩
  · injection hk with hk
    subst hk
    exact he.same gs hsB.lt (.inr (.inr (.inr (.inl rfl))))
  · have hy' := h.nd y hy
    exact hy'.same (fun k hk => he.same k (hy'.ch.lt k hk).2 (.inr (.inl (hy'.ch.lt k hk).1))) (fun k hk => he.same k (hy'.st.lt k hk).2 (.inr (.inl (hy'.st.lt k hk).1)))
  · exact he.same k (by have := h.nw; have := h.gB; have := h.gN; omega) (.inl hk)
end
end Go.Proofs.YtfnhaoindehjdaaDoor
