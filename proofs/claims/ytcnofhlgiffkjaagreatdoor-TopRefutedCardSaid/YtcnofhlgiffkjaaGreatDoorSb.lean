/- A pack of texts: StA, StM, StB, StD, StV, StW. -/
import Derived.Test.YtcnofhlgiffkjaaGreatDoorSa
import Derived.Test.YtcnofhlgiffkjaaGreatDoorPf
import Derived.Test.YtcnofhlgiffkjaaGreatDoorPi
import Derived.Test.YtcnofhlgiffkjaaGreatDoorPk
import Derived.Deep.QuietTactic
import Derived.BigQuiet
import Derived.Deep.RegionHeld3
import Derived.Test.YtcnofhlgiffkjaaGreatDoorRfA
import Derived.Test.YtcnofhlgiffkjaaGreatDoorPe
import Derived.Deep.CutRange
import Derived.Deep.RegionWith
import Derived.Test.YtcnofhlgiffkjaaGreatDoorPb
import Derived.StillTailTactics
/- The small functions of package staffing. -/
namespace Go.Proofs.YtcnofhlgiffkjaaGreatDoor
open Go.RowKit
set_option linter.unusedVariables false
set_option linter.unusedSimpArgs false

/-- full. -/
theorem full_any (g limit looked : Nat) (w : World) (h7 : w.cell? ⟨g, 7, none⟩ = some (.int .i64 (looked : Int))) (h8 : w.cell? ⟨g, 8, none⟩ = some (.int .i64 (limit : Int))) :
    Calls Tryz.prog 29 #[.pointer (some ⟨g, 0, none⟩)] w fun e w' => e = .returned (.bool (fullB limit looked)) ∧ ∃ q, w' = w.drewN q := by
  unfold fullB
  by_cases h : 0 < limit
  · have hd : decide (0 < limit) = true := by simpa using h
    rw [hd, Bool.true_and]
    have hi : decide ((0 : Int) < (limit : Int)) = true := by simpa using h
    go_enter Tryz.func29, Tryz.ntmps29
    go_wp2_with fail
    go_quiet (fail)
    go_wp2_with fail
    go_ret
    exact ⟨by simp, _, rfl⟩
  · obtain rfl : limit = 0 := by omega
    clear h
    go_enter Tryz.func29, Tryz.ntmps29
    go_wp2_with fail
    go_quiet (fail)
    go_wp2_with fail
    go_ret
    exact ⟨by simp, _, rfl⟩
/-- What Index gives. -/
def idxV : Option Nat → Int
  | none => -1
  | some z => z
theorem idx0_take {l : List Int} {k : Nat} (h : ∀ j, j < k → atI l j ≠ 0) (hk : k < l.length) (h0 : atI l k = 0) : idx0 l = some k := by
  cases hz : idx0 l with
  | none => exact absurd h0 (idx0_none hz k hk)
  | some z =>
    obtain ⟨h1, h2, h3⟩ := idx0_some hz
    rcases Nat.lt_trichotomy z k with h4 | h4 | h4
    · exact absurd h2 (h z h4)
    · rw [h4]
    · exact absurd h0 (h3 k h4)
theorem idx0_no {l : List Int} (h : ∀ j, j < l.length → atI l j ≠ 0) : idx0 l = none := by
  cases hz : idx0 l with
  | none => rfl
  | some z =>
    obtain ⟨h1, h2, _⟩ := idx0_some hz
    exact absurd h2 (h z h1)
/-- slices.Index of the first open step. -/
theorem idx0_any (A : Option Addr) (n c : Nat) (l : List Int) (w : World) (h : Sees w w.heap.size A (l.map iv)) (hn : l.length = n) (hb : n ≤ 1000000) :
    Calls Tryz.prog 66 #[.slice A n c, .int .i64 0] w fun e w' => e = .returned (.int .i64 (idxV (idx0 l))) ∧ w = w' := by
  have Hn := Lib.hid hn
  have hb1 : (n : Int) ≤ 1000000 := by omega
  obtain ⟨r, hr⟩ : ∃ r, Hid (r = idxV (idx0 l)) := ⟨_, Lib.hid rfl⟩
  rw [← hr.out]
  clear hn
  go_enter Tryz.func66, Tryz.ntmps66
  go_wp2_with fail
  go_loopw [8] (fun i wr => ∃ k : Nat, k ≤ n ∧ i = .int .i64 k ∧ Hid (∀ j, j < k → atI l j ≠ 0) ∧ w = wr) (fun i _ => n - (intOf i).toNat)
  case atStart => exact ⟨0, Nat.zero_le _, rfl, Lib.hid (fun j hj => absurd hj (Nat.not_lt_zero _)), rfl⟩
  case round =>
    obtain ⟨k, hk, rfl, HP, rfl⟩ := hrel
    by_cases hlt : k < n
    · have hlt' : (k : Int) < (n : Int) := by omega
      obtain ⟨b, o, z, rfl, hb2, Hz, hc⟩ := Sees.int (k := k) h (by rw [Hn.out]; exact hlt)
      have hat : Hid (atI l k = z) := Lib.hid (by unfold atI; rw [Hz.out]; rfl)
      by_cases hz : (0 : Int) = z
      · subst hz
        have hi : Hid (r = (k : Int)) := Lib.hid (by rw [hr.out, idx0_take HP.out (by rw [Hn.out]; exact hlt) hat.out]; rfl)
        go_wp2_with fail
        go_ret
        exact ⟨ret_int hi.out.symm, rfl⟩
      · have hzb : ((0 : Int) == z) = false := by simpa using hz
        have hnx : Hid (∀ j, j < k + 1 → atI l j ≠ 0) := Lib.hid (fun j hj => by
          by_cases hjk : j = k
          · rw [hjk, hat.out]; exact fun e => hz e.symm
          · exact HP.out j (by omega))
        clear hz
        go_wp2_with fail
        go_roundw
        case rel => exact ⟨k + 1, by omega, by go_num, hnx, by simp⟩
        case measure => simp [intOf]; omega
    · obtain rfl : k = n := by omega
      have hi : Hid (r = (-1 : Int)) := Lib.hid (by rw [hr.out, idx0_no (fun j hj => HP.out j (by rw [Hn.out] at hj; exact hj))]; rfl)
      go_wp2_with fail
      go_ret
      exact ⟨ret_int hi.out.symm, rfl⟩
/-- Solve's closure. -/
theorem each1_any (A : Option Addr) (n c g1 g2 : Nat) (v : Value) (b : Bool) (w : World) (h1 : Blk w g1 30 #[v]) (h2 : Blk w g2 4 #[.bool b]) :
    Calls Tryz.prog 27 #[.slice A n c, .pointer (some ⟨g1, 0, none⟩), .pointer (some ⟨g2, 0, none⟩)] w fun e w' => e = .returned (.bool true) ∧ w' = (w.setCell ⟨g1, 0, none⟩ (.slice A n c)).setCell ⟨g2, 0, none⟩ (.bool true) := by
  have hne : g1 ≠ g2 := h1.apart h2 (by decide)
  have hne' : g2 ≠ g1 := Ne.symm hne
  have c1 := h1.cell 0
  have c2 := h2.cell 0
  have f1 := h1.frozen 0
  have f2 := h2.frozen 0
  simp at c1 c2
  go_enter Tryz.func27, Tryz.ntmps27
  go_wp2_with fail
  go_ret
  exact ⟨rfl, rfl⟩
/-- Count's closure. -/
theorem each2_any (A : Option Addr) (n c g1 g2 : Nat) (k limit : Int) (w : World) (hk0 : 0 ≤ k) (hk : k ≤ 1000000000) (h1 : Blk w g1 3 #[.int .i64 k]) (h2 : Blk w g2 3 #[.int .i64 limit]) (hne : g1 ≠ g2) :
    Calls Tryz.prog 30 #[.slice A n c, .pointer (some ⟨g1, 0, none⟩), .pointer (some ⟨g2, 0, none⟩)] w fun e w' => e = .returned (.bool (decide (limit < k + 1))) ∧ w' = w.setCell ⟨g1, 0, none⟩ (.int .i64 (k + 1)) := by
  have hne' : g2 ≠ g1 := Ne.symm hne
  have c1 := h1.cell 0
  have c2 := h2.cell 0
  have f1 := h1.frozen 0
  simp at c1 c2
  go_enter Tryz.func30, Tryz.ntmps30
  go_wp2_with fail
  go_ret
  exact ⟨rfl, rfl⟩
end Go.Proofs.YtcnofhlgiffkjaaGreatDoor
/- The memory of a search. -/
namespace Go.Proofs.YtcnofhlgiffkjaaGreatDoor
open Go.RowKit
set_option linter.unusedVariables false
set_option linter.unusedSimpArgs false

/-- Below B nothing has turned, from N on only the row r. -/
structure MvB (w w' : World) (B N : Nat) (r : Option Nat) : Prop where
  os : w'.os = w.os
  tape : w'.tape = w.tape
  output : w'.output = w.output
  size : w.heap.size ≤ w'.heap.size
  block : ∀ k, k < w.heap.size → (k < B ∨ N ≤ k) → r ≠ some k → w'.heap[k]? = w.heap[k]?
/-- The row v' is the row v, or a new one. -/
def NewR (w : World) (v v' : Value) : Prop := v'.ownBlock = v.ownBlock ∨ ∃ k, v'.ownBlock = some k ∧ w.heap.size ≤ k
theorem NewR.refl (w : World) (v : Value) : NewR w v v := .inl rfl
theorem NewR.trans {w w1 : World} {v v1 v2 : Value} (n : NewR w v v1) (hw : w.heap.size ≤ w1.heap.size) (n2 : NewR w1 v1 v2) : NewR w v v2 := by
  rcases n2 with n2 | ⟨k, n2, hk⟩
  · rcases n with n | ⟨j, n, hj⟩
    · exact .inl (n2.trans n)
    · exact .inr ⟨j, n2.trans n, hj⟩
  · exact .inr ⟨k, n2, by omega⟩
theorem MvB.ofBelow {w w' : World} (h : Below w.heap.size w w') (B N : Nat) (r : Option Nat) : MvB w w' B N r := ⟨h.os, h.tape, h.output, h.size, fun k hk _ _ => h.block k hk⟩
theorem MvB.refl (w : World) (B N : Nat) (r : Option Nat) : MvB w w B N r := .ofBelow (Below.refl _ _) _ _ _
theorem MvB.trans {w w1 w2 : World} {B N : Nat} {v v1 : Value} (h : MvB w w1 B N v.ownBlock) (n : NewR w v v1) (h2 : MvB w1 w2 B N v1.ownBlock) : MvB w w2 B N v.ownBlock :=
  ⟨h2.os.trans h.os, h2.tape.trans h.tape, h2.output.trans h.output, Nat.le_trans h.size h2.size, fun k hk hg hr => by
    rw [h2.block k (Nat.lt_of_lt_of_le hk h.size) hg ?_, h.block k hk hg hr]
    rcases n with n | ⟨j, n, hj⟩
    · rw [n]; exact hr
    · rw [n]; intro e; injection e with e; omega⟩
theorem MvB.set {w w1 : World} {B N g i : Nat} {r : Option Nat} (h : MvB w w1 B N r) (h1 : B ≤ g) (h2 : g < N) (u : Value) : MvB w (w1.setCell ⟨g, i, none⟩ u) B N r :=
  ⟨h.os, h.tape, h.output, by have := h.size; simpa using this, fun k hk hg hr => (Below.heap_setCell w1 ⟨g, i, none⟩ u k (show k ≠ g by omega)).trans (h.block k hk hg hr)⟩
theorem MvB.setR {w w1 : World} {B N g i : Nat} (h : MvB w w1 B N (some g)) (u : Value) : MvB w (w1.setCell ⟨g, i, none⟩ u) B N (some g) :=
  ⟨h.os, h.tape, h.output, by have := h.size; simpa using this, fun k hk hg hr => (Below.heap_setCell w1 ⟨g, i, none⟩ u k (show k ≠ g from fun e => hr (by rw [e]))).trans (h.block k hk hg hr)⟩
theorem MvB.grown {w w' : World} {B N : Nat} {r : Option Nat} (h : w.grownBy w' r) : MvB w w' B N r := ⟨h.os, h.tape, h.output, h.size, fun k hk _ hr => h.block k hk (fun e => hr e.symm)⟩
theorem MvB.low {w w' : World} {B N : Nat} {r : Option Nat} (h : MvB w w' B N r) (hB : B ≤ w.heap.size) (hr : ∀ k, r = some k → B ≤ k) : Below B w w' :=
  ⟨h.os, h.tape, h.output, h.size, fun k hk => h.block k (by omega) (.inl hk) (fun e => by have := hr k e; omega)⟩
/-- An own row is as it was where its block is. -/
theorem own_same {w w' : World} {base e size n : Nat} {v : Value} {xs : List Value} (h : w.ownsRow base e size v n xs) (hb : ∀ k, v.ownBlock = some k → w'.heap[k]? = w.heap[k]?) : w'.ownsRow base e size v n xs := by
  obtain ⟨h1, h2⟩ := h
  refine ⟨h1, ?_⟩
  rcases h2 with h2 | ⟨g, cap, cur, rfl, h3, h4, h5⟩
  · exact .inl h2
  · exact .inr ⟨g, cap, cur, rfl, h3, (hb g rfl).trans h4, h5⟩
theorem OwnI.same {w w' : World} {base n : Nat} {v : Value} {l : List Int} (h : OwnI w base v n l) (hb : ∀ k, v.ownBlock = some k → w'.heap[k]? = w.heap[k]?) : OwnI w' base v n l := own_same h hb
theorem NdO.same {w w' : World} {base : Nat} {y : NdS} (h : NdO w base y) (h1 : ∀ k, y.C.v.ownBlock = some k → w'.heap[k]? = w.heap[k]?) (h2 : ∀ k, y.S.v.ownBlock = some k → w'.heap[k]? = w.heap[k]?) : NdO w' base y :=
  ⟨h.k8, h.ch.same h1, h.st.same h2, h.bc, h.bs⟩
/-- The type of a row's block. -/
theorem own_type {w : World} {base e size n k : Nat} {v : Value} {xs : List Value} (h : w.ownsRow base e size v n xs) (hk : v.ownBlock = some k) : ∃ cs, Blk w k e cs ∧ base ≤ k := by
  obtain ⟨h1, h2⟩ := h
  rcases h2 with ⟨rfl, _⟩ | ⟨g, cap, cur, rfl, h3, h4, h5⟩
  · cases hk
  · injection hk with hk
    subst hk
    exact ⟨cur, h4, h3⟩
theorem own_ntype {w : World} {base e t size n k : Nat} {v : Value} {xs : List Value} {cs : Array Value} (h : w.ownsRow base e size v n xs) (hb : Blk w k t cs) (hne : e ≠ t) : v.ownBlock ≠ some k := own_off h hb hne
/-- An own row of numbers after a store. -/
theorem OwnI.set {w : World} {base n c g i : Nat} {l : List Int} (h : OwnI w base (.slice (some ⟨g, 0, none⟩) n c) n l) (hi : i < n) (z : Int) : OwnI (w.setCell ⟨g, i, none⟩ (.int .i64 z)) base (.slice (some ⟨g, 0, none⟩) n c) n (l.set i z) := by
  obtain ⟨h1, h2⟩ := h
  rcases h2 with ⟨e, _⟩ | ⟨g', cap, cur, e, h3, h4, h5, h6, h7, h8⟩
  · cases e
  · injection e with e1 e2 e3
    injection e1 with e1
    injection e1 with e1
    subst e1 e3
    refine ⟨by simpa using h1, .inr ⟨g, c, cur.setIfInBounds i (.int .i64 z), rfl, h3, ?_, h5, h6, by simpa using h7, ?_⟩⟩
    · exact Blk.put (show Blk w g 3 cur from h4) i (.int .i64 z)
    · rw [List.map_set, ← h8]
      simp only [Array.toList_setIfInBounds]
      rw [List.take_set]
      rfl
/-- Below N, whatever lies neither in g, nor in gs, nor in a block of nodes, is as it was. -/
structure Kept (w w' : World) (N g gs : Nat) : Prop where
  size : w.heap.size ≤ w'.heap.size
  same : ∀ k, k < w.heap.size → k < N → k ≠ g → k ≠ gs → (∀ cs, ¬ Blk w k 95 cs) → w'.heap[k]? = w.heap[k]?
theorem Kept.ofBelow {w w' : World} {N g gs : Nat} (h : Below w.heap.size w w') : Kept w w' N g gs := ⟨h.size, fun k hk _ _ _ _ => h.block k hk⟩
theorem Kept.set1 {w : World} {N g gs i : Nat} (u : Value) : Kept w (w.setCell ⟨g, i, none⟩ u) N g gs := ⟨by simp, fun k hk _ h _ _ => Below.heap_setCell w ⟨g, i, none⟩ u k h⟩
theorem Kept.set2 {w : World} {N g gs i : Nat} (u : Value) : Kept w (w.setCell ⟨gs, i, none⟩ u) N g gs := ⟨by simp, fun k hk _ _ h _ => Below.heap_setCell w ⟨gs, i, none⟩ u k h⟩
theorem Kept.grown {w w' : World} {N g gs base size n : Nat} {v : Value} {xs : List Value} (h : w.ownsRow base 95 size v n xs) (hg : w.grownBy w' v.ownBlock) : Kept w w' N g gs :=
  ⟨hg.size, fun k hk _ _ _ hn => hg.block k hk fun e => by
    obtain ⟨cs, hb, _⟩ := own_type h e.symm
    exact hn cs hb⟩
/-- What the call of each may turn: nothing of the search. -/
structure Each (w w' : World) (B N g gs : Nat) : Prop where
  os : w'.os = w.os
  tape : w'.tape = w.tape
  output : w'.output = w.output
  size : w.heap.size ≤ w'.heap.size
  same : ∀ k, k < w.heap.size → (k < B ∨ N ≤ k ∨ k = g ∨ k = gs ∨ ∃ cs, Blk w k 95 cs) → w'.heap[k]? = w.heap[k]?
/-- The search's block. -/
def schC (p : PrV) (gs n cS : Nat) (sl : Sl) (looked limit : Nat) (fE : Value) : Array Value :=
  #[p.s1.v, p.s2.v, p.s3.v, p.s4.v, p.s5.v, .slice (some ⟨gs, 0, none⟩) n cS, sl.v, .int .i64 (looked : Int), .int .i64 (limit : Int), fE]
/-- A search lies in memory. -/
structure Sch {σ : Type} (EI : σ → World → Prop) (p : PrV) (P : Pr) (limit : Nat) (fE : Value) (B N g gs cS : Nat) (w : World) (st : List Int) (sl : Sl) (ys : List NdS) (s : VS σ) : Prop where
  blk : Blk w g 88 (schC p gs st.length cS sl s.looked limit fE)
  stf : OwnI w B (.slice (some ⟨gs, 0, none⟩) st.length cS) st.length st
  row : w.ownsRow B 95 4 sl.v sl.n (ys.flatMap (NdS.cs .u8))
  nd : ∀ y ∈ ys, NdO w N y
  xs : ys.map (·.x) = s.nds
  pr : PrAt w B p P
  ei : EI s.s w
  nw : N ≤ w.heap.size
  gB : B ≤ g
  gN : g < N
  sB : B ≤ gs
  sN : gs < N
  ne : g ≠ gs
  tab : Tab w
  tB : 0 < B
section
variable {σ : Type} {live : σ → Prop} {EI : σ → World → Prop} {p : PrV} {P : Pr} {limit : Nat} {fE : Value} {B N g gs cS : Nat} {w w' : World} {st : List Int} {sl : Sl} {ys : List NdS} {s : VS σ}
theorem Sch.below (h : Sch EI p P limit fE B N g gs cS w st sl ys s) (hE : ∀ s w w', live s → EI s w → Kept w w' N g gs → EI s w') (hl : live s.s) (hb : Below w.heap.size w w') : Sch EI p P limit fE B N g gs cS w' st sl ys s :=
  ⟨h.blk.on hb, h.stf.on hb, own_on h.row hb, fun y hy => (h.nd y hy).on hb, h.xs, h.pr.below (hb.mono (by have := h.nw; have := h.gB; have := h.gN; omega)), hE _ _ _ hl h.ei (.ofBelow hb), Nat.le_trans h.nw hb.size, h.gB, h.gN, h.sB, h.sN, h.ne, h.tab.below (hb.mono (by have := h.nw; have := h.gB; have := h.gN; omega)) h.tB, h.tB⟩
theorem Sch.len (h : Sch EI p P limit fE B N g gs cS w st sl ys s) : ys.length = sl.n := by
  have := h.row.1
  have e : (ys.flatMap (NdS.cs .u8)).length = ys.length * 4 := flat_len (m := 4) (fun _ => rfl) ys
  omega
theorem Sch.size (h : Sch EI p P limit fE B N g gs cS w st sl ys s) : s.nds.length = sl.n := by
  rw [← h.xs, List.length_map]; exact h.len
theorem Sch.rowB (h : Sch EI p P limit fE B N g gs cS w st sl ys s) : ∀ k, sl.v.ownBlock = some k → B ≤ k := fun k hk => (h.row.lt k hk).1
/-- looked. -/
theorem Sch.look (h : Sch EI p P limit fE B N g gs cS w st sl ys s) (hE : ∀ s w w', live s → EI s w → Kept w w' N g gs → EI s w') (hl : live s.s) (q : Nat) :
    Sch EI p P limit fE B N g gs cS (w.setCell ⟨g, 7, none⟩ (.int .i64 (q : Int))) st sl ys ⟨s.nds, q, s.s⟩ :=
  ⟨h.blk.put 7 _, OwnI.same h.stf fun k hk => Below.heap_setCell w _ _ k (by injection hk with hk; rw [← hk]; exact Ne.symm h.ne), own_same h.row fun k hk => Below.heap_setCell w _ _ k (fun e => own_ntype h.row h.blk (by decide) (by rw [hk, e])),
    fun y hy => (h.nd y hy).put h.blk (by decide) _, h.xs, h.pr.below ((Below.refl B w).setCell (p := ⟨g, 7, none⟩) h.gB _), hE _ _ _ hl h.ei (.set1 _), by simpa using h.nw, h.gB, h.gN, h.sB, h.sN, h.ne, h.tab.below ((Below.refl B w).setCell (p := ⟨g, 7, none⟩) h.gB _) h.tB, h.tB⟩
/-- A user is put in. -/
theorem Sch.put (h : Sch EI p P limit fE B N g gs cS w st sl ys s) (hE : ∀ s w w', live s → EI s w → Kept w w' N g gs → EI s w') (hl : live s.s) {z : Nat} (hz : z < st.length) (u : Int) :
    Sch EI p P limit fE B N g gs cS (w.setCell ⟨gs, z, none⟩ (.int .i64 u)) (st.set z u) sl ys s := by
  have hb : ∃ cs, Blk w gs 3 cs := by obtain ⟨cs, h1, _⟩ := own_type h.stf rfl; exact ⟨cs, h1⟩
  obtain ⟨cs, hb⟩ := hb
  have hlen : (st.set z u).length = st.length := List.length_set
  refine ⟨by rw [hlen]; exact h.blk.far h.ne _, by rw [hlen]; exact OwnI.set h.stf hz u, own_same h.row fun k hk => Below.heap_setCell w _ _ k (fun e => own_ntype h.row hb (by decide) (by rw [hk, e])), fun y hy => ?_, h.xs,
    h.pr.below ((Below.refl B w).setCell (p := ⟨gs, z, none⟩) h.sB _), hE _ _ _ hl h.ei (.set2 _), by simpa using h.nw, h.gB, h.gN, h.sB, h.sN, h.ne, h.tab.below ((Below.refl B w).setCell (p := ⟨gs, z, none⟩) h.sB _) h.tB, h.tB⟩
  have hy' := h.nd y hy
  exact hy'.same (fun k hk => Below.heap_setCell w _ _ k (fun e => by have := (hy'.ch.lt k hk).1; have := h.sN; simp at e; omega)) (fun k hk => Below.heap_setCell w _ _ k (fun e => by have := (hy'.st.lt k hk).1; have := h.sN; simp at e; omega))
/-- A node is put in. -/
theorem Sch.store {gr c i : Nat} (h : Sch EI p P limit fE B N g gs cS w st ⟨some ⟨gr, 0, none⟩, sl.n, c⟩ ys s) (hE : ∀ s w w', live s → EI s w → Kept w w' N g gs → EI s w') (hl : live s.s) (hi : i < sl.n) {y : NdS} (hy : NdO w N y) :
    Sch EI p P limit fE B N g gs cS (set4 w gr (i * 4) (.int .u8 (y.x.kind : Int)) (.int .i64 y.x.step) y.C.v y.S.v) st ⟨some ⟨gr, 0, none⟩, sl.n, c⟩ (ys.set i y) ⟨s.nds.set i y.x, s.looked, s.s⟩ := by
  have hrow : w.ownsRow B 95 4 (.slice (some ⟨gr, 0, none⟩) sl.n c) sl.n (ys.flatMap (NdS.cs .u8)) := h.row
  obtain ⟨g', cs, e, hBg, hb⟩ := own_blk hrow (by omega)
  injection e with e
  injection e with e _ _
  subst e
  have n1 : g ≠ gr := fun e => by subst e; exact (Blk.apart h.blk hb (by decide)) rfl
  have keep : ∀ z, NdO w N z → NdO (set4 w gr (i * 4) (.int .u8 (y.x.kind : Int)) (.int .i64 y.x.step) y.C.v y.S.v) N z := fun z hz =>
    ⟨hz.k8, own_set4 hz.ch hb (by decide) _ _ _ _, own_set4 hz.st hb (by decide) _ _ _ _, hz.bc, hz.bs⟩
  refine ⟨far_set4 h.blk n1 _ _ _ _, own_set4 h.stf hb (by decide) _ _ _ _, ?_, fun z hz => ?_, by rw [List.map_set, h.xs], h.pr.below (below_set4 (Below.refl B w) hBg _ _ _ _), hE _ _ _ hl h.ei ⟨?_, fun k hk _ _ _ hn => ?_⟩, ?_, h.gB, h.gN, h.sB, h.sN, h.ne, h.tab.below (below_set4 (Below.refl B w) hBg _ _ _ _) h.tB, h.tB⟩
  · have hl := h.len
    rw [flat_set (by rw [hl]; exact hi)]
    have h1 := (World.ownsRow.stored hrow (i * 4) (.int .u8 (y.x.kind : Int))).1
    have h2 := (World.ownsRow.stored h1 (i * 4 + 1) (.int .i64 y.x.step)).1
    have h3 := (World.ownsRow.stored h2 (i * 4 + 2) y.C.v).1
    exact (World.ownsRow.stored h3 (i * 4 + 3) y.S.v).1
  · rcases List.mem_or_eq_of_mem_set hz with h1 | rfl
    · exact keep z (h.nd z h1)
    · exact keep z hy
  · simp [set4]
  · have hk' : k ≠ gr := fun e => by subst e; exact hn cs hb
    unfold set4
    rw [Below.heap_setCell _ _ _ k hk', Below.heap_setCell _ _ _ k hk', Below.heap_setCell _ _ _ k hk', Below.heap_setCell _ _ _ k hk']
  · simpa [set4] using h.nw
theorem MvB.set4 {w w1 : World} {B N gr o : Nat} {r : Option Nat} (h : MvB w w1 B N r) (hr : r = some gr ∨ (B ≤ gr ∧ w.heap.size ≤ gr)) (a b c d : Value) : MvB w (set4 w1 gr o a b c d) B N r :=
  ⟨h.os, h.tape, h.output, by have := h.size; simpa [Go.Proofs.YtcnofhlgiffkjaaGreatDoor.set4] using this, fun k hk hg hn => by
    have hk' : k ≠ gr := fun e => by
      rcases hr with hr | ⟨_, hr⟩
      · exact hn (by rw [hr, e])
      · omega
    unfold Go.Proofs.YtcnofhlgiffkjaaGreatDoor.set4
    rw [Below.heap_setCell _ _ _ k hk', Below.heap_setCell _ _ _ k hk', Below.heap_setCell _ _ _ k hk', Below.heap_setCell _ _ _ k hk']
    exact h.block k hk hg hn⟩
/-- A node is added. -/
theorem Sch.add {A' : Option Addr} {n' c' : Nat} (h : Sch EI p P limit fE B N g gs cS w st sl ys s) (hE : ∀ s w w', live s → EI s w → Kept w w' N g gs → EI s w') (hl : live s.s)
    (ho : w'.ownsRow B 95 4 (.slice A' n' c') n' (ys.flatMap (NdS.cs .u8) ++ nd0S.cs .u8)) (hg : w.grownBy w' sl.v.ownBlock) :
    Sch EI p P limit fE B N g gs cS (w'.setCell ⟨g, 6, none⟩ (.slice A' n' c')) st ⟨A', n', c'⟩ (ys ++ [nd0S]) ⟨s.nds ++ [nd0], s.looked, s.s⟩ := by
  have k1 := h.blk.grown hg (own_ntype h.row h.blk (by decide))
  have hsB : ∃ cs, Blk w gs 3 cs := by obtain ⟨cs, h1, _⟩ := own_type h.stf rfl; exact ⟨cs, h1⟩
  obtain ⟨cs, hsB⟩ := hsB
  have st1 : OwnI w' B (.slice (some ⟨gs, 0, none⟩) st.length cS) st.length st := OwnI.same h.stf fun k hk => by
    injection hk with hk
    subst hk
    exact hg.block gs hsB.lt fun e => own_ntype h.row hsB (by decide) e.symm
  have h0 : NdO w N nd0S := ⟨by decide, OwnI.nil _ _, OwnI.nil _ _, by decide, by decide⟩
  have hnd : ∀ y ∈ ys ++ [nd0S], NdO w N y := fun y hy => by
    rcases List.mem_append.1 hy with h1 | h1
    · exact h.nd y h1
    · obtain rfl : y = nd0S := by simpa using h1
      exact h0
  have kp := Kept.grown (N := N) (g := g) (gs := gs) h.row hg
  have hlow : Below B w (w'.setCell ⟨g, 6, none⟩ (.slice A' n' c')) := (((Below.refl B w).grown hg (by have := h.nw; have := h.gB; have := h.gN; omega) fun k hk => h.rowB k hk)).setCell (p := ⟨g, 6, none⟩) h.gB _
  refine ⟨k1.put 6 _, OwnI.same st1 fun k hk => Below.heap_setCell w' _ _ k (by injection hk with hk; rw [← hk]; exact Ne.symm h.ne), own_same ?_ fun k hk => Below.heap_setCell w' _ _ k (fun e => own_ntype ho k1 (by decide) (by have hk' : (Value.slice A' n' c').ownBlock = some k := hk; rw [hk', e])), fun y hy => ?_, ?_, ?_, ?_, ?_, h.gB, h.gN, h.sB, h.sN, h.ne, h.tab.below hlow h.tB, h.tB⟩
  · rw [flat_snoc]; exact ho
  · exact ((hnd y hy).grown hg (own_apart (hnd y hy).ch h.row (by decide)) (own_apart (hnd y hy).st h.row (by decide))).put k1 (by decide) _
  · rw [List.map_append, h.xs]; rfl
  · exact h.pr.below hlow
  · refine hE _ _ _ hl h.ei ⟨by have := hg.size; simpa using this, fun k hk h0 h1 h2 h3 => ?_⟩
    rw [Below.heap_setCell _ _ _ k h1]
    exact kp.same k hk h0 h1 h2 h3
  · have := hg.size; have := h.nw; simp; omega
theorem Each.mv (h : Each w w' B N g gs) (r : Option Nat) : MvB w w' B N r := ⟨h.os, h.tape, h.output, h.size, fun k hk hg _ => h.same k hk (hg.elim .inl fun h => .inr (.inl h))⟩
/-- Another row from T on is grown. -/
theorem Sch.grow {T n : Nat} {v : Value} {l : List Int} (h : Sch EI p P limit fE B N g gs cS w st sl ys s) (hE : ∀ s w w', live s → EI s w → Kept w w' N g gs → EI s w') (hl : live s.s)
    (hg : w.grownBy w' v.ownBlock) (ho : OwnI w T v n l) (hT : N ≤ T) (hys : ∀ y ∈ ys, Blt T y.C.v ∧ Blt T y.S.v) : Sch EI p P limit fE B N g gs cS w' st sl ys s := by
  have hv : ∀ k, v.ownBlock = some k → T ≤ k := fun k hk => (ho.lt k hk).1
  have hB : B ≤ w.heap.size := by have := h.nw; have := h.gB; have := h.gN; omega
  have hlow : Below B w w' := (Below.refl B w).grown hg hB fun k hk => by have := hv k hk; have := h.gB; have := h.gN; omega
  have sm : ∀ k, k < w.heap.size → k < T → w'.heap[k]? = w.heap[k]? := fun k hk hkT => hg.block k hk fun e => by have := hv k e.symm; omega
  have hsB : ∃ cs, Blk w gs 3 cs := by obtain ⟨cs, h1, _⟩ := own_type h.stf rfl; exact ⟨cs, h1⟩
  obtain ⟨cs, hsB⟩ := hsB
  refine ⟨(sm g h.blk.lt (by have := h.gN; omega)).trans h.blk, OwnI.same h.stf fun k hk => ?_, own_same h.row fun k hk => hg.block k (h.row.lt k hk).2 fun e => ?_, fun y hy => ?_, h.xs, h.pr.below hlow, hE _ _ _ hl h.ei ⟨hg.size, fun k hk hkN _ _ _ => sm k hk (by omega)⟩, Nat.le_trans h.nw hg.size, h.gB, h.gN, h.sB, h.sN, h.ne, h.tab.below hlow h.tB, h.tB⟩
  · injection hk with hk
    subst hk
    exact sm gs hsB.lt (by have := h.sN; omega)
  · obtain ⟨cs', hb', _⟩ := own_type ho e.symm
    exact own_ntype h.row hb' (by decide) hk
  · have hy' := h.nd y hy
    have hy2 := hys y hy
    exact hy'.same (fun k hk => sm k (hy'.ch.lt k hk).2 (hy2.1 k hk)) (fun k hk => sm k (hy'.st.lt k hk).2 (hy2.2 k hk))
theorem MvB.belowW {w w1 w2 : World} {B N : Nat} {r : Option Nat} (h : MvB w w1 B N r) (hb : Below w.heap.size w1 w2) : MvB w w2 B N r :=
  ⟨hb.os.trans h.os, hb.tape.trans h.tape, hb.output.trans h.output, Nat.le_trans h.size hb.size, fun k hk hg hr => (hb.block k hk).trans (h.block k hk hg hr)⟩
/-- A caller is handed a list. -/
theorem Sch.each {s' : σ} (h : Sch EI p P limit fE B N g gs cS w st sl ys s) (he : Each w w' B N g gs) (hs : EI s' w') : Sch EI p P limit fE B N g gs cS w' st sl ys ⟨s.nds, s.looked, s'⟩ := by
  have hrow : ∀ k, sl.v.ownBlock = some k → w'.heap[k]? = w.heap[k]? := fun k hk => by
    obtain ⟨cs, hb, _⟩ := own_type h.row hk
    exact he.same k hb.lt (.inr (.inr (.inr (.inr ⟨cs, hb⟩))))
  have hsB : ∃ cs, Blk w gs 3 cs := by obtain ⟨cs, h1, _⟩ := own_type h.stf rfl; exact ⟨cs, h1⟩
  obtain ⟨cs, hsB⟩ := hsB
  refine ⟨(he.same g h.blk.lt (.inr (.inr (.inl rfl)))).trans h.blk, OwnI.same h.stf fun k hk => ?_, own_same h.row hrow, fun y hy => ?_, h.xs, h.pr.below ⟨he.os, he.tape, he.output, he.size, fun k hk => ?_⟩, hs, Nat.le_trans h.nw he.size, h.gB, h.gN, h.sB, h.sN, h.ne, h.tab.below (he.mv none |>.low (by have := h.nw; have := h.gB; have := h.gN; omega) (fun k hk => by cases hk)) h.tB, h.tB⟩
  · injection hk with hk
    subst hk
    exact he.same gs hsB.lt (.inr (.inr (.inr (.inl rfl))))
  · have hy' := h.nd y hy
    exact hy'.same (fun k hk => he.same k (hy'.ch.lt k hk).2 (.inr (.inl (hy'.ch.lt k hk).1))) (fun k hk => he.same k (hy'.st.lt k hk).2 (.inr (.inl (hy'.st.lt k hk).1)))
  · exact he.same k (by have := h.nw; have := h.gB; have := h.gN; omega) (.inl hk)
end
end Go.Proofs.YtcnofhlgiffkjaaGreatDoor
/- The walk of visit: its parts; the loop over the children. (genst.py) -/
namespace Go.Proofs.YtcnofhlgiffkjaaGreatDoor
open Go.RowKit
set_option linter.unusedVariables false
set_option linter.unusedSimpArgs false

noncomputable def visBody : Code := Tryz.f28.body.getD .skip
noncomputable def visPart (k : Nat) : Code := headC (tailC k visBody)
/-- The children and the nodes, k of them. -/
structure KidR {σ : Type} (EI : σ → World → Prop) (p : PrV) (P : Pr) (limit : Nat) (fE : Value) (B N g gs cS : Nat) (W : World) (st : List Int) (sl : Sl) (ys : List NdS) (s : VS σ) (k : Nat) (Ac : Option Addr) (cc : Nat) (sl' : Sl) (wr : World) : Prop where
  sch : Sch EI p P limit fE B N g gs cS wr st sl' (ys ++ List.replicate k nd0S) ⟨s.nds ++ List.replicate k nd0, s.looked, s.s⟩
  ch : OwnI wr W.heap.size (.slice Ac k cc) k (kidsN s.nds.length k)
  mv : MvB W wr B N sl.v.ownBlock
  nr : NewR W sl.v sl'.v
theorem kidsN_snoc (c k : Nat) : kidsN c (k + 1) = kidsN c k ++ [((c + k : Nat) : Int)] := by
  unfold kidsN; rw [List.range_succ, List.map_append]; rfl
theorem rep_snoc {α : Type} (l : List α) (k : Nat) (x : α) : l ++ List.replicate (k + 1) x = (l ++ List.replicate k x) ++ [x] := by
  rw [List.replicate_succ', List.append_assoc]
set_option maxHeartbeats 8000000 in
set_option maxRecDepth 100000 in
theorem vis_kids {σ : Type} {live : σ → Prop} {EI : σ → World → Prop} {p : PrV} {P : Pr} {limit : Nat} {fE : Value} {B N g gs cS : Nat} {W : World} {st : List Int} {sl : Sl} {ys : List NdS} {s : VS σ} (h : Sch EI p P limit fE B N g gs cS W st sl ys s) (hE : ∀ s w w', live s → EI s w → Kept w w' N g gs → EI s w') (hl : live s.s)
    (node z q : Nat) (hz : z < P.elig.length) (hq : (memZ (eligA P z)).length = q) (hb : s.nds.length + q ≤ 1000000)
    (Q : Exit → Act → World → Prop)
    (hN : ∀ (W' : World) (Ac : Option Addr) (cc : Nat) (sl' : Sl) (u2 u3 u4 u7 u8 u9 u10 u11 u12 u13 u14 u15 u16 u17 u18 u19 u20 u21 u22 u23 u24 u25 u26 u27 u28 u29 u30 u31 u32 u33 u34 u35 u36 u37 u38 u39 u40 u41 u42 u43 u44 u45 u46 u47 u48 u49 u50 u51 u52 u53 u54 u55 u56 u57 u58 u59 u60 u61 u62 u63 u64 u65 u66 u67 u68 u69 u70 u71 u72 u73 u74 u75 u76 u77 u78 u79 u80 u81 u82 u83 u84 u85 u86 u87 u88 u89 u90 u91 u92 u93 u94 u95 u96 u97 u98 u99 u100 u101 u102 u103 u104 u105 u106 u107 u108 u109 u110 u111 u112 u113 u114 u115 u116 u117 u118 u119 u120 u121 u122 u123 u124 : Value), KidR EI p P limit fE B N g gs cS W st sl ys s q Ac cc sl' W' → Q .normal ⟨#[.pointer (some ⟨g, 0, none⟩), .int .i64 (node : Int), u2, u3, u4, .int .i64 (z : Int), .slice Ac q cc, u7, u8, u9, u10, u11, u12, u13, u14, u15, u16, u17, u18, u19, u20, u21, u22, u23, u24, u25, u26, u27, u28, u29, u30, u31, u32, u33, u34, u35, u36, u37, u38, u39, u40, u41, u42, u43, u44, u45, u46, u47, u48, u49, u50, u51, u52, u53, u54, u55, u56, u57, u58, u59, u60, u61, u62, u63, u64, u65, u66, u67, u68, u69, u70, u71, u72, u73, u74, u75, u76, u77, u78, u79, u80, u81, u82, u83, u84, u85, u86, u87, u88, u89, u90, u91, u92, u93, u94, u95, u96, u97, u98, u99, u100, u101, u102, u103, u104, u105, u106, u107, u108, u109, u110, u111, u112, u113, u114, u115, u116, u117, u118, u119, u120, u121, u122, u123, u124], []⟩ W')
    (cx2 cx3 cx4 cx7 cx8 cx9 cx10 cx11 cx12 cx13 cx14 cx15 cx16 cx17 cx18 cx19 cx20 cx21 cx22 cx23 cx24 cx25 cx26 cx27 cx28 cx29 cx30 cx31 cx32 cx33 cx34 cx35 cx36 cx37 cx38 cx39 cx40 cx41 cx42 cx43 cx44 cx45 cx46 cx47 cx48 cx49 cx50 cx51 cx52 cx53 cx54 cx55 cx56 cx57 cx58 cx59 cx60 cx61 cx62 cx63 cx64 cx65 cx66 cx67 cx68 cx69 cx70 cx71 cx72 cx73 cx74 cx75 cx76 cx77 cx78 cx79 cx80 cx81 cx82 cx83 cx84 cx85 cx86 cx87 cx88 cx89 cx90 cx91 cx92 cx93 cx94 cx95 cx96 cx97 cx98 cx99 cx100 cx101 cx102 cx103 cx104 cx105 cx106 cx107 cx108 cx109 cx110 cx111 cx112 cx113 cx114 cx115 cx116 cx117 cx118 cx119 cx120 cx121 cx122 cx123 cx124 : Value) :
    (visPart 7).wp Tryz.prog Q ⟨#[.pointer (some ⟨g, 0, none⟩), .int .i64 (node : Int), cx2, cx3, cx4, .int .i64 (z : Int), .slice none 0 0, cx7, cx8, cx9, cx10, cx11, cx12, cx13, cx14, cx15, cx16, cx17, cx18, cx19, cx20, cx21, cx22, cx23, cx24, cx25, cx26, cx27, cx28, cx29, cx30, cx31, cx32, cx33, cx34, cx35, cx36, cx37, cx38, cx39, cx40, cx41, cx42, cx43, cx44, cx45, cx46, cx47, cx48, cx49, cx50, cx51, cx52, cx53, cx54, cx55, cx56, cx57, cx58, cx59, cx60, cx61, cx62, cx63, cx64, cx65, cx66, cx67, cx68, cx69, cx70, cx71, cx72, cx73, cx74, cx75, cx76, cx77, cx78, cx79, cx80, cx81, cx82, cx83, cx84, cx85, cx86, cx87, cx88, cx89, cx90, cx91, cx92, cx93, cx94, cx95, cx96, cx97, cx98, cx99, cx100, cx101, cx102, cx103, cx104, cx105, cx106, cx107, cx108, cx109, cx110, cx111, cx112, cx113, cx114, cx115, cx116, cx117, cx118, cx119, cx120, cx121, cx122, cx123, cx124], []⟩ W := by
  have Hn := Lib.hid hN
  have HE := Lib.hid hE
  have Hl := Lib.hid hl
  clear hN hE hl
  obtain ⟨⟨A1, n1, c1⟩, s2, s3, s4, s5⟩ := p
  have hpl : P.elig.length = n1 := h.pr.l1
  have he1 : SetsAt W B A1 P.elig := h.pr.e1
  have hnB : n1 ≤ 1000000 := h.pr.b1
  obtain ⟨M, hM⟩ : ∃ M, P.elig[z]? = some M := ⟨_, List.getElem?_eq_getElem hz⟩
  obtain ⟨b, o, X, rfl, hbB, hcX, hset⟩ := he1 z M hM
  have hBW : B ≤ W.heap.size := by have := h.nw; have := h.gB; have := h.gN; omega
  have heA : eligA P z = M := by unfold eligA; rw [Int.toNat_natCast, hM]; rfl
  have hlen := lenE_any (.agg #[X]) M W (hset.more hBW)
  have hq' : (memM M).length = q := by rw [← hq, heA]; simp [memZ]
  rw [hq'] at hlen
  have hzn : (z : Int) < (n1 : Int) := by omega
  have hzn' : z < n1 := by omega
  have x0 : W.cell? ⟨g, 0, none⟩ = some (.slice (some ⟨b, o, none⟩) n1 c1) := (h.blk.cell 0).trans rfl
  have hyB : ∀ y ∈ ys, Blt W.heap.size y.C.v ∧ Blt W.heap.size y.S.v := fun y hy => ⟨own_blt (h.nd y hy).ch, own_blt (h.nd y hy).st⟩
  have Hy := Lib.hid hyB
  have hqq : q ≤ 1000000 := by omega
  have Hb := Lib.hid hb
  have H0 := Lib.hid h
  clear hM heA hq' hset hyB hq hpl hb
  have h := H0.out
  conv => arg 2; whnf
  go_wp2_with fail
  refine hlen.mono ?_
  rintro e W1 ⟨rfl, b1⟩
  have h1 := h.below HE.out Hl.out b1
  clear x0 hcX h hlen
  go_wp2_with fail
  go_loopw [6, 60] (fun v6 v60 wr => ∃ (k : Nat) (Ac : Option Addr) (cc : Nat) (sl' : Sl), k ≤ q ∧ v60 = .int .i64 k ∧ v6 = .slice Ac k cc ∧ KidR EI ⟨⟨some ⟨b, o, none⟩, n1, c1⟩, s2, s3, s4, s5⟩ P limit fE B N g gs cS W st sl ys s k Ac cc sl' wr) (fun _ v60 _ => q - (intOf v60).toNat)
  case atStart => exact ⟨0, none, 0, sl, Nat.zero_le _, rfl, rfl, ⟨by simpa using h1, OwnI.nil _ _, .ofBelow b1 _ _ _, .refl _ _⟩⟩
  case round =>
    clear h1
    obtain ⟨k, Ac, cc, ⟨An, nn, cn⟩, hk, rfl, rfl, hR⟩ := hrel
    obtain ⟨W0, rfl⟩ : ∃ W0, W0 = wr := ⟨_, rfl⟩
    by_cases hlt : k < q
    · have hlt' : (k : Int) < (q : Int) := by omega
      have hs := hR.sch
      have hC := hR.ch
      have hz0 := hR.mv.size
      have hsz : Hid (s.nds.length + k = nn) := Lib.hid (by have := hs.size; simpa using this)
      have hnn : nn ≤ 1000000 := by have := hsz.out; have := Hb.out; omega
      have x6 : W0.cell? ⟨g, 6, none⟩ = some (.slice An nn cn) := (hs.blk.cell 6).trans rfl
      have f6 := hs.blk.frozen 6
      go_upto_region 14 with (at_builtin; refine wpL_appI1k _ rfl (.tmp 62) (.tmp 68) rfl W0 W.heap.size _ k _ rfl hC (nn : Int) rfl _ rfl rfl (by omega) hz0 (k + 1) rfl ?_; intro A9 c9 w9 o9 g9 b9 k9)
      have hys : ∀ y ∈ ys ++ List.replicate k nd0S, Blt W.heap.size y.C.v ∧ Blt W.heap.size y.S.v := fun y hy => by
        rcases List.mem_append.1 hy with h1 | h1
        · exact Hy.out y h1
        · obtain rfl := (List.mem_replicate.1 h1).2
          exact ⟨Blt.nil _, Blt.nil _⟩
      have hs9 := hs.grow HE.out Hl.out g9 hC H0.out.nw hys
      have m9 := hR.mv.belowW b9
      have n9 : NewR W sl.v (Sl.v ⟨An, nn, cn⟩) := hR.nr
      have x6 : w9.cell? ⟨g, 6, none⟩ = some (.slice An nn cn) := (hs9.blk.cell 6).trans rfl
      have f6 := hs9.blk.frozen 6
      have hB9 : B ≤ w9.heap.size := by have := hs9.nw; have := hs9.gB; have := hs9.gN; omega
      go_wp2_with (at_builtin; refine wpL_row1 95 39 _ 4 64 pnode_info Tryz.underlying39 rfl (by omega) (by omega) _ rfl (.tmp 74) (.tmp 76) rfl w9 B _ nn _ rfl hs9.row #[.int .u8 0, .int .i64 0, .slice none 0 0, .slice none 0 0] rfl _ rfl rfl rfl (by simp [Value.oneCell']) (by omega) hB9 (nn + 1) rfl ?_; intro A10 c10 w10 o10 g10 b10 k10; have kg := hs9.blk.grown g10 (own_ntype hs9.row hs9.blk (by decide)); have y6 : w10.cell? ⟨g, 6, none⟩ = some (.slice An nn cn) := (kg.cell 6).trans rfl; have r6 := kg.frozen 6)
      have hs10 := hs9.add HE.out Hl.out o10 g10
      have m10 : MvB W (w10.setCell ⟨g, 6, none⟩ (.slice A10 (nn + 1) c10)) B N sl.v.ownBlock := (m9.trans n9 (MvB.grown g10)).set hs9.gB hs9.gN _
      have n10 : NewR W sl.v (.slice A10 (nn + 1) c10) := n9.trans m9.size (k10.elim .inl fun e => .inr ⟨_, e, Nat.le_succ _⟩)
      have o9' : OwnI w9 W.heap.size (.slice A9 (k + 1) c9) (k + 1) (kidsN s.nds.length (k + 1)) := by rw [kidsN_snoc, hsz.out]; exact o9
      have o10' : OwnI (w10.setCell ⟨g, 6, none⟩ (.slice A10 (nn + 1) c10)) W.heap.size (.slice A9 (k + 1) c9) (k + 1) (kidsN s.nds.length (k + 1)) :=
        OwnI.same (o9'.kept g10 (own_apart o9' hs9.row (by decide))) fun j hj => Below.heap_setCell w10 _ _ j (by have := (o9'.lt j hj).1; have := H0.out.nw; have := H0.out.gN; simp; omega)
      go_roundw
      case rel => exact ⟨k + 1, A9, c9, ⟨A10, nn + 1, c10⟩, by omega, by go_num, rfl, ⟨by rw [rep_snoc, rep_snoc]; exact hs10, o10', m10, n10⟩⟩
      case measure => simp [intOf]; omega
    · obtain rfl : k = q := by omega
      have hlt' : ¬ (k : Int) < (k : Int) := by omega
      go_wp2_with fail
      exact Hn.out W0 Ac cc ⟨An, nn, cn⟩ _ _ _ _ _ _ _ _ _ _ _ _ _ _ _ _ _ _ _ _ _ _ _ _ _ _ _ _ _ _ _ _ _ _ _ _ _ _ _ _ _ _ _ _ _ _ _ _ _ _ _ _ _ _ _ _ _ _ _ _ _ _ _ _ _ _ _ _ _ _ _ _ _ _ _ _ _ _ _ _ _ _ _ _ _ _ _ _ _ _ _ _ _ _ _ _ _ _ _ _ _ _ _ _ _ _ _ _ _ _ _ _ _ _ _ _ _ _ _ _ _ hR
end Go.Proofs.YtcnofhlgiffkjaaGreatDoor
/- The walk of visit: the loop over the users of a step. (genst.py) -/
namespace Go.Proofs.YtcnofhlgiffkjaaGreatDoor
open Go.RowKit
set_option linter.unusedVariables false
set_option linter.unusedSimpArgs false

/-- What a visit leaves. -/
def VisPost {σ : Type} (live : σ → Prop) (EI : σ → World → Prop) (p : PrV) (P : Pr) (limit : Nat) (fE : Value) (B N g gs cS : Nat) (r : Bool × VS σ) (st : List Int) (w : World) (sl : Sl) (e : Ending) (w' : World) : Prop :=
  e = .returned (.bool r.1) ∧ ∃ (st' : List Int) (sl' : Sl) (ys' : List NdS), Sch EI p P limit fE B N g gs cS w' st' sl' ys' r.2 ∧ (r.1 = false → st' = st ∧ live r.2.s) ∧ MvB w w' B N sl.v.ownBlock ∧ NewR w sl.v sl'.v
/-- A visit of the list st is as the function f says; it makes at most b nodes. -/
def VisOk {σ : Type} (live : σ → Prop) (EI : σ → World → Prop) (p : PrV) (P : Pr) (limit : Nat) (fE : Value) (B N g gs cS : Nat) (b : Nat) (f : List Int → Nat → VS σ → Bool × VS σ) (st : List Int) : Prop :=
  ∀ (node : Nat) (s : VS σ) (w : World) (sl : Sl) (ys : List NdS), node < s.nds.length → s.nds.length + b ≤ 1000000 → s.looked + 1 + b ≤ 1000000 → live s.s → Sch EI p P limit fE B N g gs cS w st sl ys s →
    Calls Tryz.prog 28 #[.pointer (some ⟨g, 0, none⟩), .int .i64 (node : Int)] w (VisPost live EI p P limit fE B N g gs cS (f st node s) st w sl)
theorem visitL_drop {σ : Type} {f : List Int → Nat → VS σ → Bool × VS σ} {st : List Int} {z c : Nat} {us : List Int} {k : Nat} {u : Int} {s' : VS σ} (hu : us[k]? = some u) :
    visitL f st z (us.drop k) (c + k) s' = if (f (st.set z u) (c + k) s').1 = true then (true, (f (st.set z u) (c + k) s').2) else visitL f st z (us.drop (k + 1)) (c + (k + 1)) (f (st.set z u) (c + k) s').2 := by
  obtain ⟨hk, e⟩ := List.getElem?_eq_some_iff.1 hu
  rw [List.drop_eq_getElem_cons hk, e, visitL]
  rfl
/-- Where the loop over the users is. -/
structure UsrR {σ : Type} (live : σ → Prop) (EI : σ → World → Prop) (p : PrV) (P : Pr) (limit : Nat) (fE : Value) (B N g gs cS : Nat) (f : List Int → Nat → VS σ → Bool × VS σ) (b : Nat) (W : World) (st : List Int) (sl : Sl) (s : VS σ) (z c0 : Nat) (us : List Int) (A2 Ac : Option Addr) (c2 cc : Nat) (k : Nat) (v : Int) (sl' : Sl) (ys' : List NdS) (s' : VS σ) (wr : World) : Prop where
  sch : Sch EI p P limit fE B N g gs cS wr (st.set z v) sl' ys' s'
  lv : live s'.s
  rem : visitL f st z (us.drop k) (c0 + k) s' = visitL f st z us c0 s
  ge : s.nds.length ≤ s'.nds.length
  le1 : s'.nds.length ≤ s.nds.length + k * b
  le2 : s'.looked ≤ s.looked + k * (1 + b)
  mv : MvB W wr B N sl.v.ownBlock
  nr : NewR W sl.v sl'.v
  chs : OwnI wr N (.slice Ac us.length cc) us.length (kidsN c0 us.length)
  usr : OwnI wr N (.slice A2 us.length c2) us.length us
set_option maxHeartbeats 8000000 in
set_option maxRecDepth 100000 in
theorem vis_loop {σ : Type} {live : σ → Prop} {EI : σ → World → Prop} {p : PrV} {P : Pr} {limit : Nat} {fE : Value} {B N g gs cS : Nat} {W : World} {st : List Int} {sl : Sl} {ys : List NdS} {s : VS σ} (h : Sch EI p P limit fE B N g gs cS W st sl ys s) (hE : ∀ s w w', live s → EI s w → Kept w w' N g gs → EI s w') (hl : live s.s)
    (f : List Int → Nat → VS σ → Bool × VS σ) (b node z c0 q cc : Nat) (Ac : Option Addr) (hz : z < P.elig.length) (hzs : z < st.length) (h0 : atI st z = 0) (hq : (memZ (eligA P z)).length = q) (hc : c0 + q ≤ s.nds.length)
    (hb1 : s.nds.length + q * b ≤ 1000000) (hb2 : s.looked + q * (1 + b) ≤ 1000000)
    (hch : OwnI W N (.slice Ac q cc) q (kidsN c0 q))
    (hge : ∀ st node s, s.nds.length ≤ (f st node s).2.nds.length)
    (hle : ∀ u ∈ memZ (eligA P z), ∀ node s, (f (st.set z u) node s).2.nds.length ≤ s.nds.length + b ∧ (f (st.set z u) node s).2.looked ≤ s.looked + 1 + b)
    (hf : ∀ u ∈ memZ (eligA P z), VisOk live EI p P limit fE B N g gs cS b f (st.set z u))
    (Q : Exit → Act → World → Prop)
    (hN : (visitL f st z (memZ (eligA P z)) c0 s).1 = false → live (visitL f st z (memZ (eligA P z)) c0 s).2.s → ∀ (W' : World) (v : Int) (sl' : Sl) (ys' : List NdS) (u2 u3 u4 u7 u8 u9 u10 u11 u12 u13 u14 u15 u16 u17 u18 u19 u20 u21 u22 u23 u24 u25 u26 u27 u28 u29 u30 u31 u32 u33 u34 u35 u36 u37 u38 u39 u40 u41 u42 u43 u44 u45 u46 u47 u48 u49 u50 u51 u52 u53 u54 u55 u56 u57 u58 u59 u60 u61 u62 u63 u64 u65 u66 u67 u68 u69 u70 u71 u72 u73 u74 u75 u76 u77 u78 u79 u80 u81 u82 u83 u84 u85 u86 u87 u88 u89 u90 u91 u92 u93 u94 u95 u96 u97 u98 u99 u100 u101 u102 u103 u104 u105 u106 u107 u108 u109 u110 u111 u112 u113 u114 u115 u116 u117 u118 u119 u120 u121 u122 u123 u124 : Value), Sch EI p P limit fE B N g gs cS W' (st.set z v) sl' ys' (visitL f st z (memZ (eligA P z)) c0 s).2 → MvB W W' B N sl.v.ownBlock → NewR W sl.v sl'.v → Q .normal ⟨#[.pointer (some ⟨g, 0, none⟩), .int .i64 (node : Int), u2, u3, u4, .int .i64 (z : Int), .slice Ac q cc, u7, u8, u9, u10, u11, u12, u13, u14, u15, u16, u17, u18, u19, u20, u21, u22, u23, u24, u25, u26, u27, u28, u29, u30, u31, u32, u33, u34, u35, u36, u37, u38, u39, u40, u41, u42, u43, u44, u45, u46, u47, u48, u49, u50, u51, u52, u53, u54, u55, u56, u57, u58, u59, u60, u61, u62, u63, u64, u65, u66, u67, u68, u69, u70, u71, u72, u73, u74, u75, u76, u77, u78, u79, u80, u81, u82, u83, u84, u85, u86, u87, u88, u89, u90, u91, u92, u93, u94, u95, u96, u97, u98, u99, u100, u101, u102, u103, u104, u105, u106, u107, u108, u109, u110, u111, u112, u113, u114, u115, u116, u117, u118, u119, u120, u121, u122, u123, u124], []⟩ W')
    (hR : (visitL f st z (memZ (eligA P z)) c0 s).1 = true → ∀ (W' : World) (st' : List Int) (sl' : Sl) (ys' : List NdS) (a : Act), a.tmps.getD 4 undef = .bool true → a.defers = [] → Sch EI p P limit fE B N g gs cS W' st' sl' ys' (visitL f st z (memZ (eligA P z)) c0 s).2 → MvB W W' B N sl.v.ownBlock → NewR W sl.v sl'.v → Q .ret a W')
    (cx2 cx3 cx4 cx7 cx8 cx9 cx10 cx11 cx12 cx13 cx14 cx15 cx16 cx17 cx18 cx19 cx20 cx21 cx22 cx23 cx24 cx25 cx26 cx27 cx28 cx29 cx30 cx31 cx32 cx33 cx34 cx35 cx36 cx37 cx38 cx39 cx40 cx41 cx42 cx43 cx44 cx45 cx46 cx47 cx48 cx49 cx50 cx51 cx52 cx53 cx54 cx55 cx56 cx57 cx58 cx59 cx60 cx61 cx62 cx63 cx64 cx65 cx66 cx67 cx68 cx69 cx70 cx71 cx72 cx73 cx74 cx75 cx76 cx77 cx78 cx79 cx80 cx81 cx82 cx83 cx84 cx85 cx86 cx87 cx88 cx89 cx90 cx91 cx92 cx93 cx94 cx95 cx96 cx97 cx98 cx99 cx100 cx101 cx102 cx103 cx104 cx105 cx106 cx107 cx108 cx109 cx110 cx111 cx112 cx113 cx114 cx115 cx116 cx117 cx118 cx119 cx120 cx121 cx122 cx123 cx124 : Value) :
    (visPart 9).wp Tryz.prog Q ⟨#[.pointer (some ⟨g, 0, none⟩), .int .i64 (node : Int), cx2, cx3, cx4, .int .i64 (z : Int), .slice Ac q cc, cx7, cx8, cx9, cx10, cx11, cx12, cx13, cx14, cx15, cx16, cx17, cx18, cx19, cx20, cx21, cx22, cx23, cx24, cx25, cx26, cx27, cx28, cx29, cx30, cx31, cx32, cx33, cx34, cx35, cx36, cx37, cx38, cx39, cx40, cx41, cx42, cx43, cx44, cx45, cx46, cx47, cx48, cx49, cx50, cx51, cx52, cx53, cx54, cx55, cx56, cx57, cx58, cx59, cx60, cx61, cx62, cx63, cx64, cx65, cx66, cx67, cx68, cx69, cx70, cx71, cx72, cx73, cx74, cx75, cx76, cx77, cx78, cx79, cx80, cx81, cx82, cx83, cx84, cx85, cx86, cx87, cx88, cx89, cx90, cx91, cx92, cx93, cx94, cx95, cx96, cx97, cx98, cx99, cx100, cx101, cx102, cx103, cx104, cx105, cx106, cx107, cx108, cx109, cx110, cx111, cx112, cx113, cx114, cx115, cx116, cx117, cx118, cx119, cx120, cx121, cx122, cx123, cx124], []⟩ W := by
  have HE := Lib.hid hE
  have Hge := Lib.hid hge
  have Hle := Lib.hid hle
  have Hf := Lib.hid hf
  have HN := Lib.hid hN
  have HR := Lib.hid hR
  clear hE hge hle hf hN hR
  obtain ⟨⟨A1, n1, c1⟩, s2, s3, s4, s5⟩ := p
  have hpl : P.elig.length = n1 := h.pr.l1
  have he1 : SetsAt W B A1 P.elig := h.pr.e1
  have hnB : n1 ≤ 1000000 := h.pr.b1
  obtain ⟨M, hM⟩ : ∃ M, P.elig[z]? = some M := ⟨_, List.getElem?_eq_getElem hz⟩
  obtain ⟨b0, o, X, rfl, hbB, hcX, hset⟩ := he1 z M hM
  have hBW : B ≤ W.heap.size := by have := h.nw; have := h.gB; have := h.gN; omega
  have heA : eligA P z = M := by unfold eligA; rw [Int.toNat_natCast, hM]; rfl
  have hlist := list_any (.agg #[X]) M W (hset.more hBW) h.tab
  have hzn : (z : Int) < (n1 : Int) := by omega
  have hzn' : z < n1 := by omega
  have x0 : W.cell? ⟨g, 0, none⟩ = some (.slice (some ⟨b0, o, none⟩) n1 c1) := (h.blk.cell 0).trans rfl
  rw [← heA] at hlist
  obtain ⟨us, hus⟩ : ∃ us, Hid (us = memZ (eligA P z)) := ⟨_, Lib.hid rfl⟩
  rw [← hus.out] at hlist hq Hle Hf HN HR
  have hqq : q ≤ 1000000 := by omega
  have Hb1 := Lib.hid hb1
  have Hb2 := Lib.hid hb2
  have Hc := Lib.hid hc
  have Hq := Lib.hid hq
  have Hzs := Lib.hid hzs
  have hset0 : st.set z 0 = st := by
    refine List.ext_getElem? fun i => ?_
    by_cases hi : i = z
    · subst hi
      rw [List.getElem?_set_self hzs, List.getElem?_eq_getElem hzs]
      unfold atI at h0
      rw [List.getElem?_eq_getElem hzs] at h0
      exact congrArg some h0.symm
    · rw [List.getElem?_set_ne (Ne.symm hi)]
  have Hset0 := Lib.hid hset0
  have H0 := Lib.hid h
  clear hM heA hset hq hpl hb1 hb2 hc hset0 h0 hzs
  have h := H0.out
  conv => arg 2; whnf
  go_wp2_with fail
  refine hlist.mono ?_
  rintro e W1 ⟨A2, n2, c2, rfl, o2, b1⟩
  have hn2 : us.length = n2 := o2.len
  rw [Hq.out] at hn2
  subst hn2
  have h1 := h.below HE.out hl b1
  have o2' : OwnI W1 N (.slice A2 q c2) q us := o2.more h.nw
  have hch1 := hch.on b1
  clear x0 hcX h hlist o2 hch
  go_wp2_with fail
  go_loopw [100] (fun v100 wr => ∃ (k : Nat) (v : Int) (sl' : Sl) (ys' : List NdS) (s' : VS σ), k ≤ q ∧ v100 = .int .i64 k ∧ UsrR live EI ⟨⟨some ⟨b0, o, none⟩, n1, c1⟩, s2, s3, s4, s5⟩ P limit fE B N g gs cS f b W st sl s z c0 us A2 Ac c2 cc k v sl' ys' s' wr) (fun v100 _ => q - (intOf v100).toNat)
  case atStart => exact ⟨0, 0, sl, ys, s, Nat.zero_le _, rfl, ⟨by rw [Hset0.out]; exact h1, hl, rfl, Nat.le_refl _, by omega, by omega, .ofBelow b1 _ _ _, .refl _ _, by rw [Hq.out]; exact hch1, by rw [Hq.out]; exact o2'⟩⟩
  case round =>
    clear h1 o2' hch1 hl
    obtain ⟨k, v, ⟨An, nn, cn⟩, ys', s', hk, rfl, hR⟩ := hrel
    obtain ⟨W0, rfl⟩ : ∃ W0, W0 = wr := ⟨_, rfl⟩
    by_cases hlt : k < q
    · have hlt' : (k : Int) < (q : Int) := by omega
      obtain ⟨u, hu⟩ : ∃ u, Hid (us[k]? = some u) := ⟨us[k]'(by rw [Hq.out]; exact hlt), Lib.hid (List.getElem?_eq_getElem _)⟩
      have hum : u ∈ us := List.mem_of_getElem? hu.out
      have hs := hR.sch
      have hchs : OwnI W0 N (.slice Ac q cc) q (kidsN c0 q) := by have := hR.chs; rw [Hq.out] at this; exact this
      have husr : OwnI W0 N (.slice A2 q c2) q us := by have := hR.usr; rw [Hq.out] at this; exact this
      have hlen' : (st.set z v).length = st.length := List.length_set
      -- the user
      obtain ⟨ub, uo, eu, hub, hcu⟩ : ∃ ub uo, A2 = some ⟨ub, uo, none⟩ ∧ ub < W0.heap.size ∧ W0.cell? ⟨ub, uo + k, none⟩ = some (.int .i64 u) := by
        obtain ⟨b, o, z', rfl, hb2, Hz, hc⟩ := Sees.int (k := k) husr.sees (by rw [Hq.out]; exact hlt)
        have e : z' = u := by have h1 := Hz.out; rw [hu.out] at h1; exact (Option.some.inj h1).symm
        subst e
        exact ⟨b, o, rfl, hb2, hc⟩
      subst eu
      have hstB : ∃ cs, Blk W0 gs 3 cs := by obtain ⟨cs, h1, _⟩ := own_type hs.stf rfl; exact ⟨cs, h1⟩
      obtain ⟨cs0, hstB⟩ := hstB
      have x5 : W0.cell? ⟨g, 5, none⟩ = some (.slice (some ⟨gs, 0, none⟩) st.length cS) := by have := (hs.blk.cell 5).trans rfl; rw [hlen'] at this; exact this
      have hzi : (z : Int) < (st.length : Int) := by have := Hzs.out; omega
      have hs1 := hs.put HE.out hR.lv (z := z) (by rw [hlen']; exact Hzs.out) u
      rw [List.set_set] at hs1
      have m1 : MvB W (W0.setCell ⟨gs, z, none⟩ (.int .i64 u)) B N sl.v.ownBlock := hR.mv.set hs.sB hs.sN _
      have hchs1 : OwnI (W0.setCell ⟨gs, z, none⟩ (.int .i64 u)) N (.slice Ac q cc) q (kidsN c0 q) := OwnI.same hchs fun j hj => Below.heap_setCell W0 _ _ j (by have := (hchs.lt j hj).1; have := hs.sN; simp; omega)
      have husr1 : OwnI (W0.setCell ⟨gs, z, none⟩ (.int .i64 u)) N (.slice (some ⟨ub, uo, none⟩) q c2) q us := OwnI.same husr fun j hj => Below.heap_setCell W0 _ _ j (by have := (husr.lt j hj).1; have := hs.sN; simp; omega)
      obtain ⟨cb, co, ec, hcb, hcc⟩ : ∃ cb co, Ac = some ⟨cb, co, none⟩ ∧ cb < (W0.setCell ⟨gs, z, none⟩ (.int .i64 u)).heap.size ∧ (W0.setCell ⟨gs, z, none⟩ (.int .i64 u)).cell? ⟨cb, co + k, none⟩ = some (.int .i64 ((c0 + k : Nat) : Int)) := by
        obtain ⟨b, o, z', rfl, hb2, Hz, hc⟩ := Sees.int (k := k) hchs1.sees (by rw [kidsN_len]; exact hlt)
        have e : z' = ((c0 + k : Nat) : Int) := by
          have h1 := Hz.out
          unfold kidsN at h1
          rw [List.getElem?_map, List.getElem?_range hlt] at h1
          exact (Option.some.inj h1).symm
        subst e
        exact ⟨b, o, rfl, hb2, hc⟩
      subst ec
      have hv := Hf.out u hum (c0 + k) s' (W0.setCell ⟨gs, z, none⟩ (.int .i64 u)) ⟨An, nn, cn⟩ ys' (by have := hR.ge; have := Hc.out; omega)
        (by have := hR.le1; have h2 := Nat.mul_le_mul_right b (show k + 1 ≤ q by omega); rw [Nat.succ_mul] at h2; have := Hb1.out; omega)
        (by have := hR.le2; have h2 := Nat.mul_le_mul_right (1 + b) (show k + 1 ≤ q by omega); rw [Nat.succ_mul] at h2; have := Hb2.out; omega) hR.lv hs1
      have hrem := Lib.hid hR.rem
      have hdrop := Lib.hid (visitL_drop (f := f) (st := st) (z := z) (c := c0) (s' := s') hu.out)
      have hbd := Lib.hid (Hle.out u hum (c0 + k) s')
      have hg1 := Lib.hid (Hge.out (st.set z u) (c0 + k) s')
      have m1n : NewR W sl.v (Sl.v ⟨An, nn, cn⟩) := hR.nr
      obtain ⟨r, hr⟩ : ∃ r, Hid (r = f (st.set z u) (c0 + k) s') := ⟨_, Lib.hid rfl⟩
      rw [← hr.out] at hv
      have HV := Lib.hid hv
      have S1 := Lib.hid hs1
      have le1 := Lib.hid hR.le1
      have le2 := Lib.hid hR.le2
      have rge := Lib.hid hR.ge
      obtain ⟨rb, hrb⟩ : ∃ rb, Hid (rb = r.1) := ⟨_, Lib.hid rfl⟩
      have hcast : ((c0 + k : Nat) : Int) = (c0 : Int) + (k : Int) := by omega
      have f5 : W0.frozen? ⟨gs, z, none⟩ = false := hstB.frozen z
      obtain ⟨y5v, y5⟩ : ∃ y, W0.cell? ⟨gs, z, none⟩ = some y := by
        obtain ⟨b, o, z', e, hb2, Hz, hc⟩ := Sees.int (k := z) (OwnI.sees hs.stf) (by rw [hlen']; exact Hzs.out)
        injection e with e
        injection e with e1 e2
        subst e1 e2
        rw [Nat.zero_add] at hc
        exact ⟨_, hc⟩
      clear hv hs hs1 hR hchs husr hlen' hum hstB
      go_upto_region 21 with fail
      generalize (W0.setCell ⟨gs, z, none⟩ (.int .i64 u)) = W9 at m1 hchs1 husr1 hcb hcc HV S1 ⊢
      rw [hcast] at hcc
      have hv := HV.out
      rw [hcast] at hv
      clear hcast f5 x5 hcu y5
      go_wp2_with fail
      refine hv.mono ?_
      rintro e W10 ⟨rfl, st', sl', ys2, hS2, hf2, mv2, nr2⟩
      have m2 := m1.trans m1n mv2
      have n2 := m1n.trans m1.size nr2
      rw [← hrb.out] at hf2 ⊢
      cases hrbv : rb
      · obtain ⟨rfl, hl2⟩ := hf2 hrbv
        have e1 : r.1 = false := by rw [← hrb.out, hrbv]
        have hch2 : OwnI W10 N (.slice (some ⟨cb, co, none⟩) q cc) q (kidsN c0 q) := OwnI.same hchs1 fun j hj => mv2.block j (hchs1.lt j hj).2 (.inr (hchs1.lt j hj).1) fun e => by
          obtain ⟨cs', hb', _⟩ := own_type hchs1 hj
          exact own_ntype S1.out.row hb' (by decide) e
        have hus2 : OwnI W10 N (.slice (some ⟨ub, uo, none⟩) q c2) q us := OwnI.same husr1 fun j hj => mv2.block j (husr1.lt j hj).2 (.inr (husr1.lt j hj).1) fun e => by
          obtain ⟨cs', hb', _⟩ := own_type husr1 hj
          exact own_ntype S1.out.row hb' (by decide) e
        have hU : UsrR live EI ⟨⟨some ⟨b0, o, none⟩, n1, c1⟩, s2, s3, s4, s5⟩ P limit fE B N g gs cS f b W st sl s z c0 us (some ⟨ub, uo, none⟩) (some ⟨cb, co, none⟩) c2 cc (k + 1) u sl' ys2 r.2 W10 := by
          refine ⟨hS2, hl2, ?_, ?_, ?_, ?_, m2, n2, by rw [Hq.out]; exact hch2, by rw [Hq.out]; exact hus2⟩
          · rw [← hrem.out, hdrop.out, ← hr.out, if_neg (by rw [e1]; simp)]
          · have := hg1.out; rw [← hr.out] at this; exact Nat.le_trans rge.out this
          · have h1 := hbd.out.1; rw [← hr.out] at h1; have := le1.out; rw [Nat.succ_mul]; omega
          · have h1 := hbd.out.2; rw [← hr.out] at h1; have := le2.out; rw [Nat.succ_mul]; omega
        have HU := Lib.hid hU
        clear hU hch2 hus2 hf2 hrbv m1 m2 n2 nr2 mv2 hS2 hchs1 husr1 hl2 hcc hv hrb
        go_wp2_with fail
        go_roundw
        case rel => exact ⟨k + 1, u, sl', ys2, r.2, by omega, by go_num, HU.out⟩
        case measure => simp [intOf]; omega
      · have e1 : r.1 = true := by rw [← hrb.out, hrbv]
        have eR : visitL f st z us c0 s = (true, r.2) := by rw [← hrem.out, hdrop.out, ← hr.out, if_pos e1]
        have HS2 := Lib.hid hS2
        have M2 := Lib.hid m2
        have N2 := Lib.hid n2
        have ER := Lib.hid eR
        clear eR hf2 hrbv m1 m2 n2 nr2 mv2 hS2 hchs1 husr1 hcc hv hrb e1
        go_wp2_with fail
        exact HR.out (by rw [ER.out]) W10 st' sl' ys2 _ rfl rfl (by rw [ER.out]; exact HS2.out) M2.out N2.out
    · obtain rfl : k = q := by omega
      have hlt' : ¬ (k : Int) < (k : Int) := by omega
      have hrem := hR.rem
      rw [List.drop_of_length_le (by rw [Hq.out]; exact Nat.le_refl _)] at hrem
      have Hrem := Lib.hid hrem
      clear hrem
      go_wp2_with fail
      exact HN.out (by rw [← Hrem.out]; rfl) (by rw [← Hrem.out]; exact hR.lv) W0 v ⟨An, nn, cn⟩ ys' _ _ _ _ _ _ _ _ _ _ _ _ _ _ _ _ _ _ _ _ _ _ _ _ _ _ _ _ _ _ _ _ _ _ _ _ _ _ _ _ _ _ _ _ _ _ _ _ _ _ _ _ _ _ _ _ _ _ _ _ _ _ _ _ _ _ _ _ _ _ _ _ _ _ _ _ _ _ _ _ _ _ _ _ _ _ _ _ _ _ _ _ _ _ _ _ _ _ _ _ _ _ _ _ _ _ _ _ _ _ _ _ _ _ _ _ _ _ _ _ _ (by rw [← Hrem.out]; exact hR.sch) hR.mv hR.nr
end Go.Proofs.YtcnofhlgiffkjaaGreatDoor
/- The walk of visit. (genst.py) -/
namespace Go.Proofs.YtcnofhlgiffkjaaGreatDoor
open Go.RowKit
set_option linter.unusedVariables false
set_option linter.unusedSimpArgs false

theorem sch_cells {w : World} {g t : Nat} {a0 a1 a2 a3 a4 a5 a6 a7 a8 a9 : Value} (h : Blk w g t #[a0, a1, a2, a3, a4, a5, a6, a7, a8, a9]) :
    w.cell? ⟨g, 0, none⟩ = some a0 ∧ w.cell? ⟨g, 1, none⟩ = some a1 ∧ w.cell? ⟨g, 2, none⟩ = some a2 ∧ w.cell? ⟨g, 3, none⟩ = some a3 ∧ w.cell? ⟨g, 4, none⟩ = some a4 ∧ w.cell? ⟨g, 5, none⟩ = some a5 ∧ w.cell? ⟨g, 6, none⟩ = some a6 ∧ w.cell? ⟨g, 7, none⟩ = some a7 ∧ w.cell? ⟨g, 8, none⟩ = some a8 ∧ w.cell? ⟨g, 9, none⟩ = some a9 :=
  ⟨(h.cell 0).trans rfl, (h.cell 1).trans rfl, (h.cell 2).trans rfl, (h.cell 3).trans rfl, (h.cell 4).trans rfl, (h.cell 5).trans rfl, (h.cell 6).trans rfl, (h.cell 7).trans rfl, (h.cell 8).trans rfl, (h.cell 9).trans rfl⟩
theorem Sch.nodeCells {σ : Type} {EI : σ → World → Prop} {p : PrV} {P : Pr} {limit : Nat} {fE : Value} {B N g gs cS : Nat} {w : World} {st : List Int} {gr n c i : Nat} {ys : List NdS} {s : VS σ} (h : Sch EI p P limit fE B N g gs cS w st ⟨some ⟨gr, 0, none⟩, n, c⟩ ys s) (hi : i < n) :
    (∃ a0 a1 a2 a3, w.cell? ⟨gr, i * 4, none⟩ = some a0 ∧ w.cell? ⟨gr, i * 4 + 1, none⟩ = some a1 ∧ w.cell? ⟨gr, i * 4 + 2, none⟩ = some a2 ∧ w.cell? ⟨gr, i * 4 + 3, none⟩ = some a3) ∧ ∃ cs, Blk w gr 95 cs := by
  have hrow : w.ownsRow B 95 4 (.slice (some ⟨gr, 0, none⟩) n c) n (ys.flatMap (NdS.cs .u8)) := h.row
  obtain ⟨g', cs, e, hBg, hb⟩ := own_blk hrow (by omega)
  injection e with e
  injection e with e _ _
  subst e
  have hl := h.len
  have hiy : i < ys.length := by rw [hl]; exact hi
  have hO : OwnNs .u8 95 w 0 (.slice (some ⟨gr, 0, none⟩) n c) n ys := ⟨own_less hrow (Nat.zero_le _), fun y hy => (h.nd y hy).less (Nat.zero_le _)⟩
  obtain ⟨b9, o9, e9, _, q0, q1, q2, q3⟩ := hO.get (List.getElem?_eq_getElem hiy)
  injection e9 with e9
  injection e9 with e91 e92 _
  subst e91 e92
  simp only [Nat.zero_add] at q0 q1 q2 q3
  exact ⟨⟨_, _, _, _, q0, q1, q2, q3⟩, _, hb⟩
theorem Sch.staffCell {σ : Type} {EI : σ → World → Prop} {p : PrV} {P : Pr} {limit : Nat} {fE : Value} {B N g gs cS : Nat} {w : World} {st : List Int} {sl : Sl} {z : Nat} {ys : List NdS} {s : VS σ} (h : Sch EI p P limit fE B N g gs cS w st sl ys s) (hz : z < st.length) :
    (∃ y, w.cell? ⟨gs, z, none⟩ = some y) ∧ w.frozen? ⟨gs, z, none⟩ = false := by
  obtain ⟨cs, hb, _⟩ := own_type h.stf rfl
  obtain ⟨b, o, z', e, hb2, Hz, hc⟩ := Sees.int (k := z) (OwnI.sees h.stf) hz
  injection e with e
  injection e with e1 e2
  subst e1 e2
  rw [Nat.zero_add] at hc
  exact ⟨⟨_, hc⟩, hb.frozen z⟩
theorem ret_t4 {fn : Func} {R : Ending → World → Prop} {a : Act} {w : World} {q : Tmp} {v : Value} (h : fn.results = #[.tmp q]) (hp : a.tmps.getD q undef = v) (hd : a.defers = []) (hR : R (.returned v) w) : bodyPost Tryz.prog fn R .ret a w :=
  bodyPost_ret (v := v) (by rw [results_tmp h, hp]) hd hR
theorem set_back {st : List Int} {z : Nat} (h0 : atI st z = 0) (hz : z < st.length) (v : Int) : (st.set z v).set z 0 = st := by
  rw [List.set_set]
  refine List.ext_getElem? fun i => ?_
  by_cases hi : i = z
  · subst hi
    rw [List.getElem?_set_self hz, List.getElem?_eq_getElem hz]
    unfold atI at h0
    rw [List.getElem?_eq_getElem hz] at h0
    exact congrArg some h0.symm
  · rw [List.getElem?_set_ne (Ne.symm hi)]
theorem vis_split : visBody = .seq (headC visBody) (.seq (visPart 1) (.seq (visPart 2) (.seq (visPart 3) (.seq (visPart 4) (.seq (visPart 5) (.seq (visPart 6) (.seq (visPart 7) (.seq (visPart 8) (.seq (visPart 9) (tailC 10 visBody)))))))))) := by kernel_rfl
/-- What the search asks of its caller. -/
structure CallerOk {σ : Type} (live : σ → Prop) (EI : σ → World → Prop) (each : σ → List Int → Bool × σ) (kf g1 g2 B N g gs : Nat) : Prop where
  keep : ∀ s w w', live s → EI s w → Kept w w' N g gs → EI s w'
  ent : ∀ args w, (callFunc kf args).run Tryz.prog w = .ok (.enter kf args) w
  alive : ∀ s l, (each s l).1 = false → live (each s l).2
  call : ∀ (s : σ) (w : World) (A : Option Addr) (n c : Nat) (l : List Int), live s → EI s w → N ≤ w.heap.size → OwnI w N (.slice A n c) n l → n ≤ 10 →
    Calls Tryz.prog kf #[.slice A n c, .pointer (some ⟨g1, 0, none⟩), .pointer (some ⟨g2, 0, none⟩)] w fun e w' => e = .returned (.bool (each s l).1) ∧ EI (each s l).2 w' ∧ Each w w' B N g gs
set_option maxHeartbeats 16000000 in
set_option maxRecDepth 100000 in
theorem visit_step {σ : Type} {live : σ → Prop} {EI : σ → World → Prop} {each : σ → List Int → Bool × σ} {kf g1 g2 B N g gs cS limit : Nat} {p : PrV} {P : Pr} (hK : CallerOk live EI each kf g1 g2 B N g gs) (hc : chkP P = 0)
    (rec : List Int → Nat → VS σ → Bool × VS σ) (b K : Nat) (st : List Int) (hst : st.length = P.elig.length) (hEl : ∀ z : Nat, (memZ (eligA P z)).length ≤ K)
    (hge : ∀ st node s, s.nds.length ≤ (rec st node s).2.nds.length)
    (hle : ∀ z, idx0 st = some z → ∀ u ∈ memZ (eligA P z), ∀ node s, (rec (st.set z u) node s).2.nds.length ≤ s.nds.length + b ∧ (rec (st.set z u) node s).2.looked ≤ s.looked + 1 + b)
    (hf : ∀ z, idx0 st = some z → ∀ u ∈ memZ (eligA P z), VisOk live EI p P limit (.func (.func kf) #[] #[.pointer (some ⟨g1, 0, none⟩), .pointer (some ⟨g2, 0, none⟩)]) B N g gs cS b rec (st.set z u)) :
    VisOk live EI p P limit (.func (.func kf) #[] #[.pointer (some ⟨g1, 0, none⟩), .pointer (some ⟨g2, 0, none⟩)]) B N g gs cS (K + K * b) (visitB P limit each rec) st := by
  intro node s w sl ys hnode hb1 hb2 hlv h
  obtain ⟨slA, sln, slc⟩ := sl
  have hsz : s.nds.length = sln := h.size
  have hnl : node < sln := by omega
  obtain ⟨gr, csr, hgr, hBgr, _⟩ := own_blk (show w.ownsRow B 95 4 (.slice slA sln slc) sln _ from h.row) (by omega)
  subst hgr
  obtain ⟨fE, hfE⟩ : ∃ v : Value, v = .func (.func kf) #[] #[.pointer (some ⟨g1, 0, none⟩), .pointer (some ⟨g2, 0, none⟩)] := ⟨_, rfl⟩
  rw [← hfE] at hf h ⊢
  have HE := Lib.hid hK.keep
  have ec : ((s.looked + 1 : Nat) : Int) = (s.looked : Int) + 1 := by omega
  have h1 := h.look HE.out hlv (s.looked + 1)
  have m1 : MvB w (w.setCell ⟨g, 7, none⟩ (.int .i64 ((s.looked + 1 : Nat) : Int))) B N (some gr) := (MvB.refl w B N _).set h.gB h.gN _
  have hfull := full_any g limit (s.looked + 1) (w.setCell ⟨g, 7, none⟩ (.int .i64 ((s.looked + 1 : Nat) : Int))) ((h1.blk.cell 7).trans rfl) ((h1.blk.cell 8).trans rfl)
  rw [ec] at h1 m1 hfull
  have y7 : w.cell? ⟨g, 7, none⟩ = some (.int .i64 (s.looked : Int)) := (h.blk.cell 7).trans rfl
  have f7 := h.blk.frozen 7
  have hlk : (s.looked : Int) ≤ 1000000 := by omega
  have HLV := Lib.hid hlv
  by_cases hfu : fullB limit (s.looked + 1) = true
  · have e : visitB P limit each rec st node s = (true, ⟨s.nds, s.looked + 1, s.s⟩) := by unfold visitB; rw [if_pos hfu]
    rw [e]
    rw [hfu] at hfull
    have H1 := Lib.hid h1
    have M1 := Lib.hid m1
    have HV := Lib.hid hfull
    clear e hfu hfull h1 m1 h hf hle hge hK hfE hb1 hb2 hst hEl hnode hlv
    go_enter Tryz.func28, Tryz.ntmps28
    go_upto_region 2 with fail
    generalize (w.setCell ⟨g, 7, none⟩ (.int .i64 ((s.looked : Int) + 1))) = W1 at H1 M1 HV ⊢
    have hv := HV.out
    clear y7 f7 HV
    go_wp2_with fail
    refine hv.mono ?_
    rintro e W2' ⟨rfl, qd, rfl⟩
    have H2 := Lib.hid (H1.out.below HE.out HLV.out (below_drewN (Below.refl _ W1) qd))
    have M2 := Lib.hid (M1.out.belowW ((below_drewN (Below.refl _ W1) qd).mono M1.out.size))
    generalize W1.drewN qd = W2 at H2 M2 ⊢
    clear hv H1 M1 ec hlk
    go_wp2_with fail
    go_ret
    exact ⟨rfl, st, _, ys, H2.out, fun e => (by cases e), M2.out, NewR.refl _ _⟩
  · have hfu' : fullB limit (s.looked + 1) = false := by simpa using hfu
    rw [hfu'] at hfull
    have hn0 : st.length ≤ 10 := by rw [hst]; exact (chkP_ok hc).n10
    have hbr := fun (W : World) (hW : Sch EI p P limit fE B N g gs cS W st ⟨some ⟨gr, 0, none⟩, sln, slc⟩ ys ⟨s.nds, s.looked + 1, s.s⟩) => Broken_any p P (some ⟨gs, 0, none⟩) st.length cS st W (hW.pr.more (by have := hW.nw; have := hW.gB; have := hW.gN; omega)) (OwnI.sees hW.stf) rfl (by omega) hW.tab
    by_cases hb : BrokenB P st = true
    · have e : visitB P limit each rec st node s = (false, ⟨s.nds.set node ⟨2, 0, [], []⟩, s.looked + 1, s.s⟩) := by unfold visitB; rw [if_neg hfu, if_pos hb]
      rw [e]
      rw [hb] at hbr
      have H1 := Lib.hid h1
      have M1 := Lib.hid m1
      have HV := Lib.hid hfull
      have HB := Lib.hid hbr
      have Hnd := Lib.hid hnode
      clear e hfu hfu' hfull h1 m1 h hf hle hge hK hfE hb1 hb2 hst hEl hnode hlv hbr hb
      go_enter Tryz.func28, Tryz.ntmps28
      go_upto_region 2 with fail
      generalize (w.setCell ⟨g, 7, none⟩ (.int .i64 ((s.looked : Int) + 1))) = W1 at H1 M1 HV ⊢
      have hv := HV.out
      clear y7 f7 HV
      go_wp2_with fail
      refine hv.mono ?_
      rintro e W2' ⟨rfl, qd, rfl⟩
      have H2 := Lib.hid (H1.out.below HE.out HLV.out (below_drewN (Below.refl _ W1) qd))
      have M2 := Lib.hid (M1.out.belowW ((below_drewN (Below.refl _ W1) qd).mono M1.out.size))
      generalize W1.drewN qd = W2 at H2 M2 ⊢
      clear hv H1 M1 ec hlk
      obtain ⟨x0, x1, x2, x3, x4, x5, x6, x7, x8, x9⟩ := sch_cells H2.out.blk
      go_wp2_with fail
      go_still_tail 8, (by kernel_rfl)
      change wpList _ _ _ _ _ W2.drew
      have H3 := Lib.hid (H2.out.below HE.out HLV.out (Below.refl _ W2).drew)
      have M3 := Lib.hid (M2.out.belowW (((Below.refl _ W2).drew).mono M2.out.size))
      generalize W2.drew = W3 at H3 M3 ⊢
      have hb3 := HB.out W3 H3.out
      clear x0 x1 x2 x3 x4 x5 x6 x7 x8 x9 H2 M2 HB
      go_wp2_with fail
      refine hb3.mono ?_
      rintro e W4 ⟨rfl, b4⟩
      have H4 := Lib.hid (H3.out.below HE.out HLV.out b4)
      have M4 := Lib.hid (M3.out.belowW (b4.mono M3.out.size))
      clear hb3 b4 H3 M3
      obtain ⟨⟨q0, q1, q2, q3, z0, z1, z2, z3⟩, csb, hbk⟩ := H4.out.nodeCells hnl
      have f0 := hbk.frozen (node * 4)
      have f1 := hbk.frozen (node * 4 + 1)
      have f2 := hbk.frozen (node * 4 + 2)
      have f3 := hbk.frozen (node * 4 + 3)
      have x6 : W4.cell? ⟨g, 6, none⟩ = some (.slice (some ⟨gr, 0, none⟩) sln slc) := (H4.out.blk.cell 6).trans rfl
      have hni : (node : Int) < (sln : Int) := by omega
      clear hbk
      go_wp2_with fail
      have H5 := H4.out.store (sl := ⟨none, sln, slc⟩) HE.out HLV.out hnl (y := ⟨⟨2, 0, [], []⟩, ⟨none, 0, 0⟩, ⟨none, 0, 0⟩⟩) ⟨by show 2 < 256; omega, OwnI.nil _ _, OwnI.nil _ _, by show 0 ≤ 1000000; omega, by show 0 ≤ 1000000; omega⟩
      have M5 := M4.out.set4 (gr := gr) (o := node * 4) (.inl rfl) (.int .u8 ((2 : Nat) : Int)) (.int .i64 0) (.slice none 0 0) (.slice none 0 0)
      go_ret
      exact ⟨rfl, st, _, _, H5, fun _ => ⟨rfl, HLV.out⟩, M5, NewR.refl _ _⟩
    · have hb' : BrokenB P st = false := by simpa using hb
      rw [hb'] at hbr
      cases hz : idx0 st with
      | none =>
        have e : visitB P limit each rec st node s = ((each s.s st).1, ⟨s.nds, s.looked + 1, (each s.s st).2⟩) := by unfold visitB; rw [if_neg hfu, if_neg hb, hz]
        rw [e]
        subst hfE
        have hix := fun (W : World) (hW : Sch EI p P limit (.func (.func kf) #[] #[.pointer (some ⟨g1, 0, none⟩), .pointer (some ⟨g2, 0, none⟩)]) B N g gs cS W st ⟨some ⟨gr, 0, none⟩, sln, slc⟩ ys ⟨s.nds, s.looked + 1, s.s⟩) => idx0_any (some ⟨gs, 0, none⟩) st.length cS st W (OwnI.sees hW.stf) rfl (by omega)
        rw [hz] at hix
        simp only [idxV] at hix
        have H1 := Lib.hid h1
        have M1 := Lib.hid m1
        have HV := Lib.hid hfull
        have HB := Lib.hid hbr
        have HX := Lib.hid hix
        have HK := Lib.hid hK
        have Hn10 := Lib.hid hn0
        clear e hfu hfu' hfull h1 m1 h hf hle hge hK hb1 hb2 hst hEl hnode hlv hbr hb hb' hz hix hn0
        go_enter Tryz.func28, Tryz.ntmps28
        go_upto_region 2 with fail
        generalize (w.setCell ⟨g, 7, none⟩ (.int .i64 ((s.looked : Int) + 1))) = W1 at H1 M1 HV ⊢
        have hv := HV.out
        clear y7 f7 HV
        go_wp2_with fail
        refine hv.mono ?_
        rintro e W2' ⟨rfl, qd, rfl⟩
        have H2 := Lib.hid (H1.out.below HE.out HLV.out (below_drewN (Below.refl _ W1) qd))
        have M2 := Lib.hid (M1.out.belowW ((below_drewN (Below.refl _ W1) qd).mono M1.out.size))
        generalize W1.drewN qd = W2 at H2 M2 ⊢
        clear hv H1 M1 ec hlk
        obtain ⟨x0, x1, x2, x3, x4, x5, x6, x7, x8, x9⟩ := sch_cells H2.out.blk
        go_wp2_with fail
        go_still_tail 8, (by kernel_rfl)
        change wpList _ _ _ _ _ W2.drew
        have H3 := Lib.hid (H2.out.below HE.out HLV.out (Below.refl _ W2).drew)
        have M3 := Lib.hid (M2.out.belowW (((Below.refl _ W2).drew).mono M2.out.size))
        generalize W2.drew = W3 at H3 M3 ⊢
        have hb3 := HB.out W3 H3.out
        clear x0 x1 x2 x3 x4 x5 x6 x7 x8 x9 H2 M2 HB
        go_wp2_with fail
        refine hb3.mono ?_
        rintro e W4 ⟨rfl, b4⟩
        have H4 := Lib.hid (H3.out.below HE.out HLV.out b4)
        have M4 := Lib.hid (M3.out.belowW (b4.mono M3.out.size))
        clear hb3 b4 H3 M3
        have x5 : W4.cell? ⟨g, 5, none⟩ = some (.slice (some ⟨gs, 0, none⟩) st.length cS) := (H4.out.blk.cell 5).trans rfl
        have hx := HX.out W4 H4.out
        go_wp2_with fail
        refine hx.mono ?_
        rintro e W5 ⟨rfl, rfl⟩
        have x9 : W4.cell? ⟨g, 9, none⟩ = some (.func (.func kf) #[] #[.pointer (some ⟨g1, 0, none⟩), .pointer (some ⟨g2, 0, none⟩)]) := (H4.out.blk.cell 9).trans rfl
        clear hx
        go_wp2_with fail
        have H5 := Lib.hid (H4.out.below HE.out HLV.out (Below.refl _ W4).drew)
        have M5 := Lib.hid (M4.out.belowW (((Below.refl _ W4).drew).mono M4.out.size))
        have bx : ∀ W : World, Sch EI p P limit (.func (.func kf) #[] #[.pointer (some ⟨g1, 0, none⟩), .pointer (some ⟨g2, 0, none⟩)]) B N g gs cS W st ⟨some ⟨gr, 0, none⟩, sln, slc⟩ ys ⟨s.nds, s.looked + 1, s.s⟩ → W.cell? ⟨g, 9, none⟩ = some (.func (.func kf) #[] #[.pointer (some ⟨g1, 0, none⟩), .pointer (some ⟨g2, 0, none⟩)]) ∧ W.cell? ⟨g, 5, none⟩ = some (.slice (some ⟨gs, 0, none⟩) st.length cS) := fun W h => ⟨(h.blk.cell 9).trans rfl, (h.blk.cell 5).trans rfl⟩
        have bx' : ∀ (W : World) (s' : σ), Sch EI p P limit (.func (.func kf) #[] #[.pointer (some ⟨g1, 0, none⟩), .pointer (some ⟨g2, 0, none⟩)]) B N g gs cS W st ⟨some ⟨gr, 0, none⟩, sln, slc⟩ ys ⟨s.nds, s.looked + 1, s'⟩ → W.cell? ⟨g, 9, none⟩ = some (.func (.func kf) #[] #[.pointer (some ⟨g1, 0, none⟩), .pointer (some ⟨g2, 0, none⟩)]) ∧ W.cell? ⟨g, 5, none⟩ = some (.slice (some ⟨gs, 0, none⟩) st.length cS) := fun W s' h => ⟨(h.blk.cell 9).trans rfl, (h.blk.cell 5).trans rfl⟩
        have hcl := cloneI_any (some ⟨gs, 0, none⟩) st.length cS st W4.drew (OwnI.sees H5.out.stf) rfl (by have := Hn10.out; omega)
        have hca := Lib.hid HK.out.call
        have hent := HK.out.ent
        clear H4 M4 x5 x9
        rename_i zz1
        go_region_held3 (fun w' => w'.cell? ⟨g, 9, none⟩ = some (.func (.func kf) #[] #[.pointer (some ⟨g1, 0, none⟩), .pointer (some ⟨g2, 0, none⟩)]) ∧ w'.cell? ⟨g, 5, none⟩ = some (.slice (some ⟨gs, 0, none⟩) st.length cS))
          (first | exact bx' W7 _ H7 | exact bx W6 H6 | exact bx _ H5.out)
          (first
            | (go_at_call 23; refine hcl.mono ?_; rintro e W6 ⟨A6, c6, rfl, o6, b6⟩; have H6 := H5.out.below HE.out HLV.out b6)
            | (go_simp; refine (hca.out s.s W6 A6 st.length c6 st HLV.out H6.ei H6.nw (OwnI.more o6 H5.out.nw) Hn10.out).mono ?_; rintro e W7 ⟨rfl, i7, e7⟩; have H7 := H6.each e7 i7))
        have M7 := M5.out.trans (v := .slice (some ⟨gr, 0, none⟩) sln slc) (NewR.refl _ _) ((MvB.ofBelow b6 B N (some gr)).trans (v := .slice (some ⟨gr, 0, none⟩) sln slc) (NewR.refl _ _) (e7.mv (some gr)))
        have halv := HK.out.alive s.s st
        clear hent hca hcl bx bx' i7 e7 b6 H6 o6
        go_wp2_with fail
        go_ret
        exact ⟨rfl, st, _, ys, H7, fun e => ⟨rfl, halv e⟩, M7, NewR.refl _ _⟩
      | some z =>
        obtain ⟨z1, z2, _⟩ := idx0_some hz
        have e : visitB P limit each rec st node s = visitL rec st z (memZ (eligA P z)) s.nds.length (laidB P node z ⟨s.nds, s.looked + 1, s.s⟩) := by unfold visitB; rw [if_neg hfu, if_neg hb, hz]
        rw [e]
        have hle := hle z hz
        have hf := hf z hz
        have hix := fun (W : World) (hW : Sch EI p P limit fE B N g gs cS W st ⟨some ⟨gr, 0, none⟩, sln, slc⟩ ys ⟨s.nds, s.looked + 1, s.s⟩) => idx0_any (some ⟨gs, 0, none⟩) st.length cS st W (OwnI.sees hW.stf) rfl (by omega)
        rw [hz] at hix
        simp only [idxV] at hix
        obtain ⟨q, hq⟩ : ∃ q, (memZ (eligA P z)).length = q := ⟨_, rfl⟩
        have hqK : q ≤ K := by rw [← hq]; exact hEl z
        have hqb : q * b ≤ K * b := Nat.mul_le_mul_right b hqK
        have hzE : z < P.elig.length := by rw [← hst]; exact z1
        have hz0 : (0 : Int) ≤ (z : Int) := by omega
        have hz0' : ¬ (z : Int) < 0 := by omega
        have H1 := Lib.hid h1
        have M1 := Lib.hid m1
        have HV := Lib.hid hfull
        have HB := Lib.hid hbr
        have HX := Lib.hid hix
        have Hf := Lib.hid hf
        have Hle := Lib.hid hle
        have Hge := Lib.hid hge
        have Hq := Lib.hid hq
        have Hb1 := Lib.hid hb1
        have Hb2 := Lib.hid hb2
        have Hqb := Lib.hid hqb
        have Hz2 := Lib.hid z2
        have Hsz := Lib.hid hsz
        clear e hfu hfu' hfull h1 m1 h hf hle hge hK hb1 hb2 hst hEl hnode hlv hbr hb hb' hz hix hfE hq hqb z2 hsz
        refine calls_of_wp (c := visBody) Tryz.func28 rfl ?_
        simp only [Tryz.ntmps28, List.size_toArray, List.length_cons, List.length_nil, Nat.reduceAdd, Nat.reduceSub, Array.replicate_succ, Array.replicate_zero, List.push_toArray, List.append_toArray, List.nil_append, List.cons_append]
        rw [vis_split]
        refine wp_seq_k fun K0 hK0 => ?_
        conv => arg 2; whnf
        go_wp2_with fail
        conv => arg 2; whnf
        go_wp2_with fail
        conv => arg 2; whnf
        generalize (w.setCell ⟨g, 7, none⟩ (.int .i64 ((s.looked : Int) + 1))) = W1 at H1 M1 HV ⊢
        have hv := HV.out
        clear y7 f7 HV
        go_wp2_with fail
        refine hv.mono ?_
        rintro e W2' ⟨rfl, qd, rfl⟩
        have H2 := Lib.hid (H1.out.below HE.out HLV.out (below_drewN (Below.refl _ W1) qd))
        have M2 := Lib.hid (M1.out.belowW ((below_drewN (Below.refl _ W1) qd).mono M1.out.size))
        generalize W1.drewN qd = W2 at H2 M2 ⊢
        clear hv H1 M1 ec hlk
        go_wp2_with fail
        conv => arg 2; whnf
        obtain ⟨x0, x1, x2, x3, x4, x5, x6, x7, x8, x9⟩ := sch_cells H2.out.blk
        go_wp2_with fail
        go_still_tail 8, (by kernel_rfl)
        change wpList _ _ _ _ _ W2.drew
        have H3 := Lib.hid (H2.out.below HE.out HLV.out (Below.refl _ W2).drew)
        have M3 := Lib.hid (M2.out.belowW (((Below.refl _ W2).drew).mono M2.out.size))
        generalize W2.drew = W3 at H3 M3 ⊢
        have hb3 := HB.out W3 H3.out
        clear x0 x1 x2 x3 x4 x5 x6 x7 x8 x9 H2 M2 HB
        go_wp2_with fail
        refine hb3.mono ?_
        rintro e W4 ⟨rfl, b4⟩
        have H4 := Lib.hid (H3.out.below HE.out HLV.out b4)
        have M4 := Lib.hid (M3.out.belowW (b4.mono M3.out.size))
        clear hb3 b4 H3 M3
        go_wp2_with fail
        have x5 : W4.cell? ⟨g, 5, none⟩ = some (.slice (some ⟨gs, 0, none⟩) st.length cS) := (H4.out.blk.cell 5).trans rfl
        have hx := HX.out W4 H4.out
        conv => arg 2; whnf
        go_wp2_with fail
        refine hx.mono ?_
        rintro e W5 ⟨rfl, rfl⟩
        clear hx HX x5
        go_wp2_with fail
        conv => arg 2; whnf
        go_wp2_with fail
        conv => arg 2; whnf
        go_wp2_with fail
        refine vis_kids H4.out HE.out HLV.out node z q hzE Hq.out (by show s.nds.length + q ≤ 1000000; have := Hb1.out; omega) _ ?_ _ _ _ _ _ _ _ _ _ _ _ _ _ _ _ _ _ _ _ _ _ _ _ _ _ _ _ _ _ _ _ _ _ _ _ _ _ _ _ _ _ _ _ _ _ _ _ _ _ _ _ _ _ _ _ _ _ _ _ _ _ _ _ _ _ _ _ _ _ _ _ _ _ _ _ _ _ _ _ _ _ _ _ _ _ _ _ _ _ _ _ _ _ _ _ _ _ _ _ _ _ _ _ _ _ _ _ _ _ _ _ _ _ _ _ _ _ _ _ _ _
        intro W5 Ac cc sl' u2 u3 u4 u7 u8 u9 u10 u11 u12 u13 u14 u15 u16 u17 u18 u19 u20 u21 u22 u23 u24 u25 u26 u27 u28 u29 u30 u31 u32 u33 u34 u35 u36 u37 u38 u39 u40 u41 u42 u43 u44 u45 u46 u47 u48 u49 u50 u51 u52 u53 u54 u55 u56 u57 u58 u59 u60 u61 u62 u63 u64 u65 u66 u67 u68 u69 u70 u71 u72 u73 u74 u75 u76 u77 u78 u79 u80 u81 u82 u83 u84 u85 u86 u87 u88 u89 u90 u91 u92 u93 u94 u95 u96 u97 u98 u99 u100 u101 u102 u103 u104 u105 u106 u107 u108 u109 u110 u111 u112 u113 u114 u115 u116 u117 u118 u119 u120 u121 u122 u123 u124 hR
        have S5 := Lib.hid hR.sch
        have M5 := Lib.hid (M4.out.trans (v := .slice (some ⟨gr, 0, none⟩) sln slc) (NewR.refl _ _) hR.mv)
        have N5 := Lib.hid ((NewR.refl w (Sl.v ⟨some ⟨gr, 0, none⟩, sln, slc⟩)).trans M4.out.size hR.nr)
        have C5 := Lib.hid (OwnI.more hR.ch H4.out.nw)
        have N4 := Lib.hid M4.out.size
        clear hR M4 H4
        obtain ⟨slA', sln', slc'⟩ := sl'
        have hsz' : s.nds.length + q = sln' := by have := S5.out.size; simpa using this
        have hnl' : node < sln' := by have := Hsz.out; omega
        obtain ⟨gr', csr', hgr', hBgr', _⟩ := own_blk (show W5.ownsRow B 95 4 (.slice slA' sln' slc') sln' _ from S5.out.row) (by omega)
        subst hgr'
        have Hsz' := Lib.hid hsz'
        clear hsz'
        obtain ⟨⟨q0, q1, q2, q3, y0, y1, y2, y3⟩, csb, hbk⟩ := S5.out.nodeCells hnl'
        have f0 := hbk.frozen (node * 4)
        have f1 := hbk.frozen (node * 4 + 1)
        have f2 := hbk.frozen (node * 4 + 2)
        have f3 := hbk.frozen (node * 4 + 3)
        have x6 : W5.cell? ⟨g, 6, none⟩ = some (.slice (some ⟨gr', 0, none⟩) sln' slc') := (S5.out.blk.cell 6).trans rfl
        have hni : (node : Int) < (sln' : Int) := by omega
        have BK := Lib.hid hbk
        clear hbk
        have hq1 : q ≤ 1000000 := by have := Hb1.out; omega
        have hnd : NdO W5 N ⟨⟨1, (z : Int), kidsN s.nds.length q, []⟩, ⟨Ac, q, cc⟩, ⟨none, 0, 0⟩⟩ := ⟨by show 1 < 256; omega, C5.out, OwnI.nil _ _, hq1, by show 0 ≤ 1000000; omega⟩
        have S6 := S5.out.store (sl := ⟨none, sln', slc'⟩) HE.out HLV.out hnl' hnd
        have M6 := M5.out.trans (v := .slice (some ⟨gr, 0, none⟩) sln slc) N5.out ((MvB.refl W5 B N (some gr')).set4 (gr := gr') (o := node * 4) (.inl rfl) (.int .u8 ((1 : Nat) : Int)) (.int .i64 (z : Int)) (Sl.v ⟨Ac, q, cc⟩) (Sl.v ⟨none, 0, 0⟩))
        have C6 : OwnI (set4 W5 gr' (node * 4) (.int .u8 ((1 : Nat) : Int)) (.int .i64 (z : Int)) (Sl.v ⟨Ac, q, cc⟩) (Sl.v ⟨none, 0, 0⟩)) N (.slice Ac q cc) q (kidsN s.nds.length q) := own_set4 C5.out BK.out (by decide) _ _ _ _
        have S6' : Sch EI p P limit fE B N g gs cS (set4 W5 gr' (node * 4) (.int .u8 ((1 : Nat) : Int)) (.int .i64 (z : Int)) (Sl.v ⟨Ac, q, cc⟩) (Sl.v ⟨none, 0, 0⟩)) st ⟨some ⟨gr', 0, none⟩, sln', slc'⟩ ((ys ++ List.replicate q nd0S).set node ⟨⟨1, (z : Int), kidsN s.nds.length q, []⟩, ⟨Ac, q, cc⟩, ⟨none, 0, 0⟩⟩) (laidB P node z ⟨s.nds, s.looked + 1, s.s⟩) := by
          unfold laidB
          rw [Hq.out]
          exact S6
        have S7 := Lib.hid S6'
        have M7 := Lib.hid M6
        have C7 := Lib.hid C6
        clear S6 S6' M6 C6 hnd hq1
        go_wp2_with fail
        conv => arg 2; whnf
        go_wp2_with fail
        change Code.wp _ _ _ _ (set4 W5 gr' (node * 4) (.int .u8 ((1 : Nat) : Int)) (.int .i64 (z : Int)) (Sl.v ⟨Ac, q, cc⟩) (Sl.v ⟨none, 0, 0⟩))
        generalize (set4 W5 gr' (node * 4) (.int .u8 ((1 : Nat) : Int)) (.int .i64 (z : Int)) (Sl.v ⟨Ac, q, cc⟩) (Sl.v ⟨none, 0, 0⟩)) = W6 at S7 M7 C7 ⊢
        clear q0 q1 q2 q3 y0 y1 y2 y3 f0 f1 f2 f3 x6 S5 M5 C5 BK
        refine vis_loop S7.out HE.out HLV.out rec b node z s.nds.length q cc Ac hzE z1 Hz2.out Hq.out (by rw [laidB_len, Hq.out]; exact Nat.le_refl _)
          (by rw [laidB_len, Hq.out]; show s.nds.length + q + q * b ≤ 1000000; have := Hb1.out; have := Hqb.out; omega)
          (by show s.looked + 1 + q * (1 + b) ≤ 1000000; rw [Nat.mul_add, Nat.mul_one]; have := Hb2.out; have := Hqb.out; omega)
          C7.out Hge.out Hle.out Hf.out _ ?_ ?_ _ _ _ _ _ _ _ _ _ _ _ _ _ _ _ _ _ _ _ _ _ _ _ _ _ _ _ _ _ _ _ _ _ _ _ _ _ _ _ _ _ _ _ _ _ _ _ _ _ _ _ _ _ _ _ _ _ _ _ _ _ _ _ _ _ _ _ _ _ _ _ _ _ _ _ _ _ _ _ _ _ _ _ _ _ _ _ _ _ _ _ _ _ _ _ _ _ _ _ _ _ _ _ _ _ _ _ _ _ _ _ _ _ _ _ _ _ _ _ _ _
        · intro r1 r2 W8 v sl8 ys8 u2 u3 u4 u7 u8 u9 u10 u11 u12 u13 u14 u15 u16 u17 u18 u19 u20 u21 u22 u23 u24 u25 u26 u27 u28 u29 u30 u31 u32 u33 u34 u35 u36 u37 u38 u39 u40 u41 u42 u43 u44 u45 u46 u47 u48 u49 u50 u51 u52 u53 u54 u55 u56 u57 u58 u59 u60 u61 u62 u63 u64 u65 u66 u67 u68 u69 u70 u71 u72 u73 u74 u75 u76 u77 u78 u79 u80 u81 u82 u83 u84 u85 u86 u87 u88 u89 u90 u91 u92 u93 u94 u95 u96 u97 u98 u99 u100 u101 u102 u103 u104 u105 u106 u107 u108 u109 u110 u111 u112 u113 u114 u115 u116 u117 u118 u119 u120 u121 u122 u123 u124 hS8 hM8 hN8
          obtain ⟨⟨y, y5⟩, f5⟩ := hS8.staffCell (z := z) (by rw [List.length_set]; exact z1)
          have x5 : W8.cell? ⟨g, 5, none⟩ = some (.slice (some ⟨gs, 0, none⟩) st.length cS) := by have := (hS8.blk.cell 5).trans rfl; rw [List.length_set] at this; exact this
          have S9 := hS8.put HE.out r2 (z := z) (by rw [List.length_set]; exact z1) 0
          rw [set_back Hz2.out z1] at S9
          have M9 := (M7.out.trans (v := .slice (some ⟨gr, 0, none⟩) sln slc) (N5.out) hM8).set (i := z) hS8.sB hS8.sN (.int .i64 0)
          have N9 : NewR w (.slice (some ⟨gr, 0, none⟩) sln slc) sl8.v := (N5.out.trans M7.out.size hN8)
          have R1 := Lib.hid r1
          have R2 := Lib.hid r2
          have S10 := Lib.hid S9
          have M10 := Lib.hid M9
          have N10 := Lib.hid N9
          have hzi : (z : Int) < (st.length : Int) := by omega
          clear r1 r2 S9 M9 N9 hS8 hM8 hN8
          go_wp2_with fail
          conv => arg 2; whnf
          go_wp2_with fail
          go_ret
          exact ⟨ret_bool R1.out.symm, st, _, _, S10.out, fun _ => ⟨rfl, R2.out⟩, M10.out, N10.out⟩
        · intro r1 W8 st8 sl8 ys8 a h4 hd hS8 hM8 hN8
          exact ret_t4 rfl h4 hd ⟨ret_bool r1.symm, st8, _, _, hS8, fun e => (by rw [r1] at e; cases e), M7.out.trans (v := .slice (some ⟨gr, 0, none⟩) sln slc) N5.out hM8, N5.out.trans M7.out.size hN8⟩
end Go.Proofs.YtcnofhlgiffkjaaGreatDoor
/- begin; a visit of any depth. (genbeg.py) -/
namespace Go.Proofs.YtcnofhlgiffkjaaGreatDoor
open Go.RowKit
set_option linter.unusedVariables false
set_option linter.unusedSimpArgs false

/-- The room that a visit asks for. -/
def bV (K : Nat) : Nat → Nat
  | 0 => K
  | m + 1 => K + K * bV K m
theorem bnd_bV (K : Nat) : ∀ m, bnd K m ≤ bV K m
  | 0 => Nat.zero_le _
  | m + 1 => by
    have := Nat.mul_le_mul_left K (bnd_bV K m)
    show K + K * bnd K m ≤ K + K * bV K m
    omega
theorem VisOk.more {σ : Type} {live : σ → Prop} {EI : σ → World → Prop} {p : PrV} {P : Pr} {limit : Nat} {fE : Value} {B N g gs cS b b' : Nat} {f : List Int → Nat → VS σ → Bool × VS σ} {st : List Int} (h : VisOk live EI p P limit fE B N g gs cS b f st) (hb : b ≤ b') :
    VisOk live EI p P limit fE B N g gs cS b' f st := fun node s w sl ys h1 h2 h3 h4 h5 => h node s w sl ys h1 (by omega) (by omega) h4 h5
theorem visit_any {σ : Type} {live : σ → Prop} {EI : σ → World → Prop} {each : σ → List Int → Bool × σ} {kf g1 g2 B N g gs cS limit : Nat} {p : PrV} {P : Pr} (hK : CallerOk live EI each kf g1 g2 B N g gs) (hc : chkP P = 0) (K : Nat) (hEl : ∀ z : Nat, (memZ (eligA P z)).length ≤ K) :
    ∀ (m : Nat) (st : List Int), openN st ≤ m → st.length = P.elig.length → VisOk live EI p P limit (.func (.func kf) #[] #[.pointer (some ⟨g1, 0, none⟩), .pointer (some ⟨g2, 0, none⟩)]) B N g gs cS (bV K m) (visitF P limit each m) st
  | 0, st, h, hl => by
    have h0 := openN_zero h
    exact (visit_step hK hc (fun _ _ s => (false, s)) 0 K st hl hEl (fun _ _ _ => Nat.le_refl _) (fun z hz => by rw [h0] at hz; cases hz) (fun z hz => by rw [h0] at hz; cases hz)).more (by show K + K * 0 ≤ K; omega)
  | m + 1, st, h, hl => by
    have ok := chkP_ok hc
    have hop : ∀ z, idx0 st = some z → ∀ u ∈ memZ (eligA P z), openN (st.set z u) ≤ m := fun z hz u hu => by
      obtain ⟨h1, h2, _⟩ := idx0_some hz
      have hu1 := memZ_user ok hu
      have := openN_set (u := u) h1 h2 (by omega)
      omega
    refine visit_step hK hc (visitF P limit each m) (bV K m) K st hl hEl (visitF_ge m) (fun z hz u hu node s => ?_) (fun z hz u hu => ?_)
    · have h1 := visitF_le (limit := limit) (each := each) ok hEl m (st.set z u) node s (hop z hz u hu)
      have h2 := bnd_bV K m
      exact ⟨by omega, by omega⟩
    · exact visit_any hK hc K hEl m (st.set z u) (hop z hz u hu) (by rw [List.length_set]; exact hl)
theorem mk1_run (W : World) : (Instr.makeSlice 39 (.int .i64 1) (.int .i64 1)).run Tryz.prog W = .ok (.slice (some ⟨W.heap.size, 0, none⟩) 1 1) (W.alloc (.cells #[.int .u8 0, .int .i64 0, .slice none 0 0, .slice none 0 0] 95)) := by
  obtain ⟨i, hi, hz0, hz1, hz2⟩ := info_parts pnode_info
  have h := run_make (P := Tryz.prog) W 39 95 i _ Tryz.underlying39 hi hz0 .i64 .i64 1 1 (by omega) (by omega) (by rw [hz2]; decide) (by omega)
  rw [hz1] at h
  refine h.trans ?_
  have e : madeCells (Value.agg #[.int .u8 0, .int .i64 0, .slice none 0 0, .slice none 0 0]).cells (Int.toNat 1 * 4) = #[.int .u8 0, .int .i64 0, .slice none 0 0, .slice none 0 0] := by kernel_rfl
  rw [e]
  rfl
theorem own_new (w : World) : (w.alloc (.cells #[.int .u8 0, .int .i64 0, .slice none 0 0, .slice none 0 0] 95)).ownsRow w.heap.size 95 4 (.slice (some ⟨w.heap.size, 0, none⟩) 1 1) 1 (nd0S.cs .u8) :=
  ⟨rfl, .inr ⟨w.heap.size, 1, _, rfl, Nat.le_refl _, heap_alloc_new w _, Nat.le_refl _, by unfold maxLen; omega, rfl, rfl⟩⟩
/-- What begin leaves. -/
structure BegAt (w w' : World) (p : PrV) (P : Pr) (limit : Nat) (fE : Value) (g gs cS : Nat) (sl : Sl) : Prop where
  blk : Blk w' g 88 (schC p gs P.fix.length cS sl 0 limit fE)
  stf : OwnI w' w.heap.size (.slice (some ⟨gs, 0, none⟩) P.fix.length cS) P.fix.length P.fix
  row : w'.ownsRow w.heap.size 95 4 sl.v sl.n (nd0S.cs .u8)
  one : sl.n = 1
  low : Below w.heap.size w w'
  gB : w.heap.size ≤ g
def BegPost (p : PrV) (P : Pr) (limit : Nat) (fE : Value) (w : World) (e : Ending) (w' : World) : Prop :=
  ∃ g gs cS sl, e = .returned (.pointer (some ⟨g, 0, none⟩)) ∧ BegAt w w' p P limit fE g gs cS sl
set_option maxHeartbeats 8000000 in
set_option maxRecDepth 100000 in
theorem begin_any (p : PrV) (P : Pr) (limit kf g1 g2 : Nat) (w : World) (h : PrAt w w.heap.size p P) (hf : 0 < P.fix.length) :
    Calls Tryz.prog 26 #[p.v, .int .i64 (limit : Int), (.func (.func kf) #[] #[.pointer (some ⟨g1, 0, none⟩), .pointer (some ⟨g2, 0, none⟩)])] w (BegPost p P limit (.func (.func kf) #[] #[.pointer (some ⟨g1, 0, none⟩), .pointer (some ⟨g2, 0, none⟩)]) w) := by
  have hcl := fun (W : World) (hW : Below w.heap.size w W) => cloneI_any p.s5.a p.s5.n p.s5.c P.fix W (((h.below hW).more hW.size).e5) h.l5 (by have := h.b5; omega)
  have hl5 := Lib.hid h.l5
  obtain ⟨⟨A1, n1, c1⟩, ⟨A2, n2, c2⟩, ⟨A3, n3, c3⟩, ⟨A4, n4, c4⟩, ⟨A5, n5, c5⟩⟩ := p
  unfold PrV.v Sl.v
  simp only [] at hcl hl5 ⊢
  have k0 := Blk.new w 37 #[.slice A1 n1 c1, .slice A2 n2 c2, .slice A3 n3 c3, .slice A4 n4 c4, .slice A5 n5 c5]
  have b0 := bAl (Below.refl w.heap.size w) (.cells #[.slice A1 n1 c1, .slice A2 n2 c2, .slice A3 n3 c3, .slice A4 n4 c4, .slice A5 n5 c5] 37)
  have fin : ∀ (W : World) (A6 : Option Addr) (c6 : Nat) (gn gB : Nat), gB = W.heap.size → OwnI W w.heap.size (.slice A6 n5 c6) n5 P.fix → W.ownsRow w.heap.size 95 4 (.slice (some ⟨gn, 0, none⟩) 1 1) 1 (nd0S.cs .u8) → Below w.heap.size w W →
      BegPost ⟨⟨A1, n1, c1⟩, ⟨A2, n2, c2⟩, ⟨A3, n3, c3⟩, ⟨A4, n4, c4⟩, ⟨A5, n5, c5⟩⟩ P limit (.func (.func kf) #[] #[.pointer (some ⟨g1, 0, none⟩), .pointer (some ⟨g2, 0, none⟩)]) w (.returned (.pointer (some ⟨gB, 0, none⟩)))
        (W.alloc (.cells #[.slice A1 n1 c1, .slice A2 n2 c2, .slice A3 n3 c3, .slice A4 n4 c4, .slice A5 n5 c5, .slice A6 n5 c6, .slice (some ⟨gn, 0, none⟩) 1 1, .int .i64 0, .int .i64 (limit : Int), (.func (.func kf) #[] #[.pointer (some ⟨g1, 0, none⟩), .pointer (some ⟨g2, 0, none⟩)])] 88)) := by
    rintro W A6 c6 gn gB rfl o6 oR bW
    have hn5 : 0 < n5 := by rw [← hl5.out]; exact hf
    obtain ⟨gs, cs, e, _, _⟩ := own_blk o6 hn5
    subst e
    refine ⟨W.heap.size, gs, c6, ⟨some ⟨gn, 0, none⟩, 1, 1⟩, rfl, ?_, ?_, oR.alloc _, rfl, bAl bW _, bW.size⟩
    · rw [hl5.out]; exact Blk.new _ _ _
    · rw [hl5.out]; exact o6.alloc _
  go_enter Tryz.func26, Tryz.ntmps26
  go_wp2_with fail
  generalize (w.alloc (.cells #[.slice A1 n1 c1, .slice A2 n2 c2, .slice A3 n3 c3, .slice A4 n4 c4, .slice A5 n5 c5] 37)) = W1 at k0 b0 ⊢
  have k1 := k0.on ((Below.refl _ W1).drew)
  have b1 := b0.drew
  obtain ⟨SS, hSS⟩ : ∃ S : World → Prop, S = (fun W => W.cell? ⟨w.heap.size, 0, none⟩ = some (.slice A1 n1 c1) ∧ W.cell? ⟨w.heap.size, 1, none⟩ = some (.slice A2 n2 c2) ∧ W.cell? ⟨w.heap.size, 2, none⟩ = some (.slice A3 n3 c3) ∧ W.cell? ⟨w.heap.size, 3, none⟩ = some (.slice A4 n4 c4) ∧ W.cell? ⟨w.heap.size, 4, none⟩ = some (.slice A5 n5 c5)) := ⟨_, rfl⟩
  have sB : ∀ W, Blk W w.heap.size 37 #[.slice A1 n1 c1, .slice A2 n2 c2, .slice A3 n3 c3, .slice A4 n4 c4, .slice A5 n5 c5] → SS W := fun W k => by rw [hSS]; exact ⟨(k.cell 0).trans rfl, (k.cell 1).trans rfl, (k.cell 2).trans rfl, (k.cell 3).trans rfl, (k.cell 4).trans rfl⟩
  have mk := mk1_run
  refine wp_region_F (fun _ => false) SS (by kernel_rfl) (sB _ k1) (fun hHeld => ?_)
  generalize W1.drew = W2 at k1 b1 hHeld ⊢
  clear k0 b0
  refine wpAnyF_take (i := 0) (v := ?_) rfl (by kernel_rfl) (by kernel_rfl) (by kernel_rfl) (by kernel_rfl) (fun _ _ _ h => h) hHeld (Or.inl ⟨by rfl, ?_⟩) ?_
  rotate_left
  · (intro w hSw; (try rw [hSS] at hSw); (try dsimp only at hSw); go_simp; try with_reducible rfl)
  try simp only [Act.put, List.getElem_toArray, List.getElem_cons_zero, List.getElem_cons_succ, List.setIfInBounds_toArray, List.set_cons_zero, List.set_cons_succ]
  refine wpAnyF_take (i := 1) (v := ?_) rfl (by kernel_rfl) (by kernel_rfl) (by kernel_rfl) (by kernel_rfl) (fun _ _ _ h => h) hHeld (Or.inl ⟨by rfl, ?_⟩) ?_
  rotate_left
  · (intro w hSw; (try rw [hSS] at hSw); (try dsimp only at hSw); go_simp; try with_reducible rfl)
  try simp only [Act.put, List.getElem_toArray, List.getElem_cons_zero, List.getElem_cons_succ, List.setIfInBounds_toArray, List.set_cons_zero, List.set_cons_succ]
  refine wpAnyF_take (i := 2) (v := ?_) rfl (by kernel_rfl) (by kernel_rfl) (by kernel_rfl) (by kernel_rfl) (fun _ _ _ h => h) hHeld (Or.inl ⟨by rfl, ?_⟩) ?_
  rotate_left
  · (intro w hSw; (try rw [hSS] at hSw); (try dsimp only at hSw); go_simp; try with_reducible rfl)
  try simp only [Act.put, List.getElem_toArray, List.getElem_cons_zero, List.getElem_cons_succ, List.setIfInBounds_toArray, List.set_cons_zero, List.set_cons_succ]
  refine wpAnyF_take (i := 5) (v := ?_) rfl (by kernel_rfl) (by kernel_rfl) (by kernel_rfl) (by kernel_rfl) (fun _ _ _ h => h) hHeld (Or.inl ⟨by rfl, ?_⟩) ?_
  rotate_left
  · (intro w hSw; (try rw [hSS] at hSw); (try dsimp only at hSw); go_simp; try with_reducible rfl)
  try simp only [Act.put, List.getElem_toArray, List.getElem_cons_zero, List.getElem_cons_succ, List.setIfInBounds_toArray, List.set_cons_zero, List.set_cons_succ]
  refine wpAnyF_take (i := 6) (v := ?_) rfl (by kernel_rfl) (by kernel_rfl) (by kernel_rfl) (by kernel_rfl) (fun _ _ _ h => h) hHeld (Or.inl ⟨by rfl, ?_⟩) ?_
  rotate_left
  · (intro w hSw; (try rw [hSS] at hSw); (try dsimp only at hSw); go_simp; try with_reducible rfl)
  try simp only [Act.put, List.getElem_toArray, List.getElem_cons_zero, List.getElem_cons_succ, List.setIfInBounds_toArray, List.set_cons_zero, List.set_cons_succ]
  refine wpAnyF_two (i := 3) (k := 4) (by kernel_rfl) rfl rfl (fun K hK => ?_) (fun K hK => ?_)
  · go_simp
    go_at_call 23
    refine (hcl _ b1).mono ?_
    rintro e w5 ⟨A6, c6, rfl, o6, b6⟩
    have k5 := k1.on b6
    simp only []
    refine hK.out _ _ (Or.inr (sB _ k5)) ?_
    clear hK K
    try simp only [Act.put, List.getElem_toArray, List.getElem_cons_zero, List.getElem_cons_succ, List.setIfInBounds_toArray, List.set_cons_zero, List.set_cons_succ]
    refine wpAnyF_one (i := 4) (by kernel_rfl) rfl (fun K hK => ?_)
    go_simp
    refine hK.out _ _ (Or.inr (sB _ (k5.alloc (.cells #[.int .u8 0, .int .i64 0, .slice none 0 0, .slice none 0 0] 95)))) ?_
    clear hK K
    try simp only [Act.put, List.getElem_toArray, List.getElem_cons_zero, List.getElem_cons_succ, List.setIfInBounds_toArray, List.set_cons_zero, List.set_cons_succ]
    have k6 := k5.alloc (.cells #[.int .u8 0, .int .i64 0, .slice none 0 0, .slice none 0 0] 95)
    refine wpAnyF_one (i := 7) (by kernel_rfl) rfl (fun K hK => ?_)
    go_simp
    refine hK.out _ _ (Or.inr (sB _ k6)) ?_
    clear hK K
    try simp only [Act.put, List.getElem_toArray, List.getElem_cons_zero, List.getElem_cons_succ, List.setIfInBounds_toArray, List.set_cons_zero, List.set_cons_succ]
    refine wpAnyF_one (i := 8) (by kernel_rfl) rfl (fun K hK => ?_)
    go_simp
    refine hK.out _ _ (Or.inr (sB _ (k6.alloc _))) ?_
    clear hK K
    try simp only [Act.put, List.getElem_toArray, List.getElem_cons_zero, List.getElem_cons_succ, List.setIfInBounds_toArray, List.set_cons_zero, List.set_cons_succ]
    refine wpAnyF_one (i := 9) (by kernel_rfl) rfl (fun K hK => ?_)
    go_simp
    refine hK.out _ _ (Or.inr (sB _ (k6.alloc _))) ?_
    clear hK K
    try simp only [Act.put, List.getElem_toArray, List.getElem_cons_zero, List.getElem_cons_succ, List.setIfInBounds_toArray, List.set_cons_zero, List.set_cons_succ]
    refine wpAnyF_done (by kernel_rfl) ?_ _
    go_wp2_with fail
    go_ret
    exact fin _ _ _ _ _ (by simp) (own_less (o6.alloc _) b1.size) (own_less (own_new w5) (Nat.le_trans b1.size b6.size)) (bAl (b1.trans (b6.mono b1.size)) _)
  · go_simp
    refine hK.out _ _ (Or.inr (sB _ (k1.alloc (.cells #[.int .u8 0, .int .i64 0, .slice none 0 0, .slice none 0 0] 95)))) ?_
    clear hK K
    try simp only [Act.put, List.getElem_toArray, List.getElem_cons_zero, List.getElem_cons_succ, List.setIfInBounds_toArray, List.set_cons_zero, List.set_cons_succ]
    have k2 := k1.alloc (.cells #[.int .u8 0, .int .i64 0, .slice none 0 0, .slice none 0 0] 95)
    have b2 := bAl b1 (.cells #[.int .u8 0, .int .i64 0, .slice none 0 0, .slice none 0 0] 95)
    refine wpAnyF_one (i := 3) (by kernel_rfl) rfl (fun K hK => ?_)
    go_simp
    go_at_call 23
    refine (hcl _ b2).mono ?_
    rintro e w5 ⟨A6, c6, rfl, o6, b6⟩
    have k5 := k2.on b6
    simp only []
    refine hK.out _ _ (Or.inr (sB _ k5)) ?_
    clear hK K
    try simp only [Act.put, List.getElem_toArray, List.getElem_cons_zero, List.getElem_cons_succ, List.setIfInBounds_toArray, List.set_cons_zero, List.set_cons_succ]
    have k6 := k5
    refine wpAnyF_one (i := 7) (by kernel_rfl) rfl (fun K hK => ?_)
    go_simp
    refine hK.out _ _ (Or.inr (sB _ k6)) ?_
    clear hK K
    try simp only [Act.put, List.getElem_toArray, List.getElem_cons_zero, List.getElem_cons_succ, List.setIfInBounds_toArray, List.set_cons_zero, List.set_cons_succ]
    refine wpAnyF_one (i := 8) (by kernel_rfl) rfl (fun K hK => ?_)
    go_simp
    refine hK.out _ _ (Or.inr (sB _ (k6.alloc _))) ?_
    clear hK K
    try simp only [Act.put, List.getElem_toArray, List.getElem_cons_zero, List.getElem_cons_succ, List.setIfInBounds_toArray, List.set_cons_zero, List.set_cons_succ]
    refine wpAnyF_one (i := 9) (by kernel_rfl) rfl (fun K hK => ?_)
    go_simp
    refine hK.out _ _ (Or.inr (sB _ (k6.alloc _))) ?_
    clear hK K
    try simp only [Act.put, List.getElem_toArray, List.getElem_cons_zero, List.getElem_cons_succ, List.setIfInBounds_toArray, List.set_cons_zero, List.set_cons_succ]
    refine wpAnyF_done (by kernel_rfl) ?_ _
    go_wp2_with fail
    go_ret
    exact fin _ _ _ _ _ (by simp) (own_less o6 b2.size) (own_on (own_less (own_new W2) b1.size) b6) (b2.trans (b6.mono b2.size))
end Go.Proofs.YtcnofhlgiffkjaaGreatDoor
