/- Possible. (genpos.py) -/
import Derived.Test.YtfnhaoindehjdaaDoorPoL
import Derived.Test.YtfnhaoindehjdaaDoorPj
import Derived.LoopIn
import Derived.Deep.CutRange
import Derived.Deep.RegionWith
import Derived.Deep.QuietTactic
import Derived.BigQuiet
import Derived.Laws.ResultCell
import Derived.RangeFuncWrites
import Derived.RangeFuncLeaves
import Derived.Sort.CutIn
namespace Go.Proofs.YtfnhaoindehjdaaDoor
open Go.RowKit
set_option linter.unusedVariables false
set_option linter.unusedSimpArgs false
attribute [local go_sem] Oper.semAt_some

/-- What Possible gives. -/
def possR (P : Pr) : List (List Int) := if chkP P = 0 then (List.range P.elig.length).map (possK P) else []
theorem retMt {F : Fence} {n : Nat} {fn : Func} {R : Ending → World → Prop} {a : Act} {w : World} {q : Tmp} {v : Value} {B : Nat} (h : fn.results = #[.tmp q]) (hp : a.tmps.getD q undef = v) (Ds : List Nat) (hd : a.defers = Ds.map markOf) (ho : OpenM w B Ds) (hR : R (.returned v) (shut w Ds)) : bodyPostM F n Tryd.prog fn R .ret a w := by
  show LeavesInM F n Tryd.prog fn a.tmps R a.defers .returning w
  rw [hd]
  refine shut_leaves Ds w ho ⟨v, ?_, hR⟩
  rw [results_tmp h, hp]
theorem shut_heap : ∀ (Ds : List Nat) (w : World) (k : Nat), k ∉ Ds → (shut w Ds).heap[k]? = w.heap[k]?
  | [], _, _, _ => rfl
  | D :: Ds, w, k, hk => by
    have h1 : k ≠ D := fun e => hk (by simp [e])
    have h2 : k ∉ Ds := fun e => hk (by simp [e])
    show (shut (w.putObj D (.deferred none)) Ds).heap[k]? = _
    rw [shut_heap Ds _ k h2]
    show (w.heap.modify D fun _ => .deferred none)[k]? = w.heap[k]?
    rw [Array.getElem?_modify, if_neg (Ne.symm h1)]
theorem wpL_mkR (w : World) {ops : Array Oper} {rest : List Oper} {o : Oper} {a : Act} {Q : Exit → Act → World → Prop}
    (hg : o.guard = none) (l c : Operand) (hop : o.op = Op.makeSlice 37 l c) (L C : Int) (n : Nat) (hl : a.eval l = .int .i64 L) (hc : a.eval c = .int .i64 C) (hL : L = (n : Int)) (hC : C = (n : Int)) (b : n ≤ 1000000000)
    (hK : ∀ w', Hid (Blk w' w.heap.size 30 (List.replicate n (.slice none 0 0)).toArray) → Below w.heap.size w w' → Hid (w'.heap.size = w.heap.size + 1) → wpList Tryd.prog ops Q rest (a.put o.dst (.slice (some ⟨w.heap.size, 0, none⟩) n n)) w') :
    wpList Tryd.prog ops Q (o :: rest) a w := by
  obtain ⟨i0, hi0, hz0, hz1, hz2⟩ := info_parts sl_info
  exact wpL_make64 w hg l c _ hop _ i0 _ Tryd.underlying37 hi0 hz0 hz1 (by omega) rfl .i64 .i64 L C n hl hc hL hC b hK
theorem pos_split : posBody = .seq (headC posBody) (.seq (posPart 1) (.seq (posPart 2) (.seq (posPart 3) (.seq (posPart 4) (tailC 5 posBody))))) := by kernel_rfl
theorem PL.rowsLL {w : World} {P : Pr} {A1 A2 A3 A4 A5 : Option Addr} {n1 c1 n2 c2 n3 c3 n4 c4 n5 c5 g3 gO : Nat} {Ds : List Nat} {W : World} (h : PL w P A1 A2 A3 A4 A5 n1 c1 n2 c2 n3 c3 n4 c4 n5 c5 g3 gO n1 Ds W) (hg : w.heap.size ≤ gO) (hn : P.elig.length = n1) (hn5 : n1 ≤ 5) :
    OwnLL (shut W Ds) w.heap.size (.slice (some ⟨gO, 0, none⟩) n1 n1) n1 ((List.range P.elig.length).map (possK P)) := by
  obtain ⟨vs, r1, r2, r3, r4⟩ := h.rows
  have nd : ∀ (j t : Nat) (cs : Array Value), Blk W j t cs → j ∉ Ds := fun j t cs hb hm => by
    have h9 := (h.opn.2 j hm).2
    rw [show W.heap[j]? = some (.cells cs t (0, 0)) from hb] at h9
    cases h9
  refine ⟨vs, ⟨by rw [r2]; simp, .inr ⟨gO, n1, vs.toArray, rfl, hg, (shut_heap Ds W gO (nd _ _ _ r1)).trans r1, Nat.le_refl _, by unfold maxLen; omega, by simp [r2], ?_⟩⟩, ?_, fun i u l h1 h2 => ?_⟩
  · rw [List.take_of_length_le (by simp [r2])]
  · rw [r2]; simp [hn]
  · have hi : i < n1 := by rw [← r2]; exact (List.getElem?_eq_some_iff.1 h1).1
    obtain ⟨A, n, c, e, o⟩ := r3 i hi
    rw [e] at h1
    injection h1 with h1
    rw [List.getElem?_map, List.getElem?_range (by rw [hn]; exact hi)] at h2
    injection h2 with h2
    refine ⟨A, n, c, h1.symm, ?_⟩
    rw [← h1, ← h2]
    refine OwnI.same o fun j hj => shut_heap Ds W j ?_
    obtain ⟨cs, hb, _⟩ := own_type o hj
    exact nd _ _ _ hb
set_option maxHeartbeats 8000000 in
set_option maxRecDepth 100000 in
/-- Possible. -/
theorem possible_any (p : PrV) (P : Pr) (w : World) (h : PrAt w w.heap.size p P) (hT : Tab w) (hs : chkP P = 0 → SmP P) :
    Calls Tryd.prog 19 #[p.v] w fun e w' => ∃ A n c, e = .returned (.slice A n c) ∧ OwnLL w' w.heap.size (.slice A n c) n (possR P) ∧ Below w.heap.size w w' := by
  have hg0 : 0 < w.heap.size := World.block_lt_of_cell? w _ (hT 0 (by omega))
  have hck := fun (W : World) (hW : Below w.heap.size w W) => chkP_any p P W ((h.below hW).more hW.size)
  have hsv := fun (W : World) (hW : Below w.heap.size w W) => solvable_any p P W ((h.below hW).more hW.size) (hT.below hW hg0) hs
  obtain ⟨⟨A1, n1, c1⟩, ⟨A2, n2, c2⟩, ⟨A3, n3, c3⟩, ⟨A4, n4, c4⟩, ⟨A5, n5, c5⟩⟩ := p
  unfold PrV.v Sl.v at hck hsv ⊢
  simp only [] at hck hsv ⊢
  have hl1 : P.elig.length = n1 := h.l1
  have hnb : n1 ≤ 1000000 := h.b1
  have k0 := Blk.new w 32 #[.slice A1 n1 c1, .slice A2 n2 c2, .slice A3 n3 c3, .slice A4 n4 c4, .slice A5 n5 c5]
  have b0 := bAl (Below.refl w.heap.size w) (.cells #[.slice A1 n1 c1, .slice A2 n2 c2, .slice A3 n3 c3, .slice A4 n4 c4, .slice A5 n5 c5] 32)
  have H := Lib.hid h
  refine (callsIn_wide (n := 5)).1 ?_
  refine callsIn_of_wp_marks (c := posBody) Tryd.func19 rfl trivial ?_ rfl
  simp only [Tryd.ntmps19, List.size_toArray, List.length_cons, List.length_nil, Nat.reduceAdd, Nat.reduceSub, Array.replicate_succ, Array.replicate_zero, List.push_toArray, List.append_toArray, List.nil_append, List.cons_append]
  rw [pos_split]
  by_cases hc : chkP P = 0
  · have ok := chkP_ok hc
    have sm := hs hc
    have e : possR P = (List.range P.elig.length).map (possK P) := by unfold possR; rw [if_pos hc]
    rw [e]
    have hcb : (chkP P != 0) = false := by simpa using hc
    rw [hc] at hck
    have hn5 : n1 ≤ 5 := by rw [← hl1]; exact sm.1
    have HL1 := Lib.hid hl1
    have Hc := Lib.hid hc
    clear e hcb hc ok hs h hl1
    cases hvv : solvB P
    · rw [hvv] at hsv
      have hpk : Hid (∀ k, possK P k = []) := Lib.hid fun k => by unfold possK; rw [hvv]; rfl
      obtain ⟨L, hL⟩ : ∃ L, Hid (L = (List.range P.elig.length).map (possK P)) := ⟨_, Lib.hid rfl⟩
      rw [← hL.out]
      clear hvv
      refine wpIn_wide.2 ?_
      refine wp_seq_k fun K0 hK0 => ?_
      conv => arg 2; whnf
      go_wp2_with fail
      generalize (w.alloc (.cells #[.slice A1 n1 c1, .slice A2 n2 c2, .slice A3 n3 c3, .slice A4 n4 c4, .slice A5 n5 c5] 32)) = W1 at k0 b0 ⊢
      conv => arg 2; whnf
      have x0 : W1.cell? ⟨w.heap.size, 0, none⟩ = some (.slice A1 n1 c1) := (k0.cell 0).trans rfl
      have x1 : W1.cell? ⟨w.heap.size, 1, none⟩ = some (.slice A2 n2 c2) := (k0.cell 1).trans rfl
      have x2 : W1.cell? ⟨w.heap.size, 2, none⟩ = some (.slice A3 n3 c3) := (k0.cell 2).trans rfl
      have x3 : W1.cell? ⟨w.heap.size, 3, none⟩ = some (.slice A4 n4 c4) := (k0.cell 3).trans rfl
      have x4 : W1.cell? ⟨w.heap.size, 4, none⟩ = some (.slice A5 n5 c5) := (k0.cell 4).trans rfl
      have hk1 := hck W1 b0
      go_wp2_with fail
      refine hk1.mono ?_
      rintro e W2 ⟨rfl, bb⟩
      have b1 := b0.trans (bb.mono b0.size)
      have k1 := k0.on bb
      clear hk1 hck x0 x1 x2 x3 x4 bb
      go_wp2_with fail
      conv => arg 2; whnf
      have x0 : W2.cell? ⟨w.heap.size, 0, none⟩ = some (.slice A1 n1 c1) := (k1.cell 0).trans rfl
      have hn1i : (n1 : Int) ≤ 1000000 := by omega
      go_wp2_with (refine wpL_mkR _ rfl _ _ rfl _ _ n1 rfl rfl rfl rfl (by omega) ?_; intro w4 hS4 bw4 hsz4)
      have k4 := k1.on bw4
      have b4 := b1.trans (bw4.mono b1.size)
      have bA := bAl (Below.refl w4.heap.size w4) (.cells #[.slice (some ⟨W2.heap.size, 0, none⟩) n1 n1] 37)
      have k5 := k4.on bA
      have r5 := Blk.on hS4.out bA
      have q5 := Blk.new w4 37 #[.slice (some ⟨W2.heap.size, 0, none⟩) n1 n1]
      have b5 := b4.trans (bA.mono b4.size)
      have hgO := b1.size
      clear x0 hS4 bw4 hsz4 k4 b4 bA k1
      generalize (w4.alloc (.cells #[.slice (some ⟨W2.heap.size, 0, none⟩) n1 n1] 37)) = W5 at k5 r5 q5 b5 ⊢
      have x0 : W5.cell? ⟨w.heap.size, 0, none⟩ = some (.slice A1 n1 c1) := (k5.cell 0).trans rfl
      have x1 : W5.cell? ⟨w.heap.size, 1, none⟩ = some (.slice A2 n2 c2) := (k5.cell 1).trans rfl
      have x2 : W5.cell? ⟨w.heap.size, 2, none⟩ = some (.slice A3 n3 c3) := (k5.cell 2).trans rfl
      have x3 : W5.cell? ⟨w.heap.size, 3, none⟩ = some (.slice A4 n4 c4) := (k5.cell 3).trans rfl
      have x4 : W5.cell? ⟨w.heap.size, 4, none⟩ = some (.slice A5 n5 c5) := (k5.cell 4).trans rfl
      have hs5 := hsv W5 b5
      conv => arg 2; whnf
      go_wp2_with fail
      refine hs5.mono ?_
      rintro e W6 ⟨rfl, b6⟩
      have k6 := k5.on b6
      have r6 := r5.on b6
      have q6 := q5.on b6
      have b66 := b5.trans (b6.mono b5.size)
      clear x0 x1 x2 x3 x4 hs5 hsv k5 r5 q5 b5 b6
      have hPL : PL w P A1 A2 A3 A4 A5 n1 c1 n2 c2 n3 c3 n4 c4 n5 c5 w4.heap.size W2.heap.size 0 [] W6 := ⟨Nat.zero_le _, ⟨_, r6, by simp, fun j hj => absurd hj (Nat.not_lt_zero _), fun j _ hj => by rw [List.getElem?_replicate, if_pos hj]⟩, b66, k6, q6, OpenM.nil _ _⟩
      have y3 : W6.cell? ⟨w4.heap.size, 0, none⟩ = some (.slice (some ⟨W2.heap.size, 0, none⟩) n1 n1) := (q6.cell 0).trans rfl
      go_wp2_with fail
      refine retMt rfl rfl [] rfl (OpenM.nil _ 0) ⟨_, _, _, rfl, ?_, b66⟩
      have h9 := PL.rowsLL (Ds := []) (g3 := w4.heap.size) (gO := W2.heap.size) (W := W6) (P := P) (w := w) (A1 := A1) (n1 := n1) (c1 := c1) (A2 := A2) (n2 := n2) (c2 := c2) (A3 := A3) (n3 := n3) (c3 := c3) (A4 := A4) (n4 := n4) (c4 := c4) (A5 := A5) (n5 := n5) (c5 := c5)
        ⟨Nat.le_refl _, ⟨_, r6, by simp, fun j hj => ⟨none, 0, 0, by rw [List.getElem?_replicate, if_pos hj], by rw [hpk.out j]; exact OwnI.nil _ _⟩, fun j h1 h2 => absurd h2 (by omega)⟩, b66, k6, q6, OpenM.nil _ _⟩ hgO HL1.out hn5
      rw [hL.out]
      exact h9
    · rw [hvv] at hsv
      have Hvv := Lib.hid hvv
      obtain ⟨L, hL⟩ : ∃ L, Hid (L = (List.range P.elig.length).map (possK P)) := ⟨_, Lib.hid rfl⟩
      rw [← hL.out]
      clear hvv
      refine wpIn_wide.2 ?_
      refine wp_seq_k fun K0 hK0 => ?_
      conv => arg 2; whnf
      go_wp2_with fail
      generalize (w.alloc (.cells #[.slice A1 n1 c1, .slice A2 n2 c2, .slice A3 n3 c3, .slice A4 n4 c4, .slice A5 n5 c5] 32)) = W1 at k0 b0 ⊢
      conv => arg 2; whnf
      have x0 : W1.cell? ⟨w.heap.size, 0, none⟩ = some (.slice A1 n1 c1) := (k0.cell 0).trans rfl
      have x1 : W1.cell? ⟨w.heap.size, 1, none⟩ = some (.slice A2 n2 c2) := (k0.cell 1).trans rfl
      have x2 : W1.cell? ⟨w.heap.size, 2, none⟩ = some (.slice A3 n3 c3) := (k0.cell 2).trans rfl
      have x3 : W1.cell? ⟨w.heap.size, 3, none⟩ = some (.slice A4 n4 c4) := (k0.cell 3).trans rfl
      have x4 : W1.cell? ⟨w.heap.size, 4, none⟩ = some (.slice A5 n5 c5) := (k0.cell 4).trans rfl
      have hk1 := hck W1 b0
      go_wp2_with fail
      refine hk1.mono ?_
      rintro e W2 ⟨rfl, bb⟩
      have b1 := b0.trans (bb.mono b0.size)
      have k1 := k0.on bb
      clear hk1 hck x0 x1 x2 x3 x4 bb
      go_wp2_with fail
      conv => arg 2; whnf
      have x0 : W2.cell? ⟨w.heap.size, 0, none⟩ = some (.slice A1 n1 c1) := (k1.cell 0).trans rfl
      have hn1i : (n1 : Int) ≤ 1000000 := by omega
      go_wp2_with (refine wpL_mkR _ rfl _ _ rfl _ _ n1 rfl rfl rfl rfl (by omega) ?_; intro w4 hS4 bw4 hsz4)
      have k4 := k1.on bw4
      have b4 := b1.trans (bw4.mono b1.size)
      have bA := bAl (Below.refl w4.heap.size w4) (.cells #[.slice (some ⟨W2.heap.size, 0, none⟩) n1 n1] 37)
      have k5 := k4.on bA
      have r5 := Blk.on hS4.out bA
      have q5 := Blk.new w4 37 #[.slice (some ⟨W2.heap.size, 0, none⟩) n1 n1]
      have b5 := b4.trans (bA.mono b4.size)
      have hgO := b1.size
      clear x0 hS4 bw4 hsz4 k4 b4 bA k1
      generalize (w4.alloc (.cells #[.slice (some ⟨W2.heap.size, 0, none⟩) n1 n1] 37)) = W5 at k5 r5 q5 b5 ⊢
      have x0 : W5.cell? ⟨w.heap.size, 0, none⟩ = some (.slice A1 n1 c1) := (k5.cell 0).trans rfl
      have x1 : W5.cell? ⟨w.heap.size, 1, none⟩ = some (.slice A2 n2 c2) := (k5.cell 1).trans rfl
      have x2 : W5.cell? ⟨w.heap.size, 2, none⟩ = some (.slice A3 n3 c3) := (k5.cell 2).trans rfl
      have x3 : W5.cell? ⟨w.heap.size, 3, none⟩ = some (.slice A4 n4 c4) := (k5.cell 3).trans rfl
      have x4 : W5.cell? ⟨w.heap.size, 4, none⟩ = some (.slice A5 n5 c5) := (k5.cell 4).trans rfl
      have hs5 := hsv W5 b5
      conv => arg 2; whnf
      go_wp2_with fail
      refine hs5.mono ?_
      rintro e W6 ⟨rfl, b6⟩
      have k6 := k5.on b6
      have r6 := r5.on b6
      have q6 := q5.on b6
      have b66 := b5.trans (b6.mono b5.size)
      clear x0 x1 x2 x3 x4 hs5 hsv k5 r5 q5 b5 b6
      have hPL : PL w P A1 A2 A3 A4 A5 n1 c1 n2 c2 n3 c3 n4 c4 n5 c5 w4.heap.size W2.heap.size 0 [] W6 := ⟨Nat.zero_le _, ⟨_, r6, by simp, fun j hj => absurd hj (Nat.not_lt_zero _), fun j _ hj => by rw [List.getElem?_replicate, if_pos hj]⟩, b66, k6, q6, OpenM.nil _ _⟩
      have y3 : W6.cell? ⟨w4.heap.size, 0, none⟩ = some (.slice (some ⟨W2.heap.size, 0, none⟩) n1 n1) := (q6.cell 0).trans rfl
      clear y3
      have HPL := Lib.hid hPL
      clear hPL k6 r6 q6
      go_wp2_with fail
      refine wpIn_wide.1 (pos_loop hT H.out Hc.out sm Hvv.out hgO W6 HPL.out _ _ _ _ _ _ _ _ _ _ _ _ _ _ _ _ _ _ _ _ _ _ _ _ _ _ _ _ _ _ _ _ _ _ _ _ _ _ _ _ _ _ _ _ _ _ _ _ _ _ _ _ _ _ _ _ _ _ _ _ _ _ _ _ _ _ _ ?_)
      intro Ds W7 u2 u4 u5 u6 u7 u8 u9 u10 u11 u12 u13 u14 u15 u16 u17 u18 u19 u20 u21 u22 u23 u24 u25 u26 u27 u28 u29 u30 u31 u32 u33 u34 u35 u36 u37 u38 u39 u40 u41 u42 u43 u44 u45 u46 u47 u48 u49 u50 u51 u52 u53 u54 u55 u56 u57 u58 u59 u60 u61 u62 u63 u64 u65 u66 u67 u68 h7
      have b7 : Below w.heap.size w W7 := h7.low
      have y3 : W7.cell? ⟨w4.heap.size, 0, none⟩ = some (.slice (some ⟨W2.heap.size, 0, none⟩) n1 n1) := (h7.b3.cell 0).trans rfl
      have o7 : OpenM W7 w.heap.size Ds := h7.opn
      have h9 := PL.rowsLL h7 hgO HL1.out hn5
      rw [← hL.out] at h9
      have H7 := Lib.hid h7
      have H9 := Lib.hid h9
      clear h7 h9
      simp only [Exit.then]
      go_wp2_with fail
      conv => arg 2; whnf
      go_wp2_with fail
      refine retMt rfl rfl Ds rfl o7 ⟨_, _, _, rfl, H9.out, ?_⟩
      exact shut_below Ds w _ b7 o7
  · have e : possR P = [] := by unfold possR; rw [if_neg hc]
    rw [e]
    have hcb : (chkP P != 0) = true := by simpa using hc
    generalize chkP P = cc at hck hcb
    clear hs e hc hsv
    refine wpIn_wide.2 ?_
    refine wp_seq_k fun K0 hK0 => ?_
    conv => arg 2; whnf
    go_wp2_with fail
    generalize (w.alloc (.cells #[.slice A1 n1 c1, .slice A2 n2 c2, .slice A3 n3 c3, .slice A4 n4 c4, .slice A5 n5 c5] 32)) = W1 at k0 b0 ⊢
    conv => arg 2; whnf
    have x0 : W1.cell? ⟨w.heap.size, 0, none⟩ = some (.slice A1 n1 c1) := (k0.cell 0).trans rfl
    have x1 : W1.cell? ⟨w.heap.size, 1, none⟩ = some (.slice A2 n2 c2) := (k0.cell 1).trans rfl
    have x2 : W1.cell? ⟨w.heap.size, 2, none⟩ = some (.slice A3 n3 c3) := (k0.cell 2).trans rfl
    have x3 : W1.cell? ⟨w.heap.size, 3, none⟩ = some (.slice A4 n4 c4) := (k0.cell 3).trans rfl
    have x4 : W1.cell? ⟨w.heap.size, 4, none⟩ = some (.slice A5 n5 c5) := (k0.cell 4).trans rfl
    have hk1 := hck W1 b0
    go_wp2_with fail
    refine hk1.mono ?_
    rintro e W2 ⟨rfl, bb⟩
    have b1 := b0.trans (bb.mono b0.size)
    have k1 := k0.on bb
    clear hk1 hck x0 x1 x2 x3 x4 bb
    go_wp2_with fail
    refine retMt rfl rfl [] rfl (OpenM.nil _ 0) ⟨none, 0, 0, rfl, ?_, b1⟩
    exact ⟨[], World.ownsRow_nil _ _ _ _, RowsI.nil _ _⟩
end Go.Proofs.YtfnhaoindehjdaaDoor
