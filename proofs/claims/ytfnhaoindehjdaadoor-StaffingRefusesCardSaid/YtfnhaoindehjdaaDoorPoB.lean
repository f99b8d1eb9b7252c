/- Possible: the range over the users of a step. (genpos.py) -/
import Derived.Test.YtfnhaoindehjdaaDoorPoA
import Derived.LoopIn
import Derived.Deep.CutRange
import Derived.Deep.RegionWith
import Derived.Deep.QuietTactic
import Derived.BigQuiet
import Derived.Laws.ResultCell
import Derived.RangeFuncWrites
import Derived.RangeFuncLeaves
import Derived.Sort.CutIn
namespace Go.Proofs.YtfnhaoindehjdaaDoor
open Go.RowKit
set_option linter.unusedVariables false
set_option linter.unusedSimpArgs false
attribute [local go_sem] Oper.semAt_some

theorem PI.own_from {W0 : World} {P : Pr} {gO k M : Nat} {vs0 : List Value} :
    OwnFrom W0.heap.size (fun (pre : List (Mb M)) W => PI W0 P gO k vs0 (pre.map (·.1)) W) := fun s A B' row hs hg hr => by
  obtain ⟨⟨A1, n, c, b, o, hn⟩, mv⟩ := hs
  have nb : ∀ (j t : Nat) (cs : Array Value), Blk A j t cs → row ≠ some j := fun j t cs hb e => by
    obtain ⟨_, o, ho, hc⟩ := hr j e
    rw [show A.heap[j]? = some (.cells cs t (0, 0)) from hb] at ho
    injection ho with ho
    subst ho
    cases hc
  refine ⟨⟨A1, n, c, (hg.block gO b.lt (fun e => nb _ _ _ b e.symm)).trans b, OwnI.same o fun j hj => ?_, hn⟩, mv.more ((Below.refl _ _).grown hg mv.size fun r e => (hr r e).1)⟩
  obtain ⟨cs, hb, _⟩ := own_type o hj
  exact hg.block j hb.lt fun e => nb _ _ _ hb e.symm
set_option maxHeartbeats 8000000 in
set_option maxRecDepth 100000 in
theorem pos_rf {w W0 : World} {P : Pr} {A1 A2 A3 A4 A5 : Option Addr} {n1 c1 n2 c2 n3 c3 n4 c4 n5 c5 g3 gO gK k : Nat} {vs0 : List Value} (h : Ps w W0 P A1 A2 A3 A4 A5 n1 c1 n2 c2 n3 c3 n4 c4 n5 c5 g3 gO gK k vs0)
    (ga M : Nat) (Ds : List Nat) (hM : P.elig[k]? = some M) (Av : Option Addr) (nv cv : Nat) (hnc : nv ≤ cv) (hnv : nv ≤ 64) (hlv : len2 64 M = nv) (hsv : Sees w w.heap.size Av ((dg 64 M).map wv))
    (hga : W0.cell? ⟨ga, 0, none⟩ = some (.slice Av nv cv)) (hgl : ga < W0.heap.size) (hnil : vs0[k]? = some (.slice none 0 0))
    (Q : Exit → Act → World → Prop) (cx2 cx5 cx6 cx7 cx8 cx9 cx10 cx11 cx12 cx13 cx14 cx15 cx16 cx17 cx18 cx19 cx20 cx21 cx22 cx23 cx24 cx25 cx26 cx27 cx29 cx30 cx31 cx32 cx33 cx34 cx35 cx36 cx37 cx38 cx39 cx40 cx41 cx42 cx43 cx44 cx45 cx46 cx47 cx48 cx49 cx50 cx51 cx52 cx53 cx54 cx55 cx56 cx57 cx58 cx59 cx60 cx61 cx62 cx63 cx64 cx65 cx66 cx67 cx68 : Value)
    (hN : ∀ D W', W0.heap.size ≤ D → PI W0 P gO k vs0 (memM M) W' → W'.heap[D]? = some (.deferred (some [])) → Q .normal ⟨#[.agg #[.slice A1 n1 c1, .slice A2 n2 c2, .slice A3 n3 c3, .slice A4 n4 c4, .slice A5 n5 c5], .pointer (some ⟨w.heap.size, 0, none⟩), cx2, .pointer (some ⟨g3, 0, none⟩), .pointer (some ⟨gK, 0, none⟩), cx5, cx6, cx7, cx8, cx9, cx10, cx11, cx12, cx13, cx14, cx15, cx16, cx17, cx18, cx19, cx20, cx21, cx22, cx23, cx24, cx25, cx26, cx27, .func (.func 85) #[] #[.pointer (some ⟨ga, 0, none⟩)], cx29, cx30, cx31, cx32, cx33, cx34, cx35, cx36, cx37, cx38, cx39, cx40, cx41, cx42, cx43, cx44, cx45, cx46, cx47, cx48, cx49, cx50, cx51, cx52, cx53, cx54, cx55, cx56, cx57, cx58, cx59, cx60, cx61, cx62, cx63, cx64, cx65, cx66, cx67, cx68], markOf D :: Ds.map markOf⟩ W') :
    posRf.wpIn Fence.wide 5 Tryd.prog Q ⟨#[.agg #[.slice A1 n1 c1, .slice A2 n2 c2, .slice A3 n3 c3, .slice A4 n4 c4, .slice A5 n5 c5], .pointer (some ⟨w.heap.size, 0, none⟩), cx2, .pointer (some ⟨g3, 0, none⟩), .pointer (some ⟨gK, 0, none⟩), cx5, cx6, cx7, cx8, cx9, cx10, cx11, cx12, cx13, cx14, cx15, cx16, cx17, cx18, cx19, cx20, cx21, cx22, cx23, cx24, cx25, cx26, cx27, .func (.func 85) #[] #[.pointer (some ⟨ga, 0, none⟩)], cx29, cx30, cx31, cx32, cx33, cx34, cx35, cx36, cx37, cx38, cx39, cx40, cx41, cx42, cx43, cx44, cx45, cx46, cx47, cx48, cx49, cx50, cx51, cx52, cx53, cx54, cx55, cx56, cx57, cx58, cx59, cx60, cx61, cx62, cx63, cx64, cx65, cx66, cx67, cx68], Ds.map markOf⟩ W0 := by
  have hro : (Fence.wide).round = none := rfl
  have h1 : 1 ≤ 5 := by omega
  have hg0 : 0 < w.heap.size := World.block_lt_of_cell? w _ (h.hT 0 (by omega))
  have ok := chkP_ok h.hc
  have hI0 : PI W0 P gO k vs0 [] W0 := ⟨⟨none, 0, 0, by
    have e : vs0.set k (.slice none 0 0) = vs0 := by
      refine List.ext_getElem? fun i => ?_
      by_cases hi : i = k
      · subst hi
        rw [List.getElem?_set_self (by rw [h.vl]; exact h.kl), hnil]
      · rw [List.getElem?_set_ne (Ne.symm hi)]
    rw [e]; exact h.b0, OwnI.nil _ _, Nat.le_refl _⟩, OnlyB.refl _ _⟩
  have hmem : ∀ x : Mb M, 1 ≤ x.1 ∧ x.1 ≤ 256 := fun x => by
    have h9 : ((x.1 : Nat) : Int) ∈ memZ (eligA P (k : Int)) := by
      unfold eligA memZ
      rw [Int.toNat_natCast, hM]
      exact List.mem_map.2 ⟨x.1, x.2, rfl⟩
    have := memZ_user ok h9
    omega
  refine wpIn_rangeFunc_ownG (assign := (match posRf with | .rangeFunc _ _ a _ => a | c => c)) (body := posRound) hro h1 (gf := 85) (lb := #[.pointer (some ⟨ga, 0, none⟩)]) rfl trivial (enters_of Tryd.func85 (by kernel_rfl) rfl)
    (all_stopsM ga w.heap.size nv cv M Av 4 (by omega) hnc hnv hlv hg0 W0 hgl h.low.size hga (hsv.below h.low) (h.hT.below h.low hg0)) belowK_t (belowK_b h.low.size) (Below.refl _ _) (fun _ => rfl)
    (fun (pre : List (Mb M)) W' => PI W0 P gO k vs0 (pre.map (·.1)) W') (fun _ _ _ => False)
    PI.own_from (fun c => fun s A B' row hs hg hr => hs.elim) hI0
    (fun x : Mb M => ⟨#[.agg #[.slice A1 n1 c1, .slice A2 n2 c2, .slice A3 n3 c3, .slice A4 n4 c4, .slice A5 n5 c5], .pointer (some ⟨w.heap.size, 0, none⟩), cx2, .pointer (some ⟨g3, 0, none⟩), .pointer (some ⟨gK, 0, none⟩), .int .i64 ((x.1 : Nat) : Int), cx6, cx7, cx8, cx9, cx10, cx11, cx12, cx13, cx14, cx15, cx16, cx17, cx18, cx19, cx20, cx21, cx22, cx23, cx24, cx25, cx26, cx27, .func (.func 85) #[] #[.pointer (some ⟨ga, 0, none⟩)], .int .i64 ((x.1 : Nat) : Int), cx30, cx31, cx32, cx33, cx34, cx35, cx36, cx37, cx38, cx39, cx40, cx41, cx42, cx43, cx44, cx45, cx46, cx47, cx48, cx49, cx50, cx51, cx52, cx53, cx54, cx55, cx56, cx57, cx58, cx59, cx60, cx61, cx62, cx63, cx64, cx65, cx66, cx67, cx68], []⟩) ?assign ?body ?done ?stop
  case assign =>
    intro lno x W' K' hK'
    conv => arg 4; whnf
    gi_wp2
    exact hK'
  case body =>
    rintro lno pre x W' hI' hlt
    refine pos_body h lno (pre.map (·.1)) x.1 W' (hmem x) (by rw [List.length_map]; exact hlt) hI' _ (fun ⟨a, w, h⟩ => h) (fun _ _ _ _ h => h) ?_ _ _ _ _ _ _ _ _ _ _ _ _ _ _ _ _ _ _ _ _ _ _ _ _ _ _ _ _ _ _ _ _ _ _ _ _ _ _ _ _ _ _ _ _ _ _ _ _ _ _ _ _ _ _ _ _ _ _ _ _ _ _ _ _
    intro a W2 h1 h2 h3
    exact ⟨h1, h2, by show PI W0 P gO k vs0 ((pre ++ [x]).map (·.1)) W2; rw [map_val_snoc]; exact h3⟩
  case done =>
    rintro D ys W' hD hys hI' hK'
    have hI' : PI W0 P gO k vs0 (ys.map (·.1)) W' := hI'
    have hys : ys.map (·.1) = memM M := hys
    rw [hys] at hI'
    exact hN D W' hD hI' hK'
  case stop =>
    rintro D c' pre W' hD hpre hX hK'
    exact hX.elim
end Go.Proofs.YtfnhaoindehjdaaDoor
