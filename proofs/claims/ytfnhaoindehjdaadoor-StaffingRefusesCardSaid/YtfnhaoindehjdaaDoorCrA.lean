/- Critical: the loop within a round. (gencrit.py) -/
import Derived.Test.YtfnhaoindehjdaaDoorPoC
import Derived.Test.YtfnhaoindehjdaaDoorStO
import Derived.Test.YtfnhaoindehjdaaDoorPl
import Derived.LoopIn
import Derived.OwnWalkIn
import Derived.Deep.CutRange
import Derived.Deep.RegionWith
import Derived.Deep.QuietTactic
import Derived.BigQuiet
import Derived.Laws.ResultCell
import Derived.RangeFuncWrites
import Derived.RangeFuncLeaves
import Derived.Sort.CutIn
namespace Go.Proofs.YtfnhaoindehjdaaDoor
open Go.RowKit
set_option linter.unusedVariables false
set_option linter.unusedSimpArgs false
attribute [local go_sem] Oper.semAt_some

noncomputable def critBody : Code := Tryd.f23.body.getD .skip
noncomputable def critPart (k : Nat) : Code := headC (tailC k critBody)
noncomputable def critRf : Code := (rfOf (critPart 5)).getD .skip
noncomputable def critRound : Code := rfBody critRf
def blkIn : Code → Code
  | .block _ c => c
  | c => c
noncomputable def crB : Code := blkIn critRound
noncomputable def crPart (k : Nat) : Code := headC (tailC k crB)
theorem cr_split : critRound = .block 3 (.seq (crPart 0) (.seq (crPart 1) (.seq (crPart 2) (tailC 3 crB)))) := by kernel_rfl
/-- The sets of the first j steps, without a user. -/
structure QR (W : World) (P : Pr) (x gq j : Nat) (cs : List Value) : Prop where
  row : ∃ A c vs, Blk W gq 32 (Value.slice A j c :: cs).toArray ∧ W.ownsRow gq 63 1 (.slice A j c) j vs ∧ vs.length = j ∧ ∀ i M, i < j → P.elig[i]? = some M → ∃ X, vs[i]? = some X ∧ SetAt W W.heap.size (.agg #[X]) (clrU M x)
set_option maxHeartbeats 8000000 in
set_option maxRecDepth 100000 in
theorem crit_in {w : World} {P : Pr} {A1 A2 A3 A4 A5 : Option Addr} {n1 c1 n2 c2 n3 c3 n4 c4 n5 c5 : Nat} {x gq gO B0 : Nat} (lno : Nat) (hx : x < 4096) (pr : PrAt w w.heap.size ⟨⟨A1, n1, c1⟩, ⟨A2, n2, c2⟩, ⟨A3, n3, c3⟩, ⟨A4, n4, c4⟩, ⟨A5, n5, c5⟩⟩ P) (hn5 : n1 ≤ 5)
    (W1 : World) (low1 : Below w.heap.size w W1) (bp : Blk W1 w.heap.size 32 #[.slice A1 n1 c1, .slice A2 n2 c2, .slice A3 n3 c3, .slice A4 n4 c4, .slice A5 n5 c5]) (hgq : w.heap.size < gq) (kq : Blk W1 gq 32 #[.slice none 0 0, .slice A2 n2 c2, .slice A3 n3 c3, .slice A4 n4 c4, .slice A5 n5 c5])
    (Q : Exit → Act → World → Prop) (hO : ¬ LetsOut Q) (hPan : ∀ c a a' w, Q (.panic c) a w → Q (.panic c) a' w)
    (cx2 cx3 cx4 cx5 cx9 cx10 cx11 cx12 cx13 cx14 cx15 cx16 cx17 cx18 cx19 cx20 cx21 cx22 cx23 cx24 cx25 cx26 cx27 cx28 cx29 cx30 cx31 cx32 cx33 cx34 cx35 cx36 cx37 cx38 cx39 cx40 cx41 cx42 cx43 cx44 cx45 cx46 cx47 cx48 cx49 cx50 cx51 cx52 cx53 : Value)
    (hN : ∀ (W' : World) (u2 u3 u4 u5 u9 u10 u11 u12 u13 u14 u15 u16 u17 u18 u19 u20 u21 u22 u23 u24 u25 u26 u27 u28 u29 u30 u31 u32 u33 u34 u35 u36 u37 u38 u39 u40 u41 u42 u43 u44 u45 u46 u47 u48 u49 u50 u51 u52 u53 : Value), QR W' P x gq n1 [.slice A2 n2 c2, .slice A3 n3 c3, .slice A4 n4 c4, .slice A5 n5 c5] → Below gq W1 W' → KeepsFrom B0 W1 W' → Q .normal ⟨#[.agg #[.slice A1 n1 c1, .slice A2 n2 c2, .slice A3 n3 c3, .slice A4 n4 c4, .slice A5 n5 c5], .pointer (some ⟨w.heap.size, 0, none⟩), u2, u3, u4, u5, .pointer (some ⟨gO, 0, none⟩), .int .i64 (x : Int), .pointer (some ⟨gq, 0, none⟩), u9, u10, u11, u12, u13, u14, u15, u16, u17, u18, u19, u20, u21, u22, u23, u24, u25, u26, u27, u28, u29, u30, u31, u32, u33, u34, u35, u36, u37, u38, u39, u40, u41, u42, u43, u44, u45, u46, u47, u48, u49, u50, u51, u52, u53], []⟩ W') :
    (crPart 2).wpIn (Fence.wide.inRound lno) 3 Tryd.prog Q ⟨#[.agg #[.slice A1 n1 c1, .slice A2 n2 c2, .slice A3 n3 c3, .slice A4 n4 c4, .slice A5 n5 c5], .pointer (some ⟨w.heap.size, 0, none⟩), cx2, cx3, cx4, cx5, .pointer (some ⟨gO, 0, none⟩), .int .i64 (x : Int), .pointer (some ⟨gq, 0, none⟩), cx9, cx10, cx11, cx12, cx13, cx14, cx15, cx16, cx17, cx18, cx19, cx20, cx21, cx22, cx23, cx24, cx25, cx26, cx27, cx28, cx29, cx30, cx31, cx32, cx33, cx34, cx35, cx36, cx37, cx38, cx39, cx40, cx41, cx42, cx43, cx44, cx45, cx46, cx47, cx48, cx49, cx50, cx51, cx52, cx53], []⟩ W1 := by
  have HN := Lib.hid hN
  clear hN
  have hl1 : P.elig.length = n1 := pr.l1
  have hbi : (n1 : Int) ≤ 5 := by omega
  have HL1 := Lib.hid hl1
  have HPr := Lib.hid pr
  clear hl1
  have y0 : W1.cell? ⟨w.heap.size, 0, none⟩ = some (.slice A1 n1 c1) := (bp.cell 0).trans rfl
  have hq0 : QR W1 P x gq 0 [.slice A2 n2 c2, .slice A3 n3 c3, .slice A4 n4 c4, .slice A5 n5 c5] := ⟨none, 0, [], kq, World.ownsRow_nil _ _ _ _, rfl, fun i M h => absurd h (Nat.not_lt_zero _)⟩
  conv => arg 4; whnf
  gi_wp2
  refine wpIn_loop (fun a W' => ∃ (j : Nat) (u2 u3 u4 u5 u9 u10 u11 u12 u13 u14 u15 u16 u17 u18 u19 u20 u21 u22 u23 u24 u25 u26 u27 u28 u29 u30 u34 u35 u36 u37 u38 u39 u40 u41 u42 u43 u44 u45 u46 u47 u48 u49 u50 u51 u52 u53 : Value), (j ≤ n1 ∧ QR W' P x gq j [.slice A2 n2 c2, .slice A3 n3 c3, .slice A4 n4 c4, .slice A5 n5 c5] ∧ Below gq W1 W' ∧ KeepsFrom B0 W1 W') ∧ a = ⟨#[.agg #[.slice A1 n1 c1, .slice A2 n2 c2, .slice A3 n3 c3, .slice A4 n4 c4, .slice A5 n5 c5], .pointer (some ⟨w.heap.size, 0, none⟩), u2, u3, u4, u5, .pointer (some ⟨gO, 0, none⟩), .int .i64 (x : Int), .pointer (some ⟨gq, 0, none⟩), u9, u10, u11, u12, u13, u14, u15, u16, u17, u18, u19, u20, u21, u22, u23, u24, u25, u26, u27, u28, u29, u30, .slice A1 n1 c1, .int .i64 (n1 : Int), .int .i64 (j : Int), u34, u35, u36, u37, u38, u39, u40, u41, u42, u43, u44, u45, u46, u47, u48, u49, u50, u51, u52, u53], []⟩) (fun a _ => n1 - (intOf (a.tmps.getD 33 undef)).toNat) ?start ?round
  case start => exact ⟨0, _, _, _, _, _, _, _, _, _, _, _, _, _, _, _, _, _, _, _, _, _, _, _, _, _, _, _, _, _, _, _, _, _, _, _, _, _, _, _, _, _, _, _, _, _, _, ⟨Nat.zero_le _, hq0, Below.refl _ _, KeepsFrom.refl _ _⟩, rfl⟩
  case round =>
    clear kq y0 hq0
    intro a9 wr hinv
    obtain ⟨j, hinv⟩ := hinv
    obtain ⟨u2, hinv⟩ := hinv
    obtain ⟨u3, hinv⟩ := hinv
    obtain ⟨u4, hinv⟩ := hinv
    obtain ⟨u5, hinv⟩ := hinv
    obtain ⟨u9, hinv⟩ := hinv
    obtain ⟨u10, hinv⟩ := hinv
    obtain ⟨u11, hinv⟩ := hinv
    obtain ⟨u12, hinv⟩ := hinv
    obtain ⟨u13, hinv⟩ := hinv
    obtain ⟨u14, hinv⟩ := hinv
    obtain ⟨u15, hinv⟩ := hinv
    obtain ⟨u16, hinv⟩ := hinv
    obtain ⟨u17, hinv⟩ := hinv
    obtain ⟨u18, hinv⟩ := hinv
    obtain ⟨u19, hinv⟩ := hinv
    obtain ⟨u20, hinv⟩ := hinv
    obtain ⟨u21, hinv⟩ := hinv
    obtain ⟨u22, hinv⟩ := hinv
    obtain ⟨u23, hinv⟩ := hinv
    obtain ⟨u24, hinv⟩ := hinv
    obtain ⟨u25, hinv⟩ := hinv
    obtain ⟨u26, hinv⟩ := hinv
    obtain ⟨u27, hinv⟩ := hinv
    obtain ⟨u28, hinv⟩ := hinv
    obtain ⟨u29, hinv⟩ := hinv
    obtain ⟨u30, hinv⟩ := hinv
    obtain ⟨u34, hinv⟩ := hinv
    obtain ⟨u35, hinv⟩ := hinv
    obtain ⟨u36, hinv⟩ := hinv
    obtain ⟨u37, hinv⟩ := hinv
    obtain ⟨u38, hinv⟩ := hinv
    obtain ⟨u39, hinv⟩ := hinv
    obtain ⟨u40, hinv⟩ := hinv
    obtain ⟨u41, hinv⟩ := hinv
    obtain ⟨u42, hinv⟩ := hinv
    obtain ⟨u43, hinv⟩ := hinv
    obtain ⟨u44, hinv⟩ := hinv
    obtain ⟨u45, hinv⟩ := hinv
    obtain ⟨u46, hinv⟩ := hinv
    obtain ⟨u47, hinv⟩ := hinv
    obtain ⟨u48, hinv⟩ := hinv
    obtain ⟨u49, hinv⟩ := hinv
    obtain ⟨u50, hinv⟩ := hinv
    obtain ⟨u51, hinv⟩ := hinv
    obtain ⟨u52, hinv⟩ := hinv
    obtain ⟨u53, hinv⟩ := hinv
    obtain ⟨⟨hj, hQ, hb, hk⟩, ha⟩ := hinv
    subst ha
    by_cases hlt : j < n1
    · have hlt' : (j : Int) < (n1 : Int) := by omega
      obtain ⟨M, hM⟩ : ∃ M, P.elig[j]? = some M := ⟨_, List.getElem?_eq_getElem (by rw [HL1.out]; exact hlt)⟩
      obtain ⟨b, o, X, rfl, hb2, hcX0, hS⟩ := pr.e1 j M hM
      obtain ⟨Av, nv, cv, hXe, hnc, hnv, hlv, hsvv, hrv⟩ := id hS
      obtain rfl : X = .slice Av nv cv := by simpa using hXe
      clear hXe
      have loww := low1.trans (hb.mono (Nat.le_of_lt hgq))
      have hcX : wr.cell? ⟨b, o + j, none⟩ = some (.slice Av nv cv) := (loww.cell (p := ⟨b, o + j, none⟩) hb2).trans hcX0
      have hSw : SetAt wr wr.heap.size (.agg #[.slice Av nv cv]) M := (hS.below loww).more loww.size
      have HM := Lib.hid hM
      have HS := Lib.hid hSw
      have HQ := Lib.hid hQ
      clear hM hlv pr hS hsvv hrv hSw hcX0 hQ
      gi_upto_region 17 with (fail)
      have bA := bAl (Below.refl wr.heap.size wr) (.cells #[.slice Av nv cv] 63)
      obtain ⟨A, c, vs, kq2, o2, hvl, hst2⟩ := HQ.out.row
      have hgr : gq < wr.heap.size := kq2.lt
      have hnb : (Value.slice A j c).ownBlock ≠ some wr.heap.size := fun e => Nat.lt_irrefl _ (World.ownsRow.lt o2 _ e).2
      have hS2 := HS.out.on bA
      have kq2 := kq2.on bA
      have o2 := own_on o2 bA
      have ks2 := Blk.new wr 63 #[.slice Av nv cv]
      have b2 := hb.trans (bA.mono (Nat.le_of_lt hgr))
      have k2 : KeepsFrom B0 W1 (wr.alloc (.cells #[.slice Av nv cv] 63)) := hk.trans ⟨bA.size, fun j o _ hj _ => (bA.block j (Array.getElem?_eq_some_iff.1 hj).1).trans hj⟩
      have hst2 : ∀ i M, i < j → P.elig[i]? = some M → ∃ X, vs[i]? = some X ∧ SetAt (wr.alloc (.cells #[.slice Av nv cv] 63)) (wr.alloc (.cells #[.slice Av nv cv] 63)).heap.size (.agg #[X]) (clrU M x) := fun i M hi hM => by
        obtain ⟨X, e, s⟩ := hst2 i M hi hM
        exact ⟨X, e, s.on bA⟩
      have bd : Below (wr.alloc (.cells #[.slice Av nv cv] 63)).heap.size (wr.alloc (.cells #[.slice Av nv cv] 63)) (wr.alloc (.cells #[.slice Av nv cv] 63)).drew := (Below.refl _ _).drew
      clear bA HQ HS hcX loww hb hk
      obtain ⟨SS, hSS⟩ : ∃ S : World → Prop, S = (fun W => W.cell? ⟨gq, 0, none⟩ = some (.slice A j c) ∧ W.cell? ⟨wr.heap.size, 0, none⟩ = some (.slice Av nv cv)) := ⟨_, rfl⟩
      have sB : ∀ W, Blk W gq 32 #[.slice A j c, .slice A2 n2 c2, .slice A3 n3 c3, .slice A4 n4 c4, .slice A5 n5 c5] → Blk W wr.heap.size 63 #[.slice Av nv cv] → SS W := fun W h1 h2 => by
        rw [hSS]
        exact ⟨(h1.cell 0).trans rfl, (h2.cell 0).trans rfl⟩
      refine wpIn_region_F (fun i => i == 8) SS (by kernel_rfl) (fun ⟨a, w, h⟩ => hO ⟨a, w, h⟩) (by kernel_rfl) (sB _ (kq2.on bd) (ks2.on bd)) (fun hHeld => ?_)
      have kq3 := kq2.on bd
      have ks3 := ks2.on bd
      have o3 := own_on o2 bd
      have hS3 := hS2.on bd
      have b3 := b2.trans (bd.mono (by simp; omega))
      have k3 : KeepsFrom B0 W1 (wr.alloc (.cells #[.slice Av nv cv] 63)).drew := k2.trans ⟨Nat.le_refl _, fun j o _ hj _ => hj⟩
      have hst3 : ∀ i M, i < j → P.elig[i]? = some M → ∃ X, vs[i]? = some X ∧ SetAt (wr.alloc (.cells #[.slice Av nv cv] 63)).drew (wr.alloc (.cells #[.slice Av nv cv] 63)).drew.heap.size (.agg #[X]) (clrU M x) := fun i M hi hM => by
        obtain ⟨X, e, s⟩ := hst2 i M hi hM
        exact ⟨X, e, s.on bd⟩
      clear bd hst2 k2 b2 hS2 o2 ks2 kq2
      generalize (wr.alloc (.cells #[.slice Av nv cv] 63)).drew = W3 at hHeld kq3 ks3 o3 hS3 b3 k3 hst3 ⊢
      have hwo := without_any (.agg #[.slice Av nv cv]) M x W3 hS3 hx
      refine wpAnyF_take (i := 0) (v := ?_) rfl (by kernel_rfl) (by kernel_rfl) (by kernel_rfl) (by kernel_rfl) (fun _ _ _ h => hPan _ _ _ _ h) hHeld (Or.inl ⟨by rfl, ?_⟩) ?_
      rotate_left
      · (intro w hSw; (try rw [hSS] at hSw); (try dsimp only at hSw); go_simp; try with_reducible rfl)
      try simp only [Act.put, List.getElem_toArray, List.getElem_cons_zero, List.getElem_cons_succ, List.setIfInBounds_toArray, List.set_cons_zero, List.set_cons_succ]
      refine wpAnyF_take (i := 1) (v := ?_) rfl (by kernel_rfl) (by kernel_rfl) (by kernel_rfl) (by kernel_rfl) (fun _ _ _ h => hPan _ _ _ _ h) hHeld (Or.inl ⟨by rfl, ?_⟩) ?_
      rotate_left
      · (intro w hSw; (try rw [hSS] at hSw); (try dsimp only at hSw); go_simp; try with_reducible rfl)
      try simp only [Act.put, List.getElem_toArray, List.getElem_cons_zero, List.getElem_cons_succ, List.setIfInBounds_toArray, List.set_cons_zero, List.set_cons_succ]
      refine wpAnyF_take (i := 2) (v := ?_) rfl (by kernel_rfl) (by kernel_rfl) (by kernel_rfl) (by kernel_rfl) (fun _ _ _ h => hPan _ _ _ _ h) hHeld (Or.inl ⟨by rfl, ?_⟩) ?_
      rotate_left
      · (intro w hSw; (try rw [hSS] at hSw); (try dsimp only at hSw); go_simp; try with_reducible rfl)
      try simp only [Act.put, List.getElem_toArray, List.getElem_cons_zero, List.getElem_cons_succ, List.setIfInBounds_toArray, List.set_cons_zero, List.set_cons_succ]
      refine wpAnyF_take (i := 3) (v := ?_) rfl (by kernel_rfl) (by kernel_rfl) (by kernel_rfl) (by kernel_rfl) (fun _ _ _ h => hPan _ _ _ _ h) hHeld (Or.inl ⟨by rfl, ?_⟩) ?_
      rotate_left
      · (intro w hSw; (try rw [hSS] at hSw); (try dsimp only at hSw); go_simp; try with_reducible rfl)
      try simp only [Act.put, List.getElem_toArray, List.getElem_cons_zero, List.getElem_cons_succ, List.setIfInBounds_toArray, List.set_cons_zero, List.set_cons_succ]
      refine wpAnyF_one (i := 4) (by kernel_rfl) rfl (fun K hK => ?_)
      go_simp
      go_at_call 25
      refine hwo.mono ?_
      rintro e W4 ⟨v4, rfl, s4, b4⟩
      obtain ⟨A4', n4', c4', rfl, s4'⟩ : ∃ A n c, v4 = .agg #[.slice A n c] ∧ SetAt W4 W4.heap.size (.agg #[.slice A n c]) (clrU M x) := by
        obtain ⟨A, n, c, e, h1, h2, h3, h4, h5⟩ := s4
        exact ⟨A, n, c, e, ⟨A, n, c, rfl, h1, h2, h3, h4, h5⟩⟩
      have o4 := own_on o3 b4
      have q4 := kq3.on b4
      have hgq4 : gq ≤ W4.heap.size := Nat.le_of_lt q4.lt
      have bs4 := ks3.on b4
      refine hK.out _ _ (Or.inr (sB _ q4 bs4)) ?_
      clear hK K
      try simp only [Act.put, List.getElem_toArray, List.getElem_cons_zero, List.getElem_cons_succ, List.setIfInBounds_toArray, List.set_cons_zero, List.set_cons_succ]
      refine wpAnyF_one (i := 5) (by kernel_rfl) rfl (fun K hK => ?_)
      go_simp
      refine hK.out _ _ (Or.inr (sB _ (q4.alloc _) (bs4.alloc _))) ?_
      clear hK K
      try simp only [Act.put, List.getElem_toArray, List.getElem_cons_zero, List.getElem_cons_succ, List.setIfInBounds_toArray, List.set_cons_zero, List.set_cons_succ]
      refine wpAnyF_one (i := 6) (by kernel_rfl) rfl (fun K hK => ?_)
      refine step_row1 63 27 _ 1 24 set_info Tryd.underlying27 rfl (by omega) (by omega) _ rfl (.tmp 38) (.tmp 42) rfl W4 gq _ j _ rfl o4 #[.slice A4' n4' c4'] rfl _ rfl rfl rfl (by simp [Value.oneCell']) (by omega) hgq4 (j + 1) rfl ?_
      intro A7 c7 w7 o7 g7 b7 k7
      have q7 := q4.grown g7 (own_off o4 q4 (by decide))
      refine hK.out _ _ (Or.inr (sB _ q7 (bs4.grown g7 (hnb)))) ?_
      clear hK K
      try simp only [Act.put, List.getElem_toArray, List.getElem_cons_zero, List.getElem_cons_succ, List.setIfInBounds_toArray, List.set_cons_zero, List.set_cons_succ]
      refine wpAnyF_one (i := 7) (by kernel_rfl) rfl (fun K hK => ?_)
      go_simp
      refine hK.out _ _ (Or.inr (sB _ q7 (bs4.grown g7 hnb))) ?_
      clear hK K
      try simp only [Act.put, List.getElem_toArray, List.getElem_cons_zero, List.getElem_cons_succ, List.setIfInBounds_toArray, List.set_cons_zero, List.set_cons_succ]
      refine wpAnyF_one (i := 8) (by kernel_rfl) rfl (fun K hK => ?_)
      have y8 : w7.cell? ⟨gq, 0, none⟩ = some (.slice A j c) := (q7.cell 0).trans rfl
      have f8 := q7.frozen 0
      go_simp
      refine hK.out _ _ (Or.inl rfl) ?_
      clear hK K
      refine wpAnyF_done (by kernel_rfl) ?_ _
      have Q8 : QR (w7.setCell ⟨gq, 0, none⟩ (.slice A7 (j + 1) c7)) P x gq (j + 1) [.slice A2 n2 c2, .slice A3 n3 c3, .slice A4 n4 c4, .slice A5 n5 c5] := by
        have hrow : ∀ g', (Value.slice A j c).ownBlock = some g' → ∃ c e f, W4.heap[g']? = some (.cells c e f) ∧ e ≠ 112 := fun g' hv => by
          obtain ⟨c, f, k⟩ := Lib.ownsRow_kind o4 g' hv
          exact ⟨c, _, f, k, by decide⟩
        have keepS : ∀ v M, SetAt W4 W4.heap.size v M → SetAt (w7.setCell ⟨gq, 0, none⟩ (.slice A7 (j + 1) c7)) (w7.setCell ⟨gq, 0, none⟩ (.slice A7 (j + 1) c7)).heap.size v M := fun v M hv => by
          rw [setCell_size]
          exact ((hv.grownR g7 (Nat.le_refl _) hrow).far q7 (by decide)).more g7.size
        refine ⟨A7, c7, vs ++ [.slice A4' n4' c4'], by simpa using q7.put 0 (.slice A7 (j + 1) c7), ownsRow_setCell_other o7 (a := ⟨gq, 0, none⟩) (own_off o7 q7 (by decide)) _, by simp [hvl], fun i M' hi hM' => ?_⟩
        by_cases hij : i < j
        · obtain ⟨X, e, s⟩ := hst3 i M' hij hM'
          exact ⟨X, by rw [List.getElem?_append_left (by omega)]; exact e, keepS _ _ (s.on b4)⟩
        · obtain rfl : i = j := by omega
          obtain rfl : M' = M := by rw [HM.out] at hM'; exact (Option.some.inj hM').symm
          exact ⟨_, by rw [← hvl]; simp, keepS _ _ s4'⟩
      have b8 : Below gq W1 (w7.setCell ⟨gq, 0, none⟩ (.slice A7 (j + 1) c7)) := ((b3.trans (b4.mono (by have := kq3.lt; omega))).trans b7).setCell (p := ⟨gq, 0, none⟩) (Nat.le_refl _) _
      have k8 : KeepsFrom B0 W1 (w7.setCell ⟨gq, 0, none⟩ (.slice A7 (j + 1) c7)) := ((k3.trans (Z := W4) ⟨b4.size, fun j o _ hj _ => (b4.block j (Array.getElem?_eq_some_iff.1 hj).1).trans hj⟩).trans ((KeepsOthers.of_grownBy g7 (fun j o e ho => by
          obtain ⟨c', f, k⟩ := Lib.ownsRow_kind o4 j e
          rw [k] at ho
          injection ho with ho
          subst ho
          rfl)).from _)).trans ((KeepsOthers.setCell _ _ _).from _)
      have R8 := Lib.hid (show j + 1 ≤ n1 ∧ QR _ P x gq (j + 1) _ ∧ Below gq W1 _ ∧ KeepsFrom B0 W1 _ from ⟨hlt, Q8, b8, k8⟩)
      clear Q8 b8 k8 y8 f8 q7 o7 g7 b7 k7 o4 q4 bs4 s4' hwo hHeld kq3 ks3 o3 hS3 b3 k3 hst3
      generalize (w7.setCell ⟨gq, 0, none⟩ (.slice A7 (j + 1) c7)) = W8 at R8 ⊢
      gi_wp2
      exact ⟨⟨j + 1, _, _, _, _, _, _, _, _, _, _, _, _, _, _, _, _, _, _, _, _, _, _, _, _, _, _, _, _, _, _, _, _, _, _, _, _, _, _, _, _, _, _, _, _, _, _, R8.out, rfl⟩, by simp [intOf]; omega⟩
    · obtain rfl : j = n1 := by omega
      have hlt' : ¬ (j : Int) < (j : Int) := by omega
      gi_wp2
      exact HN.out wr _ _ _ _ _ _ _ _ _ _ _ _ _ _ _ _ _ _ _ _ _ _ _ _ _ _ _ _ _ _ _ _ _ _ _ _ _ _ _ _ _ _ _ _ _ _ _ _ _ hQ hb hk
end Go.Proofs.YtfnhaoindehjdaaDoor
