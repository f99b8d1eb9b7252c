/- The walk of visit: its parts; the loop over the children. (genst.py) -/
import Derived.Test.YtfnhaoindehjdaaDoorStM
import Derived.Test.YtfnhaoindehjdaaDoorPe
import Derived.Deep.CutRange
import Derived.Deep.RegionWith
namespace Go.Proofs.YtfnhaoindehjdaaDoor
open Go.RowKit
set_option linter.unusedVariables false
set_option linter.unusedSimpArgs false

noncomputable def visBody : Code := Tryd.f40.body.getD .skip
noncomputable def visPart (k : Nat) : Code := headC (tailC k visBody)
/-- The children and the nodes, k of them. -/
structure KidR {σ : Type} (EI : σ → World → Prop) (p : PrV) (P : Pr) (limit : Nat) (fE : Value) (B N g gs cS : Nat) (W : World) (st : List Int) (sl : Sl) (ys : List NdS) (s : VS σ) (k : Nat) (Ac : Option Addr) (cc : Nat) (sl' : Sl) (wr : World) : Prop where
  sch : Sch EI p P limit fE B N g gs cS wr st sl' (ys ++ List.replicate k nd0S) ⟨s.nds ++ List.replicate k nd0, s.looked, s.s⟩
  ch : OwnI wr W.heap.size (.slice Ac k cc) k (kidsN s.nds.length k)
  mv : MvB W wr B N sl.v.ownBlock
  nr : NewR W sl.v sl'.v
theorem kidsN_snoc (c k : Nat) : kidsN c (k + 1) = kidsN c k ++ [((c + k : Nat) : Int)] := by
  unfold kidsN; rw [List.range_succ, List.map_append]; rfl
theorem rep_snoc {α : Type} (l : List α) (k : Nat) (x : α) : l ++ List.replicate (k + 1) x = (l ++ List.replicate k x) ++ [x] := by
  rw [List.replicate_succ', List.append_assoc]
set_option maxHeartbeats 8000000 in
set_option maxRecDepth 100000 in
theorem vis_kids {σ : Type} {live : σ → Prop} {EI : σ → World → Prop} {p : PrV} {P : Pr} {limit : Nat} {fE : Value} {B N g gs cS : Nat} {W : World} {st : List Int} {sl : Sl} {ys : List NdS} {s : VS σ} (h : Sch EI p P limit fE B N g gs cS W st sl ys s) (hE : ∀ s w w', live s → EI s w → Kept w w' N g gs → EI s w') (hl : live s.s)
    (node z q : Nat) (hz : z < P.elig.length) (hq : (memZ (eligA P z)).length = q) (hb : s.nds.length + q ≤ 1000000)
    (Q : Exit → Act → World → Prop)
    (hN : ∀ (W' : World) (Ac : Option Addr) (cc : Nat) (sl' : Sl) (u2 u3 u4 u7 u8 u9 u10 u11 u12 u13 u14 u15 u16 u17 u18 u19 u20 u21 u22 u23 u24 u25 u26 u27 u28 u29 u30 u31 u32 u33 u34 u35 u36 u37 u38 u39 u40 u41 u42 u43 u44 u45 u46 u47 u48 u49 u50 u51 u52 u53 u54 u55 u56 u57 u58 u59 u60 u61 u62 u63 u64 u65 u66 u67 u68 u69 u70 u71 u72 u73 u74 u75 u76 u77 u78 u79 u80 u81 u82 u83 u84 u85 u86 u87 u88 u89 u90 u91 u92 u93 u94 u95 u96 u97 u98 u99 u100 u101 u102 u103 u104 u105 u106 u107 u108 u109 u110 u111 u112 u113 u114 u115 u116 u117 u118 u119 u120 u121 u122 u123 u124 : Value), KidR EI p P limit fE B N g gs cS W st sl ys s q Ac cc sl' W' → Q .normal ⟨#[.pointer (some ⟨g, 0, none⟩), .int .i64 (node : Int), u2, u3, u4, .int .i64 (z : Int), .slice Ac q cc, u7, u8, u9, u10, u11, u12, u13, u14, u15, u16, u17, u18, u19, u20, u21, u22, u23, u24, u25, u26, u27, u28, u29, u30, u31, u32, u33, u34, u35, u36, u37, u38, u39, u40, u41, u42, u43, u44, u45, u46, u47, u48, u49, u50, u51, u52, u53, u54, u55, u56, u57, u58, u59, u60, u61, u62, u63, u64, u65, u66, u67, u68, u69, u70, u71, u72, u73, u74, u75, u76, u77, u78, u79, u80, u81, u82, u83, u84, u85, u86, u87, u88, u89, u90, u91, u92, u93, u94, u95, u96, u97, u98, u99, u100, u101, u102, u103, u104, u105, u106, u107, u108, u109, u110, u111, u112, u113, u114, u115, u116, u117, u118, u119, u120, u121, u122, u123, u124], []⟩ W')
    (cx2 cx3 cx4 cx7 cx8 cx9 cx10 cx11 cx12 cx13 cx14 cx15 cx16 cx17 cx18 cx19 cx20 cx21 cx22 cx23 cx24 cx25 cx26 cx27 cx28 cx29 cx30 cx31 cx32 cx33 cx34 cx35 cx36 cx37 cx38 cx39 cx40 cx41 cx42 cx43 cx44 cx45 cx46 cx47 cx48 cx49 cx50 cx51 cx52 cx53 cx54 cx55 cx56 cx57 cx58 cx59 cx60 cx61 cx62 cx63 cx64 cx65 cx66 cx67 cx68 cx69 cx70 cx71 cx72 cx73 cx74 cx75 cx76 cx77 cx78 cx79 cx80 cx81 cx82 cx83 cx84 cx85 cx86 cx87 cx88 cx89 cx90 cx91 cx92 cx93 cx94 cx95 cx96 cx97 cx98 cx99 cx100 cx101 cx102 cx103 cx104 cx105 cx106 cx107 cx108 cx109 cx110 cx111 cx112 cx113 cx114 cx115 cx116 cx117 cx118 cx119 cx120 cx121 cx122 cx123 cx124 : Value) :
    (visPart 7).wp Tryd.prog Q ⟨#[.pointer (some ⟨g, 0, none⟩), .int .i64 (node : Int), cx2, cx3, cx4, .int .i64 (z : Int), .slice none 0 0, cx7, cx8, cx9, cx10, cx11, cx12, cx13, cx14, cx15, cx16, cx17, cx18, cx19, cx20, cx21, cx22, cx23, cx24, cx25, cx26, cx27, cx28, cx29, cx30, cx31, cx32, cx33, cx34, cx35, cx36, cx37, cx38, cx39, cx40, cx41, cx42, cx43, cx44, cx45, cx46, cx47, cx48, cx49, cx50, cx51, cx52, cx53, cx54, cx55, cx56, cx57, cx58, cx59, cx60, cx61, cx62, cx63, cx64, cx65, cx66, cx67, cx68, cx69, cx70, cx71, cx72, cx73, cx74, cx75, cx76, cx77, cx78, cx79, cx80, cx81, cx82, cx83, cx84, cx85, cx86, cx87, cx88, cx89, cx90, cx91, cx92, cx93, cx94, cx95, cx96, cx97, cx98, cx99, cx100, cx101, cx102, cx103, cx104, cx105, cx106, cx107, cx108, cx109, cx110, cx111, cx112, cx113, cx114, cx115, cx116, cx117, cx118, cx119, cx120, cx121, cx122, cx123, cx124], []⟩ W := by
  have Hn := Lib.hid hN
  have HE := Lib.hid hE
  have Hl := Lib.hid hl
  clear hN hE hl
  obtain ⟨⟨A1, n1, c1⟩, s2, s3, s4, s5⟩ := p
  have hpl : P.elig.length = n1 := h.pr.l1
  have he1 : SetsAt W B A1 P.elig := h.pr.e1
  have hnB : n1 ≤ 1000000 := h.pr.b1
  obtain ⟨M, hM⟩ : ∃ M, P.elig[z]? = some M := ⟨_, List.getElem?_eq_getElem hz⟩
  obtain ⟨b, o, X, rfl, hbB, hcX, hset⟩ := he1 z M hM
  have hBW : B ≤ W.heap.size := by have := h.nw; have := h.gB; have := h.gN; omega
  have heA : eligA P z = M := by unfold eligA; rw [Int.toNat_natCast, hM]; rfl
  have hlen := lenE_any (.agg #[X]) M W (hset.more hBW)
  have hq' : (memM M).length = q := by rw [← hq, heA]; simp [memZ]
  rw [hq'] at hlen
  have hzn : (z : Int) < (n1 : Int) := by omega
  have hzn' : z < n1 := by omega
  have x0 : W.cell? ⟨g, 0, none⟩ = some (.slice (some ⟨b, o, none⟩) n1 c1) := (h.blk.cell 0).trans rfl
  have hyB : ∀ y ∈ ys, Blt W.heap.size y.C.v ∧ Blt W.heap.size y.S.v := fun y hy => ⟨own_blt (h.nd y hy).ch, own_blt (h.nd y hy).st⟩
  have Hy := Lib.hid hyB
  have hqq : q ≤ 1000000 := by omega
  have Hb := Lib.hid hb
  have H0 := Lib.hid h
  clear hM heA hq' hset hyB hq hpl hb
  have h := H0.out
  conv => arg 2; whnf
  go_wp2_with fail
  refine hlen.mono ?_
  rintro e W1 ⟨rfl, b1⟩
  have h1 := h.below HE.out Hl.out b1
  clear x0 hcX h hlen
  go_wp2_with fail
  go_loopw [6, 60] (fun v6 v60 wr => ∃ (k : Nat) (Ac : Option Addr) (cc : Nat) (sl' : Sl), k ≤ q ∧ v60 = .int .i64 k ∧ v6 = .slice Ac k cc ∧ KidR EI ⟨⟨some ⟨b, o, none⟩, n1, c1⟩, s2, s3, s4, s5⟩ P limit fE B N g gs cS W st sl ys s k Ac cc sl' wr) (fun _ v60 _ => q - (intOf v60).toNat)
  case atStart => exact ⟨0, none, 0, sl, Nat.zero_le _, rfl, rfl, ⟨by simpa using h1, OwnI.nil _ _, .ofBelow b1 _ _ _, .refl _ _⟩⟩
  case round =>
    clear h1
    obtain ⟨k, Ac, cc, ⟨An, nn, cn⟩, hk, rfl, rfl, hR⟩ := hrel
    obtain ⟨W0, rfl⟩ : ∃ W0, W0 = wr := ⟨_, rfl⟩
    by_cases hlt : k < q
    · have hlt' : (k : Int) < (q : Int) := by omega
      have hs := hR.sch
      have hC := hR.ch
      have hz0 := hR.mv.size
      have hsz : Hid (s.nds.length + k = nn) := Lib.hid (by have := hs.size; simpa using this)
      have hnn : nn ≤ 1000000 := by have := hsz.out; have := Hb.out; omega
      have x6 : W0.cell? ⟨g, 6, none⟩ = some (.slice An nn cn) := (hs.blk.cell 6).trans rfl
      have f6 := hs.blk.frozen 6
      go_upto_region 14 with (at_builtin; refine wpL_appI1k _ rfl (.tmp 62) (.tmp 68) rfl W0 W.heap.size _ k _ rfl hC (nn : Int) rfl _ rfl rfl (by omega) hz0 (k + 1) rfl ?_; intro A9 c9 w9 o9 g9 b9 k9)
      have hys : ∀ y ∈ ys ++ List.replicate k nd0S, Blt W.heap.size y.C.v ∧ Blt W.heap.size y.S.v := fun y hy => by
        rcases List.mem_append.1 hy with h1 | h1
        · exact Hy.out y h1
        · obtain rfl := (List.mem_replicate.1 h1).2
          exact ⟨Blt.nil _, Blt.nil _⟩
      have hs9 := hs.grow HE.out Hl.out g9 hC H0.out.nw hys
      have m9 := hR.mv.belowW b9
      have n9 : NewR W sl.v (Sl.v ⟨An, nn, cn⟩) := hR.nr
      have x6 : w9.cell? ⟨g, 6, none⟩ = some (.slice An nn cn) := (hs9.blk.cell 6).trans rfl
      have f6 := hs9.blk.frozen 6
      have hB9 : B ≤ w9.heap.size := by have := hs9.nw; have := hs9.gB; have := hs9.gN; omega
      go_wp2_with (at_builtin; refine wpL_row1 103 44 _ 4 64 pnode_info Tryd.underlying44 rfl (by omega) (by omega) _ rfl (.tmp 74) (.tmp 76) rfl w9 B _ nn _ rfl hs9.row #[.int .u8 0, .int .i64 0, .slice none 0 0, .slice none 0 0] rfl _ rfl rfl rfl (by simp [Value.oneCell']) (by omega) hB9 (nn + 1) rfl ?_; intro A10 c10 w10 o10 g10 b10 k10; have kg := hs9.blk.grown g10 (own_ntype hs9.row hs9.blk (by decide)); have y6 : w10.cell? ⟨g, 6, none⟩ = some (.slice An nn cn) := (kg.cell 6).trans rfl; have r6 := kg.frozen 6)
      have hs10 := hs9.add HE.out Hl.out o10 g10
      have m10 : MvB W (w10.setCell ⟨g, 6, none⟩ (.slice A10 (nn + 1) c10)) B N sl.v.ownBlock := (m9.trans n9 (MvB.grown g10)).set hs9.gB hs9.gN _
      have n10 : NewR W sl.v (.slice A10 (nn + 1) c10) := n9.trans m9.size (k10.elim .inl fun e => .inr ⟨_, e, Nat.le_succ _⟩)
      have o9' : OwnI w9 W.heap.size (.slice A9 (k + 1) c9) (k + 1) (kidsN s.nds.length (k + 1)) := by rw [kidsN_snoc, hsz.out]; exact o9
      have o10' : OwnI (w10.setCell ⟨g, 6, none⟩ (.slice A10 (nn + 1) c10)) W.heap.size (.slice A9 (k + 1) c9) (k + 1) (kidsN s.nds.length (k + 1)) :=
        OwnI.same (o9'.kept g10 (own_apart o9' hs9.row (by decide))) fun j hj => Below.heap_setCell w10 _ _ j (by have := (o9'.lt j hj).1; have := H0.out.nw; have := H0.out.gN; simp; omega)
      go_roundw
      case rel => exact ⟨k + 1, A9, c9, ⟨A10, nn + 1, c10⟩, by omega, by go_num, rfl, ⟨by rw [rep_snoc, rep_snoc]; exact hs10, o10', m10, n10⟩⟩
      case measure => simp [intOf]; omega
    · obtain rfl : k = q := by omega
      have hlt' : ¬ (k : Int) < (k : Int) := by omega
      go_wp2_with fail
      exact Hn.out W0 Ac cc ⟨An, nn, cn⟩ _ _ _ _ _ _ _ _ _ _ _ _ _ _ _ _ _ _ _ _ _ _ _ _ _ _ _ _ _ _ _ _ _ _ _ _ _ _ _ _ _ _ _ _ _ _ _ _ _ _ _ _ _ _ _ _ _ _ _ _ _ _ _ _ _ _ _ _ _ _ _ _ _ _ _ _ _ _ _ _ _ _ _ _ _ _ _ _ _ _ _ _ _ _ _ _ _ _ _ _ _ _ _ _ _ _ _ _ _ _ _ _ _ _ _ _ _ _ _ _ _ hR
end Go.Proofs.YtfnhaoindehjdaaDoor
