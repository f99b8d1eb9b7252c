/- A pack of texts: BrkA, BrkB, BrkC, BrkD, BrkE, BrkF, Brk. -/
import Derived.Test.YtcnofhlgiffkjaaGreatDoorPc
import Derived.Deep.CutRange
import Derived.Deep.RegionWith
import Derived.Deep.QuietTactic
import Derived.BigQuiet
import Derived.Laws.ResultCell
import Derived.Test.YtcnofhlgiffkjaaGreatDoorPb
import Derived.Maps.OwnIn
import Derived.RangeFuncWrites
import Derived.RangeFuncLeaves
import Derived.LoopIn
/- The walk of broken: what its loops know; the first loop. (genbrk.py) -/
namespace Go.Proofs.YtcnofhlgiffkjaaGreatDoor
open Go.RowKit
set_option linter.unusedVariables false
set_option linter.unusedSimpArgs false
attribute [local go_sem] Oper.semAt_some

/-- The n-th statement of a sequence, and what follows. -/
def tailC : Nat → Code → Code
  | 0, c => c
  | n + 1, .seq _ b => tailC n b
  | _ + 1, c => c
def headC : Code → Code
  | .seq a _ => a
  | c => c
noncomputable def brkBody : Code := Tryz.f34.body.getD .skip
noncomputable def brkPart (k : Nat) : Code := headC (tailC k brkBody)
/-- What every loop of broken knows. -/
structure Bk (w W3 : World) (P : Pr) (l : List Int) (A A1 A2 A3 A4 A5 : Option Addr) (n1 c c1 n2 c2 n3 c3 n4 c4 n5 c5 : Nat) : Prop where
  hT : Tab w
  hl : Sees w w.heap.size A (l.map iv)
  HN : Hid (l.length = n1)
  L1 : Hid (P.elig.length = n1)
  L2 : Hid (P.dif.length = n2)
  L3 : Hid (P.sam.length = n3)
  L4 : Hid (P.mst.length = n4)
  e1 : SetsAt w w.heap.size A1 P.elig
  e2 : PairsAt w w.heap.size A2 P.dif
  e3 : PairsAt w w.heap.size A3 P.sam
  e4 : MostAt w w.heap.size A4 P.mst
  s1 : n1 ≤ 1000000
  s2 : n2 ≤ 1000000
  s3 : n3 ≤ 1000000
  s4 : n4 ≤ 1000000
  hn10 : n1 ≤ 10
  HU : Hid (∀ u ∈ l, 0 ≤ u ∧ u ≤ 256)
  HD : Hid (∀ x ∈ P.dif, 0 ≤ x.1 ∧ x.1 < n1 ∧ 0 ≤ x.2 ∧ x.2 < n1)
  HS : Hid (∀ x ∈ P.sam, 0 ≤ x.1 ∧ x.1 < n1 ∧ 0 ≤ x.2 ∧ x.2 < n1)
  HM : Hid (∀ x ∈ P.mst, 1 ≤ x.1 ∧ x.1 ≤ 10 ∧ x.2 < 2 ^ n1)
  b3 : Below w.heap.size w W3
  sz3 : W3.heap.size = w.heap.size + 3
  box : ∀ W, Below W3.heap.size W3 W → W.cell? ⟨w.heap.size, 0, none⟩ = some (.slice A1 n1 c1) ∧ W.cell? ⟨w.heap.size, 1, none⟩ = some (.slice A2 n2 c2) ∧ W.cell? ⟨w.heap.size, 2, none⟩ = some (.slice A3 n3 c3) ∧ W.cell? ⟨w.heap.size, 3, none⟩ = some (.slice A4 n4 c4) ∧ W.cell? ⟨w.heap.size + 1, 0, none⟩ = some (.slice A n1 c)
  resF : ∀ W, Below W3.heap.size W3 W → W.cell? ⟨w.heap.size + 2, 0, none⟩ = some (.bool false) ∧ W.frozen? ⟨w.heap.size + 2, 0, none⟩ = false
  bR : Blk W3 (w.heap.size + 2) 4 #[.bool false]

set_option maxHeartbeats 8000000 in
set_option maxRecDepth 100000 in
theorem brk_1 {w W3 : World} {P : Pr} {l : List Int} {A A1 A2 A3 A4 A5 : Option Addr} {n1 c c1 n2 c2 n3 c3 n4 c4 n5 c5 : Nat} (hk : Bk w W3 P l A A1 A2 A3 A4 A5 n1 c c1 n2 c2 n3 c3 n4 c4 n5 c5) (W : World) (hW : Below W3.heap.size W3 W)
    (Q : Exit → Act → World → Prop)
    (hN : (List.range l.length).any (brkE P.elig l) = false → ∀ (a : Act) (W' : World), Below W3.heap.size W3 W' → (∃ u5 u6 u7 u8 u9 u10 u11 u12 u13 u14 u15 u16 u17 u18 u19 u20 u21 u22 u23 u24 u25 u26 u27 u28 u29 u30 u31 u32 u33 u34 u35 u36 u37 u38 u39 u40 u41 u42 u43 u44 u45 u46 u47 u48 u49 u50 u51 u52 u53 u54 u55 u56 u57 u58 u59 u60 u61 u62 u63 u64 u65 u66 u67 u68 u69 u70 u71 u72 u73 u74 u75 u76 u77 u78 u79 u80 u81 u82 u83 u84 u85 u86 u87 u88 u89 u90 u91 u92 u93 u94 u95 u96 u97 u98 u99 u100 u101 u102 u103 u104 u105 u106 u107 u108 u109 u110 u111 u112 u113 u114 u115 u116 u117 u118 u119 u120 u121 u122 u123 u124 u125 u126 u127 u128 u129 u130, a = ⟨#[.agg #[.slice A1 n1 c1, .slice A2 n2 c2, .slice A3 n3 c3, .slice A4 n4 c4, .slice A5 n5 c5], .slice A n1 c, .pointer (some ⟨w.heap.size, 0, none⟩), .pointer (some ⟨w.heap.size + 1, 0, none⟩), .pointer (some ⟨w.heap.size + 2, 0, none⟩), u5, u6, u7, u8, u9, u10, u11, u12, u13, u14, u15, u16, u17, u18, u19, u20, u21, u22, u23, u24, u25, u26, u27, u28, u29, u30, u31, u32, u33, u34, u35, u36, u37, u38, u39, u40, u41, u42, u43, u44, u45, u46, u47, u48, u49, u50, u51, u52, u53, u54, u55, u56, u57, u58, u59, u60, u61, u62, u63, u64, u65, u66, u67, u68, u69, u70, u71, u72, u73, u74, u75, u76, u77, u78, u79, u80, u81, u82, u83, u84, u85, u86, u87, u88, u89, u90, u91, u92, u93, u94, u95, u96, u97, u98, u99, u100, u101, u102, u103, u104, u105, u106, u107, u108, u109, u110, u111, u112, u113, u114, u115, u116, u117, u118, u119, u120, u121, u122, u123, u124, u125, u126, u127, u128, u129, u130], []⟩) → Q .normal a W')
    (retT : ∀ (W : World) (a : Act), Below W3.heap.size W3 W → a.tmps.getD 4 undef = .pointer (some ⟨w.heap.size + 2, 0, none⟩) → a.defers = [] → brk P l = true → Q .ret a (W.setCell ⟨w.heap.size + 2, 0, none⟩ (.bool true)))
    (cx5 cx6 cx7 cx8 cx9 cx10 cx11 cx12 cx13 cx14 cx15 cx16 cx17 cx18 cx19 cx20 cx21 cx22 cx23 cx24 cx25 cx26 cx27 cx28 cx29 cx30 cx31 cx32 cx33 cx34 cx35 cx36 cx37 cx38 cx39 cx40 cx41 cx42 cx43 cx44 cx45 cx46 cx47 cx48 cx49 cx50 cx51 cx52 cx53 cx54 cx55 cx56 cx57 cx58 cx59 cx60 cx61 cx62 cx63 cx64 cx65 cx66 cx67 cx68 cx69 cx70 cx71 cx72 cx73 cx74 cx75 cx76 cx77 cx78 cx79 cx80 cx81 cx82 cx83 cx84 cx85 cx86 cx87 cx88 cx89 cx90 cx91 cx92 cx93 cx94 cx95 cx96 cx97 cx98 cx99 cx100 cx101 cx102 cx103 cx104 cx105 cx106 cx107 cx108 cx109 cx110 cx111 cx112 cx113 cx114 cx115 cx116 cx117 cx118 cx119 cx120 cx121 cx122 cx123 cx124 cx125 cx126 cx127 cx128 cx129 cx130 : Value) :
    (brkPart 1).wp Tryz.prog Q ⟨#[.agg #[.slice A1 n1 c1, .slice A2 n2 c2, .slice A3 n3 c3, .slice A4 n4 c4, .slice A5 n5 c5], .slice A n1 c, .pointer (some ⟨w.heap.size, 0, none⟩), .pointer (some ⟨w.heap.size + 1, 0, none⟩), .pointer (some ⟨w.heap.size + 2, 0, none⟩), cx5, cx6, cx7, cx8, cx9, cx10, cx11, cx12, cx13, cx14, cx15, cx16, cx17, cx18, cx19, cx20, cx21, cx22, cx23, cx24, cx25, cx26, cx27, cx28, cx29, cx30, cx31, cx32, cx33, cx34, cx35, cx36, cx37, cx38, cx39, cx40, cx41, cx42, cx43, cx44, cx45, cx46, cx47, cx48, cx49, cx50, cx51, cx52, cx53, cx54, cx55, cx56, cx57, cx58, cx59, cx60, cx61, cx62, cx63, cx64, cx65, cx66, cx67, cx68, cx69, cx70, cx71, cx72, cx73, cx74, cx75, cx76, cx77, cx78, cx79, cx80, cx81, cx82, cx83, cx84, cx85, cx86, cx87, cx88, cx89, cx90, cx91, cx92, cx93, cx94, cx95, cx96, cx97, cx98, cx99, cx100, cx101, cx102, cx103, cx104, cx105, cx106, cx107, cx108, cx109, cx110, cx111, cx112, cx113, cx114, cx115, cx116, cx117, cx118, cx119, cx120, cx121, cx122, cx123, cx124, cx125, cx126, cx127, cx128, cx129, cx130], []⟩ W := by
  obtain ⟨hT, hl, HN, L1, L2, L3, L4, e1, e2, e3, e4, s1, s2, s3, s4, hn10, HU, HD, HS, HM, b3, sz3, box, resF, bR⟩ := hk
  have hnb : (n1 : Int) ≤ 10 := by omega
  have Hn := Lib.hid hN
  clear hN
  conv => arg 2; whnf
  obtain ⟨t0, t1, t2, t3, t4⟩ := box _ hW
  go_wp2_with fail
  have ePre : ∀ j, j < n1 → brkE P.elig l j = true → brk P l = true := fun j hj hb => by
    unfold brk
    have : (List.range l.length).any (brkE P.elig l) = true := List.any_eq_true.2 ⟨j, List.mem_range.2 (by rw [HN.out]; exact hj), hb⟩
    rw [this]
    rfl
  go_loopw [17] (fun i wr => ∃ k : Nat, k ≤ n1 ∧ i = .int .i64 k ∧ Hid (∀ j, j < k → brkE P.elig l j = false) ∧ Below W3.heap.size W3 wr) (fun i _ => n1 - (intOf i).toNat)
  case atStart => exact ⟨0, Nat.zero_le _, rfl, Lib.hid (fun j hj => absurd hj (by omega)), hW⟩
  case round =>
    obtain ⟨k, hk, rfl, HP, hB⟩ := hrel
    have bw := b3.trans (hB.mono b3.size)
    obtain ⟨t0, t1, t2, t3, t4⟩ := box _ hB
    by_cases hlt : k < n1
    · have hlt' : (k : Int) < (n1 : Int) := by omega
      obtain ⟨b, o, u, rfl, hb2, Hz, hcz⟩ := Sees.int (k := k) (hl.below bw) (by rw [HN.out]; exact hlt)
      obtain ⟨hu0, hu1⟩ := HU.out u (List.mem_of_getElem? Hz.out)
      obtain ⟨U, rfl⟩ := Int.eq_ofNat_of_zero_le hu0
      have hat : atI l k = (U : Int) := by unfold atI; rw [Hz.out]; rfl
      obtain ⟨M, hM⟩ : ∃ M, P.elig[k]? = some M := ⟨_, List.getElem?_eq_getElem (by rw [L1.out]; exact hlt)⟩
      have hbr : brkE P.elig l k = (decide ((U : Int) ≠ 0) && !(M.testBit U)) := by unfold brkE; rw [hat, hM]; rfl
      by_cases hU : U = 0
      · have hb0 : brkE P.elig l k = false := by rw [hbr, hU]; rfl
        subst hU
        have Hb0 := Lib.hid hb0
        clear hb0 hbr hat hM Hz
        go_wp2_with fail
        go_roundw
        case rel =>
          refine ⟨k + 1, by omega, by go_num, Lib.hid (fun j hj => ?_), hB⟩
          by_cases e : j = k
          · subst e; exact Hb0.out
          · exact HP.out j (by omega)
        case measure => simp [intOf]; omega
      · have hUb : ((U : Int) != 0) = true := by simp; omega
        obtain ⟨b9, o9, X, hA1, hb9, hcX, hS⟩ := (e1.below bw) k M hM
        subst hA1
        obtain ⟨As, ns, cs, hXe, _⟩ := id hS
        obtain rfl : X = .slice As ns cs := by simpa using hXe
        have hHas := has_any (.agg #[.slice As ns cs]) M U wr (hS.more bw.size) (by omega)
        rw [decide_eq_true (show (U : Int) ≠ 0 by omega), Bool.true_and] at hbr
        by_cases hbit : M.testBit U = true
        · rw [hbit] at hHas hbr
          have Hb0 := Lib.hid (show brkE P.elig l k = false from hbr)
          clear hbr hat hM Hz hXe hbit hU
          go_wp2_with fail
          refine hHas.mono ?_
          rintro e w4 ⟨rfl, hB4⟩
          go_wp2_with fail
          go_roundw
          case rel =>
            refine ⟨k + 1, by omega, by go_num, Lib.hid (fun j hj => ?_), hB.trans (hB4.mono hB.size)⟩
            by_cases e : j = k
            · subst e; exact Hb0.out
            · exact HP.out j (by omega)
          case measure => simp [intOf]; omega
        · have hbf : M.testBit U = false := by simpa using hbit
          rw [hbf] at hHas hbr
          have hb1 := Lib.hid (ePre k hlt hbr)
          clear hbr hat hM Hz hXe hbit hbf hU
          go_wp2_with fail
          refine hHas.mono ?_
          rintro e w4 ⟨rfl, hB4⟩
          have hB5 := hB.trans (hB4.mono hB.size)
          obtain ⟨r0, r1⟩ := resF _ hB5
          go_wp2_with fail
          exact retT w4 _ hB5 rfl rfl hb1.out
    · have hlt' : ¬ (k : Int) < (n1 : Int) := by omega
      have eAll := Lib.hid (show ∀ j, j < n1 → brkE P.elig l j = false from fun j hj => HP.out j (by omega))
      clear HP
      have hall : (List.range l.length).any (brkE P.elig l) = false := by
        rw [HN.out]
        exact Bool.eq_false_iff.2 fun h => by
          obtain ⟨j, hj, hb⟩ := List.any_eq_true.1 h
          rw [eAll.out j (List.mem_range.1 hj)] at hb
          cases hb
      have Hall := Lib.hid hall
      clear hall
      go_wp2_with fail
      exact Hn.out Hall.out _ _ hB ⟨_, _, _, _, _, _, _, _, _, _, _, _, _, _, _, _, _, _, _, _, _, _, _, _, _, _, _, _, _, _, _, _, _, _, _, _, _, _, _, _, _, _, _, _, _, _, _, _, _, _, _, _, _, _, _, _, _, _, _, _, _, _, _, _, _, _, _, _, _, _, _, _, _, _, _, _, _, _, _, _, _, _, _, _, _, _, _, _, _, _, _, _, _, _, _, _, _, _, _, _, _, _, _, _, _, _, _, _, _, _, _, _, _, _, _, _, _, _, _, _, _, _, _, _, _, _, rfl⟩
end Go.Proofs.YtcnofhlgiffkjaaGreatDoor
/- The walk of broken: the second loop. (genbrk.py) -/
namespace Go.Proofs.YtcnofhlgiffkjaaGreatDoor
open Go.RowKit
set_option linter.unusedVariables false
set_option linter.unusedSimpArgs false
attribute [local go_sem] Oper.semAt_some

set_option maxHeartbeats 8000000 in
set_option maxRecDepth 100000 in
theorem brk_2 {w W3 : World} {P : Pr} {l : List Int} {A A1 A2 A3 A4 A5 : Option Addr} {n1 c c1 n2 c2 n3 c3 n4 c4 n5 c5 : Nat} (hk : Bk w W3 P l A A1 A2 A3 A4 A5 n1 c c1 n2 c2 n3 c3 n4 c4 n5 c5) (W : World) (hW : Below W3.heap.size W3 W)
    (Q : Exit → Act → World → Prop)
    (hN : P.dif.any (brkD l) = false → ∀ (a : Act) (W' : World), Below W3.heap.size W3 W' → (∃ u5 u6 u7 u8 u9 u10 u11 u12 u13 u14 u15 u16 u17 u18 u19 u20 u21 u22 u23 u24 u25 u26 u27 u28 u29 u30 u31 u32 u33 u34 u35 u36 u37 u38 u39 u40 u41 u42 u43 u44 u45 u46 u47 u48 u49 u50 u51 u52 u53 u54 u55 u56 u57 u58 u59 u60 u61 u62 u63 u64 u65 u66 u67 u68 u69 u70 u71 u72 u73 u74 u75 u76 u77 u78 u79 u80 u81 u82 u83 u84 u85 u86 u87 u88 u89 u90 u91 u92 u93 u94 u95 u96 u97 u98 u99 u100 u101 u102 u103 u104 u105 u106 u107 u108 u109 u110 u111 u112 u113 u114 u115 u116 u117 u118 u119 u120 u121 u122 u123 u124 u125 u126 u127 u128 u129 u130, a = ⟨#[.agg #[.slice A1 n1 c1, .slice A2 n2 c2, .slice A3 n3 c3, .slice A4 n4 c4, .slice A5 n5 c5], .slice A n1 c, .pointer (some ⟨w.heap.size, 0, none⟩), .pointer (some ⟨w.heap.size + 1, 0, none⟩), .pointer (some ⟨w.heap.size + 2, 0, none⟩), u5, u6, u7, u8, u9, u10, u11, u12, u13, u14, u15, u16, u17, u18, u19, u20, u21, u22, u23, u24, u25, u26, u27, u28, u29, u30, u31, u32, u33, u34, u35, u36, u37, u38, u39, u40, u41, u42, u43, u44, u45, u46, u47, u48, u49, u50, u51, u52, u53, u54, u55, u56, u57, u58, u59, u60, u61, u62, u63, u64, u65, u66, u67, u68, u69, u70, u71, u72, u73, u74, u75, u76, u77, u78, u79, u80, u81, u82, u83, u84, u85, u86, u87, u88, u89, u90, u91, u92, u93, u94, u95, u96, u97, u98, u99, u100, u101, u102, u103, u104, u105, u106, u107, u108, u109, u110, u111, u112, u113, u114, u115, u116, u117, u118, u119, u120, u121, u122, u123, u124, u125, u126, u127, u128, u129, u130], []⟩) → Q .normal a W')
    (retT : ∀ (W : World) (a : Act), Below W3.heap.size W3 W → a.tmps.getD 4 undef = .pointer (some ⟨w.heap.size + 2, 0, none⟩) → a.defers = [] → brk P l = true → Q .ret a (W.setCell ⟨w.heap.size + 2, 0, none⟩ (.bool true)))
    (cx5 cx6 cx7 cx8 cx9 cx10 cx11 cx12 cx13 cx14 cx15 cx16 cx17 cx18 cx19 cx20 cx21 cx22 cx23 cx24 cx25 cx26 cx27 cx28 cx29 cx30 cx31 cx32 cx33 cx34 cx35 cx36 cx37 cx38 cx39 cx40 cx41 cx42 cx43 cx44 cx45 cx46 cx47 cx48 cx49 cx50 cx51 cx52 cx53 cx54 cx55 cx56 cx57 cx58 cx59 cx60 cx61 cx62 cx63 cx64 cx65 cx66 cx67 cx68 cx69 cx70 cx71 cx72 cx73 cx74 cx75 cx76 cx77 cx78 cx79 cx80 cx81 cx82 cx83 cx84 cx85 cx86 cx87 cx88 cx89 cx90 cx91 cx92 cx93 cx94 cx95 cx96 cx97 cx98 cx99 cx100 cx101 cx102 cx103 cx104 cx105 cx106 cx107 cx108 cx109 cx110 cx111 cx112 cx113 cx114 cx115 cx116 cx117 cx118 cx119 cx120 cx121 cx122 cx123 cx124 cx125 cx126 cx127 cx128 cx129 cx130 : Value) :
    (brkPart 2).wp Tryz.prog Q ⟨#[.agg #[.slice A1 n1 c1, .slice A2 n2 c2, .slice A3 n3 c3, .slice A4 n4 c4, .slice A5 n5 c5], .slice A n1 c, .pointer (some ⟨w.heap.size, 0, none⟩), .pointer (some ⟨w.heap.size + 1, 0, none⟩), .pointer (some ⟨w.heap.size + 2, 0, none⟩), cx5, cx6, cx7, cx8, cx9, cx10, cx11, cx12, cx13, cx14, cx15, cx16, cx17, cx18, cx19, cx20, cx21, cx22, cx23, cx24, cx25, cx26, cx27, cx28, cx29, cx30, cx31, cx32, cx33, cx34, cx35, cx36, cx37, cx38, cx39, cx40, cx41, cx42, cx43, cx44, cx45, cx46, cx47, cx48, cx49, cx50, cx51, cx52, cx53, cx54, cx55, cx56, cx57, cx58, cx59, cx60, cx61, cx62, cx63, cx64, cx65, cx66, cx67, cx68, cx69, cx70, cx71, cx72, cx73, cx74, cx75, cx76, cx77, cx78, cx79, cx80, cx81, cx82, cx83, cx84, cx85, cx86, cx87, cx88, cx89, cx90, cx91, cx92, cx93, cx94, cx95, cx96, cx97, cx98, cx99, cx100, cx101, cx102, cx103, cx104, cx105, cx106, cx107, cx108, cx109, cx110, cx111, cx112, cx113, cx114, cx115, cx116, cx117, cx118, cx119, cx120, cx121, cx122, cx123, cx124, cx125, cx126, cx127, cx128, cx129, cx130], []⟩ W := by
  obtain ⟨hT, hl, HN, L1, L2, L3, L4, e1, e2, e3, e4, s1, s2, s3, s4, hn10, HU, HD, HS, HM, b3, sz3, box, resF, bR⟩ := hk
  have hnb : (n1 : Int) ≤ 10 := by omega
  have Hn := Lib.hid hN
  clear hN
  conv => arg 2; whnf
  obtain ⟨t0, t1, t2, t3, t4⟩ := box _ hW
  go_wp2_with fail
  have dPre : ∀ x ∈ P.dif, brkD l x = true → brk P l = true := fun x hx hb => by
    unfold brk
    have : P.dif.any (brkD l) = true := List.any_eq_true.2 ⟨x, hx, hb⟩
    rw [this]
    simp
  go_loopw [38] (fun i wr => ∃ k : Nat, k ≤ n2 ∧ i = .int .i64 k ∧ Hid ((P.dif.take k).any (brkD l) = false) ∧ Below W3.heap.size W3 wr) (fun i _ => n2 - (intOf i).toNat)
  case atStart => exact ⟨0, Nat.zero_le _, rfl, Lib.hid rfl, hW⟩
  case round =>
    obtain ⟨j, hj, rfl, HQ, hC⟩ := hrel
    have cw := b3.trans (hC.mono b3.size)
    obtain ⟨t0, t1, t2, t3, t4⟩ := box _ hC
    have hn2b : (n2 : Int) ≤ 1000000 := by omega
    by_cases hj2 : j < n2
    · have hj2' : (j : Int) < (n2 : Int) := by omega
      obtain ⟨⟨x, y⟩, hx⟩ : ∃ x, P.dif[j]? = some x := ⟨_, List.getElem?_eq_getElem (by rw [L2.out]; exact hj2)⟩
      obtain ⟨hx0, hx1, hy0, hy1⟩ := HD.out _ (List.mem_of_getElem? hx)
      simp only at hx0 hx1 hy0 hy1
      obtain ⟨X, rfl⟩ := Int.eq_ofNat_of_zero_le hx0
      obtain ⟨Y, rfl⟩ := Int.eq_ofNat_of_zero_le hy0
      obtain ⟨b, o, rfl, hb2, hcx, hcy⟩ := (e2.below cw) j _ hx
      simp only [] at hcx hcy
      obtain ⟨bl, ol, u, rfl, hbl, Hu, hcu⟩ := Sees.int (k := X) (hl.below cw) (by rw [HN.out]; omega)
      obtain ⟨bl', ol', v, hA', hbl', Hv, hcv⟩ := Sees.int (k := Y) (hl.below cw) (by rw [HN.out]; omega)
      simp only [Option.some.injEq, Addr.mk.injEq, and_true] at hA'
      obtain ⟨rfl, rfl⟩ := hA'
      have ex : atZ l (X : Int) = u := by unfold atZ atI; rw [Int.toNat_natCast, Hu.out]; rfl
      have ey : atZ l (Y : Int) = v := by unfold atZ atI; rw [Int.toNat_natCast, Hv.out]; rfl
      have hbr : brkD l ((X : Int), (Y : Int)) = (decide (u ≠ 0) && decide (u = v)) := by simp only [brkD, ex, ey]
      clear ex ey
      have hnext := any_take_succ (brkD l) hx
      rw [HQ.out, Bool.false_or, hbr] at hnext
      have hret : brkD l ((X : Int), (Y : Int)) = true → brk P l = true := dPre _ (List.mem_of_getElem? hx)
      rw [hbr] at hret
      have Hnext := Lib.hid hnext
      have hbx : Below wr.heap.size wr (wr.alloc (.cells #[.int .i64 (X : Int), .int .i64 (Y : Int)] 77)) := (Below.refl _ _).alloc (Nat.le_refl _) _
      have bxx := Blk.new wr 77 #[.int .i64 (X : Int), .int .i64 (Y : Int)]
      have hC2 := hC.trans (hbx.mono hC.size)
      have cw2 := b3.trans (hC2.mono b3.size)
      have hcu2 := (hbx.cell (p := ⟨bl, ol + X, none⟩) (by have := cw.size; show bl < wr.heap.size; omega)).trans hcu
      have hcv2 := (hbx.cell (p := ⟨bl, ol + Y, none⟩) (by have := cw.size; show bl < wr.heap.size; omega)).trans hcv
      clear hnext hx hbr Hu Hv
      go_wp2_with fail
      generalize (wr.alloc (.cells #[.int .i64 (X : Int), .int .i64 (Y : Int)] 77)) = v0 at hbx bxx hC2 cw2 hcu2 hcv2 ⊢
      obtain ⟨p0, p1, p2, p3, p4⟩ := box _ hC2
      have xx := (bxx.cell 0).trans rfl
      have yy := (bxx.cell 1).trans rfl
      by_cases u0 : u = 0
      · subst u0
        have Hn' : Hid ((P.dif.take (j + 1)).any (brkD l) = false) := Lib.hid (by rw [Hnext.out]; simp)
        clear Hnext hret
        have hCd := fun q => hC2.trans ((below_drewN (Below.refl v0.heap.size v0) q).mono hC2.size)
        have r0 := fun q => (resF _ (hCd q)).1
        have r1 := fun q => (resF _ (hCd q)).2
        go_quiet (fail)
        go_wp2_with fail
        go_roundw
        case rel => exact ⟨j + 1, by omega, by go_num, Hn', hCd _⟩
        case measure => simp [intOf]; omega
      · have u0b : (u != 0) = true := by simpa using u0
        by_cases uv : u = v
        · have hb1 := Lib.hid (hret (by rw [decide_eq_true u0, decide_eq_true uv]; rfl))
          have uvb : (u == v) = true := by simpa using uv
          clear Hnext hret u0 uv
          have hCd := fun q => hC2.trans ((below_drewN (Below.refl v0.heap.size v0) q).mono hC2.size)
          have r0 := fun q => (resF _ (hCd q)).1
          have r1 := fun q => (resF _ (hCd q)).2
          go_quiet (fail)
          go_wp2_with fail
          exact retT _ _ (hCd _) rfl rfl hb1.out
        · have Hn' : Hid ((P.dif.take (j + 1)).any (brkD l) = false) := Lib.hid (by rw [Hnext.out, decide_eq_false uv]; simp)
          have uvb : (u == v) = false := by simpa using uv
          clear Hnext hret u0 uv
          have hCd := fun q => hC2.trans ((below_drewN (Below.refl v0.heap.size v0) q).mono hC2.size)
          have r0 := fun q => (resF _ (hCd q)).1
          have r1 := fun q => (resF _ (hCd q)).2
          go_quiet (fail)
          go_wp2_with fail
          go_roundw
          case rel => exact ⟨j + 1, by omega, by go_num, Hn', hCd _⟩
          case measure => simp [intOf]; omega
    · have hj2' : ¬ (j : Int) < (n2 : Int) := by omega
      have dAll := Lib.hid (show P.dif.any (brkD l) = false from by
        have h1 := HQ.out
        rw [List.take_of_length_le (by rw [L2.out]; omega)] at h1
        exact h1)
      clear HQ
      go_wp2_with fail
      exact Hn.out dAll.out _ _ hC ⟨_, _, _, _, _, _, _, _, _, _, _, _, _, _, _, _, _, _, _, _, _, _, _, _, _, _, _, _, _, _, _, _, _, _, _, _, _, _, _, _, _, _, _, _, _, _, _, _, _, _, _, _, _, _, _, _, _, _, _, _, _, _, _, _, _, _, _, _, _, _, _, _, _, _, _, _, _, _, _, _, _, _, _, _, _, _, _, _, _, _, _, _, _, _, _, _, _, _, _, _, _, _, _, _, _, _, _, _, _, _, _, _, _, _, _, _, _, _, _, _, _, _, _, _, _, _, rfl⟩
end Go.Proofs.YtcnofhlgiffkjaaGreatDoor
/- The walk of broken: the third loop. (genbrk.py) -/
namespace Go.Proofs.YtcnofhlgiffkjaaGreatDoor
open Go.RowKit
set_option linter.unusedVariables false
set_option linter.unusedSimpArgs false
attribute [local go_sem] Oper.semAt_some

set_option maxHeartbeats 8000000 in
set_option maxRecDepth 100000 in
theorem brk_3 {w W3 : World} {P : Pr} {l : List Int} {A A1 A2 A3 A4 A5 : Option Addr} {n1 c c1 n2 c2 n3 c3 n4 c4 n5 c5 : Nat} (hk : Bk w W3 P l A A1 A2 A3 A4 A5 n1 c c1 n2 c2 n3 c3 n4 c4 n5 c5) (W : World) (hW : Below W3.heap.size W3 W)
    (Q : Exit → Act → World → Prop)
    (hN : P.sam.any (brkS l) = false → ∀ (a : Act) (W' : World), Below W3.heap.size W3 W' → (∃ u5 u6 u7 u8 u9 u10 u11 u12 u13 u14 u15 u16 u17 u18 u19 u20 u21 u22 u23 u24 u25 u26 u27 u28 u29 u30 u31 u32 u33 u34 u35 u36 u37 u38 u39 u40 u41 u42 u43 u44 u45 u46 u47 u48 u49 u50 u51 u52 u53 u54 u55 u56 u57 u58 u59 u60 u61 u62 u63 u64 u65 u66 u67 u68 u69 u70 u71 u72 u73 u74 u75 u76 u77 u78 u79 u80 u81 u82 u83 u84 u85 u86 u87 u88 u89 u90 u91 u92 u93 u94 u95 u96 u97 u98 u99 u100 u101 u102 u103 u104 u105 u106 u107 u108 u109 u110 u111 u112 u113 u114 u115 u116 u117 u118 u119 u120 u121 u122 u123 u124 u125 u126 u127 u128 u129 u130, a = ⟨#[.agg #[.slice A1 n1 c1, .slice A2 n2 c2, .slice A3 n3 c3, .slice A4 n4 c4, .slice A5 n5 c5], .slice A n1 c, .pointer (some ⟨w.heap.size, 0, none⟩), .pointer (some ⟨w.heap.size + 1, 0, none⟩), .pointer (some ⟨w.heap.size + 2, 0, none⟩), u5, u6, u7, u8, u9, u10, u11, u12, u13, u14, u15, u16, u17, u18, u19, u20, u21, u22, u23, u24, u25, u26, u27, u28, u29, u30, u31, u32, u33, u34, u35, u36, u37, u38, u39, u40, u41, u42, u43, u44, u45, u46, u47, u48, u49, u50, u51, u52, u53, u54, u55, u56, u57, u58, u59, u60, u61, u62, u63, u64, u65, u66, u67, u68, u69, u70, u71, u72, u73, u74, u75, u76, u77, u78, u79, u80, u81, u82, u83, u84, u85, u86, u87, u88, u89, u90, u91, u92, u93, u94, u95, u96, u97, u98, u99, u100, u101, u102, u103, u104, u105, u106, u107, u108, u109, u110, u111, u112, u113, u114, u115, u116, u117, u118, u119, u120, u121, u122, u123, u124, u125, u126, u127, u128, u129, u130], []⟩) → Q .normal a W')
    (retT : ∀ (W : World) (a : Act), Below W3.heap.size W3 W → a.tmps.getD 4 undef = .pointer (some ⟨w.heap.size + 2, 0, none⟩) → a.defers = [] → brk P l = true → Q .ret a (W.setCell ⟨w.heap.size + 2, 0, none⟩ (.bool true)))
    (cx5 cx6 cx7 cx8 cx9 cx10 cx11 cx12 cx13 cx14 cx15 cx16 cx17 cx18 cx19 cx20 cx21 cx22 cx23 cx24 cx25 cx26 cx27 cx28 cx29 cx30 cx31 cx32 cx33 cx34 cx35 cx36 cx37 cx38 cx39 cx40 cx41 cx42 cx43 cx44 cx45 cx46 cx47 cx48 cx49 cx50 cx51 cx52 cx53 cx54 cx55 cx56 cx57 cx58 cx59 cx60 cx61 cx62 cx63 cx64 cx65 cx66 cx67 cx68 cx69 cx70 cx71 cx72 cx73 cx74 cx75 cx76 cx77 cx78 cx79 cx80 cx81 cx82 cx83 cx84 cx85 cx86 cx87 cx88 cx89 cx90 cx91 cx92 cx93 cx94 cx95 cx96 cx97 cx98 cx99 cx100 cx101 cx102 cx103 cx104 cx105 cx106 cx107 cx108 cx109 cx110 cx111 cx112 cx113 cx114 cx115 cx116 cx117 cx118 cx119 cx120 cx121 cx122 cx123 cx124 cx125 cx126 cx127 cx128 cx129 cx130 : Value) :
    (brkPart 3).wp Tryz.prog Q ⟨#[.agg #[.slice A1 n1 c1, .slice A2 n2 c2, .slice A3 n3 c3, .slice A4 n4 c4, .slice A5 n5 c5], .slice A n1 c, .pointer (some ⟨w.heap.size, 0, none⟩), .pointer (some ⟨w.heap.size + 1, 0, none⟩), .pointer (some ⟨w.heap.size + 2, 0, none⟩), cx5, cx6, cx7, cx8, cx9, cx10, cx11, cx12, cx13, cx14, cx15, cx16, cx17, cx18, cx19, cx20, cx21, cx22, cx23, cx24, cx25, cx26, cx27, cx28, cx29, cx30, cx31, cx32, cx33, cx34, cx35, cx36, cx37, cx38, cx39, cx40, cx41, cx42, cx43, cx44, cx45, cx46, cx47, cx48, cx49, cx50, cx51, cx52, cx53, cx54, cx55, cx56, cx57, cx58, cx59, cx60, cx61, cx62, cx63, cx64, cx65, cx66, cx67, cx68, cx69, cx70, cx71, cx72, cx73, cx74, cx75, cx76, cx77, cx78, cx79, cx80, cx81, cx82, cx83, cx84, cx85, cx86, cx87, cx88, cx89, cx90, cx91, cx92, cx93, cx94, cx95, cx96, cx97, cx98, cx99, cx100, cx101, cx102, cx103, cx104, cx105, cx106, cx107, cx108, cx109, cx110, cx111, cx112, cx113, cx114, cx115, cx116, cx117, cx118, cx119, cx120, cx121, cx122, cx123, cx124, cx125, cx126, cx127, cx128, cx129, cx130], []⟩ W := by
  obtain ⟨hT, hl, HN, L1, L2, L3, L4, e1, e2, e3, e4, s1, s2, s3, s4, hn10, HU, HD, HS, HM, b3, sz3, box, resF, bR⟩ := hk
  have hnb : (n1 : Int) ≤ 10 := by omega
  have Hn := Lib.hid hN
  clear hN
  conv => arg 2; whnf
  obtain ⟨t0, t1, t2, t3, t4⟩ := box _ hW
  go_wp2_with fail
  have sPre : ∀ x ∈ P.sam, brkS l x = true → brk P l = true := fun x hx hb => by
    unfold brk
    have : P.sam.any (brkS l) = true := List.any_eq_true.2 ⟨x, hx, hb⟩
    rw [this]
    simp
  go_loopw [65] (fun i wr => ∃ k : Nat, k ≤ n3 ∧ i = .int .i64 k ∧ Hid ((P.sam.take k).any (brkS l) = false) ∧ Below W3.heap.size W3 wr) (fun i _ => n3 - (intOf i).toNat)
  case atStart => exact ⟨0, Nat.zero_le _, rfl, Lib.hid rfl, hW⟩
  case round =>
    obtain ⟨j, hj, rfl, HQ, hC⟩ := hrel
    have cw := b3.trans (hC.mono b3.size)
    obtain ⟨t0, t1, t2, t3, t4⟩ := box _ hC
    have hn3b : (n3 : Int) ≤ 1000000 := by omega
    by_cases hj3 : j < n3
    · have hj3' : (j : Int) < (n3 : Int) := by omega
      obtain ⟨⟨x, y⟩, hx⟩ : ∃ x, P.sam[j]? = some x := ⟨_, List.getElem?_eq_getElem (by rw [L3.out]; exact hj3)⟩
      obtain ⟨hx0, hx1, hy0, hy1⟩ := HS.out _ (List.mem_of_getElem? hx)
      simp only at hx0 hx1 hy0 hy1
      obtain ⟨X, rfl⟩ := Int.eq_ofNat_of_zero_le hx0
      obtain ⟨Y, rfl⟩ := Int.eq_ofNat_of_zero_le hy0
      obtain ⟨b, o, rfl, hb2, hcx, hcy⟩ := (e3.below cw) j _ hx
      simp only [] at hcx hcy
      obtain ⟨bl, ol, u, rfl, hbl, Hu, hcu⟩ := Sees.int (k := X) (hl.below cw) (by rw [HN.out]; omega)
      obtain ⟨bl', ol', v, hA', hbl', Hv, hcv⟩ := Sees.int (k := Y) (hl.below cw) (by rw [HN.out]; omega)
      simp only [Option.some.injEq, Addr.mk.injEq, and_true] at hA'
      obtain ⟨rfl, rfl⟩ := hA'
      have ex : atZ l (X : Int) = u := by unfold atZ atI; rw [Int.toNat_natCast, Hu.out]; rfl
      have ey : atZ l (Y : Int) = v := by unfold atZ atI; rw [Int.toNat_natCast, Hv.out]; rfl
      have hbr : brkS l ((X : Int), (Y : Int)) = (decide (u ≠ 0) && decide (v ≠ 0) && decide (u ≠ v)) := by simp only [brkS, ex, ey]
      clear ex ey
      have hnext := any_take_succ (brkS l) hx
      rw [HQ.out, Bool.false_or, hbr] at hnext
      have hret : brkS l ((X : Int), (Y : Int)) = true → brk P l = true := sPre _ (List.mem_of_getElem? hx)
      rw [hbr] at hret
      have Hnext := Lib.hid hnext
      have hbx : Below wr.heap.size wr (wr.alloc (.cells #[.int .i64 (X : Int), .int .i64 (Y : Int)] 77)) := (Below.refl _ _).alloc (Nat.le_refl _) _
      have bxx := Blk.new wr 77 #[.int .i64 (X : Int), .int .i64 (Y : Int)]
      have hC2 := hC.trans (hbx.mono hC.size)
      have cw2 := b3.trans (hC2.mono b3.size)
      have hcu2 := (hbx.cell (p := ⟨bl, ol + X, none⟩) (by have := cw.size; show bl < wr.heap.size; omega)).trans hcu
      have hcv2 := (hbx.cell (p := ⟨bl, ol + Y, none⟩) (by have := cw.size; show bl < wr.heap.size; omega)).trans hcv
      clear hnext hx hbr Hu Hv
      go_wp2_with fail
      generalize (wr.alloc (.cells #[.int .i64 (X : Int), .int .i64 (Y : Int)] 77)) = v0 at hbx bxx hC2 cw2 hcu2 hcv2 ⊢
      obtain ⟨p0, p1, p2, p3, p4⟩ := box _ hC2
      have xx := (bxx.cell 0).trans rfl
      have yy := (bxx.cell 1).trans rfl
      by_cases u0 : u = 0
      · subst u0
        have Hn' : Hid ((P.sam.take (j + 1)).any (brkS l) = false) := Lib.hid (by rw [Hnext.out]; simp)
        clear Hnext hret
        have hCd := fun q => hC2.trans ((below_drewN (Below.refl v0.heap.size v0) q).mono hC2.size)
        have r0 := fun q => (resF _ (hCd q)).1
        have r1 := fun q => (resF _ (hCd q)).2
        go_quiet (fail)
        go_wp2_with fail
        go_roundw
        case rel => exact ⟨j + 1, by omega, by go_num, Hn', hCd _⟩
        case measure => simp [intOf]; omega
      · have u0b : (u != 0) = true := by simpa using u0
        by_cases v0' : v = 0
        · subst v0'
          have Hn' : Hid ((P.sam.take (j + 1)).any (brkS l) = false) := Lib.hid (by rw [Hnext.out]; simp)
          clear Hnext hret
          have hCd := fun q => hC2.trans ((below_drewN (Below.refl v0.heap.size v0) q).mono hC2.size)
          have r0 := fun q => (resF _ (hCd q)).1
          have r1 := fun q => (resF _ (hCd q)).2
          go_quiet (fail)
          go_wp2_with fail
          go_roundw
          case rel => exact ⟨j + 1, by omega, by go_num, Hn', hCd _⟩
          case measure => simp [intOf]; omega
        · have v0b : (v != 0) = true := by simpa using v0'
          by_cases uv : u = v
          · have Hn' : Hid ((P.sam.take (j + 1)).any (brkS l) = false) := Lib.hid (by rw [Hnext.out, uv]; simp)
            have uvb : (u != v) = false := by simpa using uv
            clear Hnext hret u0 v0' uv
            have hCd := fun q => hC2.trans ((below_drewN (Below.refl v0.heap.size v0) q).mono hC2.size)
            have r0 := fun q => (resF _ (hCd q)).1
            have r1 := fun q => (resF _ (hCd q)).2
            go_quiet (fail)
            go_wp2_with fail
            go_roundw
            case rel => exact ⟨j + 1, by omega, by go_num, Hn', hCd _⟩
            case measure => simp [intOf]; omega
          · have hb1 := Lib.hid (hret (by rw [decide_eq_true u0, decide_eq_true v0', decide_eq_true uv]; rfl))
            have uvb : (u != v) = true := by simpa using uv
            clear Hnext hret u0 v0' uv
            have hCd := fun q => hC2.trans ((below_drewN (Below.refl v0.heap.size v0) q).mono hC2.size)
            have r0 := fun q => (resF _ (hCd q)).1
            have r1 := fun q => (resF _ (hCd q)).2
            go_quiet (fail)
            go_wp2_with fail
            exact retT _ _ (hCd _) rfl rfl hb1.out
    · have hj3' : ¬ (j : Int) < (n3 : Int) := by omega
      have sAll := Lib.hid (show P.sam.any (brkS l) = false from by
        have h1 := HQ.out
        rw [List.take_of_length_le (by rw [L3.out]; omega)] at h1
        exact h1)
      clear HQ
      go_wp2_with fail
      exact Hn.out sAll.out _ _ hC ⟨_, _, _, _, _, _, _, _, _, _, _, _, _, _, _, _, _, _, _, _, _, _, _, _, _, _, _, _, _, _, _, _, _, _, _, _, _, _, _, _, _, _, _, _, _, _, _, _, _, _, _, _, _, _, _, _, _, _, _, _, _, _, _, _, _, _, _, _, _, _, _, _, _, _, _, _, _, _, _, _, _, _, _, _, _, _, _, _, _, _, _, _, _, _, _, _, _, _, _, _, _, _, _, _, _, _, _, _, _, _, _, _, _, _, _, _, _, _, _, _, _, _, _, _, _, _, rfl⟩
end Go.Proofs.YtcnofhlgiffkjaaGreatDoor
/- The walk of broken: the body of the loop over the members. (genbrk.py) -/
namespace Go.Proofs.YtcnofhlgiffkjaaGreatDoor
open Go.RowKit
set_option linter.unusedVariables false
set_option linter.unusedSimpArgs false
attribute [local go_sem] Oper.semAt_some

/-- The loop over a function within. -/
def rfOf : Code → Option Code
  | .rangeFunc a b c d => some (.rangeFunc a b c d)
  | .loop c => rfOf c
  | .block _ c => rfOf c
  | .seq a b => match rfOf a with
    | some c => some c
    | none => rfOf b
  | _ => none
def rfBody : Code → Code
  | .rangeFunc _ _ _ b => b
  | c => c
noncomputable def brkRf : Code := (rfOf (brkPart 4)).getD .skip
noncomputable def brkRound : Code := rfBody brkRf
theorem memM_lt {M n x : Nat} (h : M < 2 ^ n) (hx : x ∈ memM M) : x < n := by
  rw [memM_memT h] at hx
  exact List.mem_range.1 (List.mem_filter.1 hx).1
theorem cntU_snoc (l : List Int) (ks : List Nat) (k : Nat) (u : Int) : cntU l (ks ++ [k]) u = cntU l ks u + if atI l k = u then 1 else 0 := by
  unfold cntU
  rw [List.filter_append, List.length_append]
  by_cases h : atI l k = u <;> simp [h]
theorem cntU_pre (l : List Int) {ks ks' : List Nat} (h : ks <+: ks') (u : Int) : cntU l ks u ≤ cntU l ks' u := by
  obtain ⟨d, rfl⟩ := h
  unfold cntU
  rw [List.filter_append, List.length_append]
  omega
theorem cntU_len (l : List Int) (ks : List Nat) (u : Int) : cntU l ks u ≤ ks.length := List.length_filter_le _ _
/-- What the map counts. -/
def cntD (l : List Int) (ks : List Nat) (u : Int) : Int := if u = 0 then 0 else cntU l ks u
/-- The invariant of the loop over the members. -/
structure BI (W3 : World) (l : List Int) (gm gt gp : Nat) (K : Int) (Ds : List Nat) (ks : List Nat) (W : World) : Prop where
  cm : W.cell? ⟨gm, 0, none⟩ = some (.int .i64 K)
  ct : W.cell? ⟨gt, 0, none⟩ = some (.map (some gp))
  own : ∃ (nn : Nat) (D : DataW Unit), nn ≤ ks.length ∧ W.ownsMap Tryz.prog 3 (plainElem (H := Unit) Tryz.prog 3) gp nn D ∧ Maps.IsMap D ∧ ∀ u : Int, D.atKey (.int .i64 u) (.lit (.int .i64 0)) = .lit (.int .i64 (cntD l ks u))
  low : Below W3.heap.size W3 W
  few : ∀ u : Int, u ≠ 0 → (cntU l ks u : Int) ≤ K
  opn : OpenM W W3.heap.size Ds
/-- The loop is left by a return. -/
structure BX (w : World) (l : List Int) (K : Int) (Ds : List Nat) (B : Nat) (c : Code) (ks : List Nat) (W : World) : Prop where
  ret : c = .ret
  low : Below w.heap.size w W
  blk : Blk W (w.heap.size + 2) 4 #[.bool true]
  bad : ∃ u : Int, u ≠ 0 ∧ K < (cntU l ks u : Int)
  opn : OpenM W B Ds

set_option maxHeartbeats 8000000 in
set_option maxRecDepth 100000 in
theorem brk_body {w W3 : World} {P : Pr} {l : List Int} {A A1 A2 A3 A4 A5 : Option Addr} {n1 c c1 n2 c2 n3 c3 n4 c4 n5 c5 : Nat} (hk : Bk w W3 P l A A1 A2 A3 A4 A5 n1 c c1 n2 c2 n3 c3 n4 c4 n5 c5) (gm gt gp : Nat) (K : Int) (M : Nat) (Ds : List Nat) (hM : M < 2 ^ n1) (hK1 : 1 ≤ K) (hgp : W3.heap.size ≤ gp) (lno B : Nat) (hB : gp < B)
    (pre : List Nat) (x : Nat) (W : World) (hx : x ∈ memM M) (hlt : pre.length < 4096) (hI : BI W3 l gm gt gp K Ds pre W)
    (Q : Exit → Act → World → Prop)
    (hN : ∀ a W', KeepsFrom B W W' → Below w.heap.size W W' → BI W3 l gm gt gp K Ds (pre ++ [x]) W' → Q .normal a W')
    (hR : ∀ a W', KeepsFrom B W W' → BX w l K Ds W3.heap.size .ret (pre ++ [x]) W' → Q .ret a W')
    (cx5 cx6 cx7 cx8 cx9 cx10 cx11 cx12 cx13 cx14 cx15 cx16 cx17 cx18 cx19 cx20 cx21 cx22 cx23 cx24 cx25 cx26 cx27 cx28 cx29 cx30 cx31 cx32 cx33 cx34 cx35 cx36 cx37 cx38 cx39 cx40 cx41 cx42 cx43 cx44 cx45 cx46 cx47 cx48 cx49 cx50 cx51 cx52 cx53 cx54 cx55 cx56 cx57 cx58 cx59 cx60 cx61 cx62 cx63 cx64 cx65 cx66 cx67 cx68 cx69 cx70 cx71 cx72 cx73 cx74 cx75 cx76 cx77 cx78 cx79 cx80 cx81 cx82 cx83 cx84 cx85 cx86 cx87 cx88 cx89 cx90 cx91 cx92 cx93 cx94 cx95 cx96 cx97 cx98 cx99 cx100 cx101 cx102 cx103 cx104 cx105 cx106 cx107 cx108 cx109 cx110 cx111 cx112 cx113 cx114 cx115 cx116 cx117 cx118 cx119 cx120 cx121 cx122 cx123 cx124 cx125 cx126 cx127 cx128 cx129 cx130 : Value) :
    brkRound.wpIn (Fence.wide.inRound lno) 3 Tryz.prog Q ⟨#[.agg #[.slice A1 n1 c1, .slice A2 n2 c2, .slice A3 n3 c3, .slice A4 n4 c4, .slice A5 n5 c5], .slice A n1 c, .pointer (some ⟨w.heap.size, 0, none⟩), .pointer (some ⟨w.heap.size + 1, 0, none⟩), .pointer (some ⟨w.heap.size + 2, 0, none⟩), cx5, cx6, cx7, cx8, cx9, cx10, cx11, .pointer (some ⟨gm, 0, none⟩), .pointer (some ⟨gt, 0, none⟩), .int .i64 (x : Int), cx15, cx16, cx17, cx18, cx19, cx20, cx21, cx22, cx23, cx24, cx25, cx26, cx27, cx28, cx29, cx30, cx31, cx32, cx33, cx34, cx35, cx36, cx37, cx38, cx39, cx40, cx41, cx42, cx43, cx44, cx45, cx46, cx47, cx48, cx49, cx50, cx51, cx52, cx53, cx54, cx55, cx56, cx57, cx58, cx59, cx60, cx61, cx62, cx63, cx64, cx65, cx66, cx67, cx68, cx69, cx70, cx71, cx72, cx73, cx74, cx75, cx76, cx77, cx78, cx79, cx80, cx81, cx82, cx83, cx84, cx85, cx86, cx87, cx88, cx89, cx90, cx91, cx92, cx93, cx94, cx95, cx96, cx97, cx98, cx99, cx100, cx101, cx102, cx103, cx104, cx105, cx106, cx107, cx108, cx109, cx110, cx111, cx112, cx113, cx114, cx115, cx116, cx117, cx118, cx119, cx120, cx121, cx122, cx123, cx124, cx125, cx126, cx127, cx128, cx129, cx130], []⟩ W := by
  obtain ⟨hT, hl, HN, L1, L2, L3, L4, e1, e2, e3, e4, s1, s2, s3, s4, hn10, HU, HD, HS, HM, b3, sz3, box, resF, bR⟩ := hk
  obtain ⟨cm, ct, ⟨nn, D, hnn, hown, hmap, hat⟩, low, few, opn⟩ := hI
  have hnb : (n1 : Int) ≤ 10 := by omega
  have hxn := memM_lt hM hx
  obtain ⟨b, o, u, rfl, hb2, Hz, hcz⟩ := Sees.int (k := x) (hl.below (b3.trans (low.mono b3.size))) (by rw [HN.out]; exact hxn)
  obtain ⟨hu0, hu1⟩ := HU.out u (List.mem_of_getElem? Hz.out)
  have hatI : atI l x = u := by unfold atI; rw [Hz.out]; rfl
  obtain ⟨t0, t1, t2, t3, t4⟩ := box _ low
  have hkey : keyOf Tryz.prog 3 (.int .i64 u) = some (.int .i64 u) := Maps.keyOf_int_mk Tryz.underlying3 (by simp [Lit.wf, IntKind.min, IntKind.max, IntKind.signed, IntKind.bits]; omega)
  have HatI := Lib.hid hatI
  have Hat := Lib.hid hat
  have Hm := Lib.hid hM
  have Few := Lib.hid few
  clear hatI hat hM few Hz
  conv => arg 4; whnf
  obtain ⟨es9, ck9, hh9, _⟩ := id hown
  have hmap9 : ∃ o : Obj, W.heap[gp]? = some o ∧ o.isCells = false := ⟨_, hh9, rfl⟩
  have hown9 : ∃ o : Obj, W.heap[gp]? = some o ∧ ∃ a b, o = .map a b := ⟨_, hh9, _, _, rfl⟩
  clear hh9
  by_cases hu : u = 0
  · subst hu
    have hrun7 : ∀ q, (Instr.lookup 128 (.map (some gp)) (.int .i64 0) false).run Tryz.prog (W.drewN q) = .ok (.int .i64 0) (W.drewN q) := fun q => by
      obtain ⟨c7, hrun7, hat7, hwc7⟩ := World.ownsMap.lookup_int (w := W.drewN q) (t := 128) hown (Maps.int_keyed Tryz.underlying3) Tryz.underlying128 Tryz.underlying3 (Tryz.zeroValue3 _) hkey
      have hc7 : c7 = 0 := by
        have h7 := Hat.out 0
        rw [hat7] at h7
        simpa [cntD] using h7
      subst hc7
      exact hrun7
    have hKb : decide ((K : Int) < 0) = false := by simp; omega
    have hd : ∀ q, Below W3.heap.size W3 (W.drewN q) := fun q => below_drewN low q
    have hBI : ∀ q, BI W3 l gm gt gp K Ds (pre ++ [x]) (W.drewN q) := fun q => ⟨cm, ct, ⟨nn, D, by simp; omega, hown, hmap, fun v => by
      rw [Hat.out v]; unfold cntD; rw [cntU_snoc, HatI.out]
      by_cases hv : v = 0
      · rw [if_pos hv, if_pos hv]
      · rw [if_neg hv, if_neg hv, if_neg (fun e => hv e.symm)]; simp⟩, hd q, fun v hv => by
        rw [cntU_snoc, HatI.out, if_neg (fun e => hv e.symm)]; exact Few.out v hv, ⟨opn.1, opn.2⟩⟩
    have HBI := Lib.hid hBI
    clear hBI
    gi_wp2
    (refine wpIn_region_quiet_litR (by kernel_rfl) (by kernel_rfl) (by kernel_rfl) ?_; (repeat (gi_big_quiet_step (fail))); refine wpQuietIn_nil ?_; intro _ hw'; obtain ⟨nq, hw''⟩ := hw'; subst hw'')
    gi_wp2
    exact hN _ _ ⟨Nat.le_refl _, fun _ _ _ h _ => h⟩ (below_drewN (Below.refl _ W) _) (HBI.out _)
  · have hub : (u != 0) = true := by simpa using hu
    obtain ⟨c0, hc0⟩ : ∃ c0 : Nat, cntU l pre u = c0 := ⟨_, rfl⟩
    have hcl : c0 ≤ 4095 := by have := cntU_len l pre u; omega
    have hcl' : (c0 : Int) ≤ 4095 := by omega
    obtain ⟨c7, hrun7, hat7, hwc7⟩ := World.ownsMap.lookup_int (w := W.drew) (t := 128) hown (Maps.int_keyed Tryz.underlying3) Tryz.underlying128 Tryz.underlying3 (Tryz.zeroValue3 _) hkey
    have hc7 : c7 = (c0 : Int) := by
      have h7 := Hat.out u
      rw [hat7] at h7
      unfold cntD at h7
      rw [if_neg hu, hc0] at h7
      simpa using h7
    subst hc7
    obtain ⟨w1, hrunU, hown1, hgrow1⟩ := World.ownsMap.update (w := W.drew) (t := 128) (e := 3) (val := .int .i64 ((c0 : Int) + 1)) hown (Maps.int_keyed Tryz.underlying3) Tryz.underlying128 (by unfold maxLen; omega) hkey (plainElem_int Tryz.underlying3 (by simp [Lit.wf, IntKind.min, IntKind.max, IntKind.signed, IntKind.bits]; omega))
    have hzW : W3.heap.size ≤ W.drew.heap.size := low.size
    have low1 : Below W3.heap.size W3 w1 := low.drew.grown hgrow1 hzW (fun k e => by cases e; exact hgp)
    have hBW : Below w.heap.size W w1 := ((Below.refl w.heap.size W).drew).grown hgrow1 (Nat.le_trans b3.size hzW) (fun k e => by cases e; have := b3.size; omega)
    have cm1 : w1.cell? ⟨gm, 0, none⟩ = some (.int .i64 K) := cell_kept (W := W.drew) cm hgrow1 (fun r e => by cases e; exact hmap9)
    have ct1 : w1.cell? ⟨gt, 0, none⟩ = some (.map (some gp)) := cell_kept (W := W.drew) ct hgrow1 (fun r e => by cases e; exact hmap9)
    have hcz1 := (hBW.cell (p := ⟨b, o + x, none⟩) hb2).trans hcz
    obtain ⟨_, _, _, _, t41⟩ := box _ low1
    have r0 := fun q => (resF _ (below_drewN low1 q)).1
    have r1 := fun q => (resF _ (below_drewN low1 q)).2
    have opn1 : OpenM w1 W3.heap.size Ds := ⟨opn.1, fun E hE => ⟨(opn.2 E hE).1, by
      have h1 := (opn.2 E hE).2
      refine (hgrow1.block E (Array.getElem?_eq_some_iff.1 h1).1 (fun e => ?_)).trans h1
      cases e
      obtain ⟨o9, h9, _, _, rfl⟩ := hown9
      rw [h1] at h9
      cases h9⟩⟩
    have hrun8 : ∀ q, (Instr.lookup 128 (.map (some gp)) (.int .i64 u) false).run Tryz.prog (w1.drewN q) = .ok (.int .i64 ((c0 : Int) + 1)) (w1.drewN q) := fun q => by
      obtain ⟨c8, hrun8, hat8, hwc8⟩ := World.ownsMap.lookup_int (w := w1.drewN q) (t := 128) hown1 (Maps.int_keyed Tryz.underlying3) Tryz.underlying128 Tryz.underlying3 (Tryz.zeroValue3 _) hkey
      have hc8 : c8 = (c0 : Int) + 1 := by
        rw [Maps.atKey_put_same hmap (by first | trivial | simp [WideAt.IsKeyLit])] at hat8
        simpa using hat8.symm
      subst hc8
      exact hrun8
    have hwr : IntKind.i64.wrap ((c0 : Int) + 1) = (c0 : Int) + 1 := by rw [IntKind.wrap_i64]; omega
    have Hc0 := Lib.hid hc0
    have Hopn := Lib.hid opn1
    have Hhown := Lib.hid hown1
    have Hhmap := Lib.hid hmap
    have Hgrow := Lib.hid hgrow1
    clear hc0 hat7 hwc7 opn1 hown1 hmap hgrow1 hown hmap9 hown9
    have hnext : ∀ v : Int, v ≠ 0 → cntU l (pre ++ [x]) v = if v = u then c0 + 1 else cntU l pre v := fun v hv => by
      rw [cntU_snoc, HatI.out]
      by_cases e : v = u
      · rw [if_pos e.symm, if_pos e, e, Hc0.out]
      · rw [if_neg (fun h => e h.symm), if_neg e]; rfl
    have Hnext := Lib.hid hnext
    clear hnext
    have hkeep0 : KeepsFrom B W.drew w1 := KeepsFrom.of_grownBy Hgrow.out (fun j e => by cases e; exact hB)
    have hkeep : KeepsFrom B W w1 := ⟨hkeep0.size, hkeep0.same⟩
    have hbad : K < (c0 : Int) + 1 → ∃ u : Int, u ≠ 0 ∧ K < (cntU l (pre ++ [x]) u : Int) := fun hgt => ⟨u, hu, by rw [Hnext.out u hu, if_pos rfl]; omega⟩
    have hBI : ¬ K < (c0 : Int) + 1 → ∀ q, BI W3 l gm gt gp K Ds (pre ++ [x]) (w1.drewN q) := fun hgt q => ⟨cm1, ct1, ⟨nn + 1, _, by simp; omega, Hhown.out, (by obtain ⟨es, rfl⟩ := Hhmap.out; exact ⟨_, rfl⟩), fun v => by
      by_cases hv : v = u
      · subst hv
        rw [Maps.atKey_put_same Hhmap.out (by first | trivial | simp [WideAt.IsKeyLit])]
        unfold cntD
        rw [if_neg hu, Hnext.out _ hu, if_pos rfl]
        simp
      · rw [Maps.atKey_put_other (by intro e; apply hv; simpa using e), Hat.out v]
        unfold cntD
        by_cases h0 : v = 0
        · rw [if_pos h0, if_pos h0]
        · rw [if_neg h0, if_neg h0, Hnext.out _ h0, if_neg hv]⟩, below_drewN low1 q, fun v hv => by
          rw [Hnext.out _ hv]
          by_cases e : v = u
          · rw [if_pos e]; omega
          · rw [if_neg e]; exact Few.out v hv, ⟨Hopn.out.1, Hopn.out.2⟩⟩
    have HBI := Lib.hid hBI
    have Hbad := Lib.hid hbad
    have hlowr := fun q => (hBW.trans ((below_drewN (Below.refl w.heap.size w1) q).mono (Nat.le_refl _)))
    clear hBI hbad
    have hblk : ∀ q, Blk ((w1.drewN q).setCell ⟨w.heap.size + 2, 0, none⟩ (.bool true)) (w.heap.size + 2) 4 #[.bool true] := fun q => by
      have := (bR.on (below_drewN low1 q)).put 0 (.bool true)
      simpa using this
    have Hblk := Lib.hid hblk
    have hks : ∀ q, KeepsFrom B W ((w1.drewN q).setCell ⟨w.heap.size + 2, 0, none⟩ (.bool true)) := fun q => KeepsFrom.trans (Y := w1.drewN q) ⟨hkeep.size, hkeep.same⟩ ((KeepsOthers.setCell _ _ _).from B)
    clear hblk
    gi_wp2
    gi_region
    all_goals (
      by_cases hgt : K < (c0 : Int) + 1
      · have hgtb : decide (K < (c0 : Int) + 1) = true := by simpa using hgt
        gi_wp2
        (refine wpIn_region_quiet_litR (by kernel_rfl) (by kernel_rfl) (by kernel_rfl) ?_; (repeat (gi_big_quiet_step (fail))); refine wpQuietIn_nil ?_; intro _ hw'; obtain ⟨nq, hw''⟩ := hw'; subst hw'')
        gi_wp2
        exact hR _ _ (hks _) ⟨rfl, ((b3.trans (low.mono b3.size)).trans (hlowr _)).setCell (p := ⟨w.heap.size + 2, 0, none⟩) (by simp) _,
          Hblk.out _, Hbad.out hgt, ⟨Hopn.out.1, fun E hE => ⟨(Hopn.out.2 E hE).1, (KeepsOthers.setCell _ _ _).same E _ (Hopn.out.2 E hE).2 rfl⟩⟩⟩
      · have hgtb : decide (K < (c0 : Int) + 1) = false := by simpa using hgt
        gi_wp2
        (refine wpIn_region_quiet_litR (by kernel_rfl) (by kernel_rfl) (by kernel_rfl) ?_; (repeat (gi_big_quiet_step (fail))); refine wpQuietIn_nil ?_; intro _ hw'; obtain ⟨nq, hw''⟩ := hw'; subst hw'')
        gi_wp2
        exact hN _ _ ⟨hkeep.size, hkeep.same⟩ (hlowr _) (HBI.out hgt _))
end Go.Proofs.YtcnofhlgiffkjaaGreatDoor
/- The walk of broken: the loop over the members. (genbrk.py) -/
namespace Go.Proofs.YtcnofhlgiffkjaaGreatDoor
open Go.RowKit
set_option linter.unusedVariables false
set_option linter.unusedSimpArgs false
attribute [local go_sem] Oper.semAt_some

theorem memM_brk {l : List Int} {K : Int} {M : Nat} {ks : List Nat} (hK : 1 ≤ K) (hp : ks <+: memM M) (h : ∃ u : Int, u ≠ 0 ∧ K < (cntU l ks u : Int)) : brkM l (K, M) = true := by
  obtain ⟨u, hu, hk⟩ := h
  have h2 := cntU_pre l hp u
  obtain ⟨x, hx⟩ : ∃ x, x ∈ (memM M).filter fun k => decide (atI l k = u) := by
    apply List.exists_mem_of_length_pos
    unfold cntU at h2 hk
    omega
  obtain ⟨h3, h4⟩ := List.mem_filter.1 hx
  refine List.any_eq_true.2 ⟨x, h3, ?_⟩
  have h5 : atI l x = u := by simpa using h4
  rw [h5]
  simp [hu]
  omega
theorem memM_nobrk {l : List Int} {K : Int} {M : Nat} (h : ∀ u : Int, u ≠ 0 → (cntU l (memM M) u : Int) ≤ K) : brkM l (K, M) = false := by
  refine Bool.eq_false_iff.2 fun hb => ?_
  obtain ⟨x, h3, h4⟩ := List.any_eq_true.1 hb
  simp only [Bool.and_eq_true, decide_eq_true_eq] at h4
  have := h _ h4.1
  omega
theorem OpenM.owned {w w' : World} {B : Nat} {Ds : List Nat} {row : Option Nat} (h : OpenM w B Ds) (hg : w.grownBy w' row) (hr : ∀ r, row = some r → ∀ D ∈ Ds, D ≠ r) : OpenM w' B Ds :=
  ⟨h.1, fun D hD => ⟨(h.2 D hD).1, (hg.block D (Array.getElem?_eq_some_iff.1 (h.2 D hD).2).1 (fun e => hr D e.symm D hD rfl)).trans (h.2 D hD).2⟩⟩
theorem OpenM.lt {w : World} {B : Nat} {Ds : List Nat} (h : OpenM w B Ds) {D : Nat} (hD : D ∈ Ds) : D < w.heap.size := (Array.getElem?_eq_some_iff.1 (h.2 D hD).2).1
theorem BI.own_from {W3 : World} {l : List Int} {gm gt gp : Nat} {K : Int} {Ds : List Nat} {M : Nat} {B : Nat} (hB : gp < B) (hW : W3.heap.size ≤ B) (hDs : ∀ D ∈ Ds, D < B) :
    OwnFrom B (fun (pre : List (Mb M)) W => BI W3 l gm gt gp K Ds (pre.map (·.1)) W) := fun s A B' row hs hg hr =>
  ⟨cell_kept hs.cm hg (fun r e => (hr r e).2), cell_kept hs.ct hg (fun r e => (hr r e).2), by
    obtain ⟨nn, D, h1, h2, h3, h4⟩ := hs.own
    exact ⟨nn, D, h1, h2.kept hg (fun e => by have := (hr _ e.symm).1; omega), h3, h4⟩, hs.low.grown hg hs.low.size (fun k e => Nat.le_trans hW (hr k e).1), hs.few, hs.opn.owned hg (fun r e D hD he => by have := (hr r e).1; have := hDs D hD; omega)⟩
theorem BX.own_from {w : World} {l : List Int} {K : Int} {Ds : List Nat} {M : Nat} {B B0 : Nat} {c : Code} (hw : w.heap.size + 2 < B) (hDs : ∀ D ∈ Ds, D < B) :
    OwnFrom B (fun (pre : List (Mb M)) W => BX w l K Ds B0 c (pre.map (·.1)) W) := fun s A B' row hs hg hr =>
  ⟨hs.ret, hs.low.grown hg hs.low.size (fun k e => by have := (hr k e).1; omega), (hg.block _ (Array.getElem?_eq_some_iff.1 (show A.heap[w.heap.size + 2]? = some _ from hs.blk)).1 (fun e => by have := (hr _ e.symm).1; omega)).trans hs.blk, hs.bad, hs.opn.owned hg (fun r e D hD he => by have := (hr r e).1; have := hDs D hD; omega)⟩

set_option maxHeartbeats 8000000 in
set_option maxRecDepth 100000 in
theorem brk_rf {w W3 : World} {P : Pr} {l : List Int} {A A1 A2 A3 A4 A5 : Option Addr} {n1 c c1 n2 c2 n3 c3 n4 c4 n5 c5 : Nat} (hk : Bk w W3 P l A A1 A2 A3 A4 A5 n1 c c1 n2 c2 n3 c3 n4 c4 n5 c5) (gm gt gp ga : Nat) (K : Int) (M : Nat) (Ds : List Nat) (hM : M < 2 ^ n1) (hK1 : 1 ≤ K) (hgp : W3.heap.size ≤ gp) (Av : Option Addr) (nv cv : Nat)
    (hnc : nv ≤ cv) (hnv : nv ≤ 64) (hlv : len2 64 M = nv) (hsv : Sees w w.heap.size Av ((dg 64 M).map wv)) (W : World) (hB : gp < W.heap.size) (hga : W.cell? ⟨ga, 0, none⟩ = some (.slice Av nv cv)) (hgl : ga < W.heap.size)
    (hI : BI W3 l gm gt gp K Ds [] W)
    (Q : Exit → Act → World → Prop) (cx5 cx6 cx7 cx8 cx9 cx10 cx11 cx12 cx13 cx14 cx15 cx16 cx17 cx18 cx19 cx20 cx21 cx22 cx23 cx24 cx25 cx26 cx27 cx28 cx29 cx30 cx31 cx32 cx33 cx34 cx35 cx36 cx37 cx38 cx39 cx40 cx41 cx42 cx43 cx44 cx45 cx46 cx47 cx48 cx49 cx50 cx51 cx52 cx53 cx54 cx55 cx56 cx57 cx58 cx59 cx60 cx61 cx62 cx63 cx64 cx65 cx66 cx67 cx68 cx69 cx70 cx71 cx72 cx73 cx74 cx75 cx76 cx77 cx78 cx79 cx80 cx81 cx82 cx83 cx84 cx85 cx86 cx87 cx88 cx89 cx90 cx91 cx92 cx93 cx94 cx95 cx96 cx97 cx98 cx99 cx100 cx101 cx102 cx103 cx104 cx105 cx106 cx107 cx108 cx109 cx110 cx111 cx112 cx113 cx114 cx115 cx116 cx117 cx118 cx119 cx120 cx121 cx122 cx123 cx124 cx125 cx126 cx127 cx128 cx129 cx130 : Value)
    (hN : ∀ D W', W.heap.size ≤ D → brkM l (K, M) = false → Below W3.heap.size W3 W' → OpenM W' W3.heap.size (D :: Ds) → Q .normal ⟨#[.agg #[.slice A1 n1 c1, .slice A2 n2 c2, .slice A3 n3 c3, .slice A4 n4 c4, .slice A5 n5 c5], .slice A n1 c, .pointer (some ⟨w.heap.size, 0, none⟩), .pointer (some ⟨w.heap.size + 1, 0, none⟩), .pointer (some ⟨w.heap.size + 2, 0, none⟩), cx5, cx6, cx7, cx8, cx9, cx10, cx11, .pointer (some ⟨gm, 0, none⟩), .pointer (some ⟨gt, 0, none⟩), cx14, cx15, cx16, cx17, cx18, cx19, cx20, cx21, cx22, cx23, cx24, cx25, cx26, cx27, cx28, cx29, cx30, cx31, cx32, cx33, cx34, cx35, cx36, cx37, cx38, cx39, cx40, cx41, cx42, cx43, cx44, cx45, cx46, cx47, cx48, cx49, cx50, cx51, cx52, cx53, cx54, cx55, cx56, cx57, cx58, cx59, cx60, cx61, cx62, cx63, cx64, cx65, cx66, cx67, cx68, cx69, cx70, cx71, cx72, cx73, cx74, cx75, cx76, cx77, cx78, cx79, cx80, cx81, cx82, cx83, cx84, cx85, cx86, cx87, cx88, cx89, cx90, cx91, cx92, cx93, cx94, cx95, cx96, cx97, cx98, cx99, cx100, cx101, cx102, cx103, cx104, cx105, cx106, .func (.func 96) #[] #[.pointer (some ⟨ga, 0, none⟩)], cx108, cx109, cx110, cx111, cx112, cx113, cx114, cx115, cx116, cx117, cx118, cx119, cx120, cx121, cx122, cx123, cx124, cx125, cx126, cx127, cx128, cx129, cx130], (D :: Ds).map markOf⟩ W')
    (hR : ∀ a D W', a.tmps.getD 4 undef = .pointer (some ⟨w.heap.size + 2, 0, none⟩) → a.defers = (D :: Ds).map markOf → brkM l (K, M) = true → Below w.heap.size w W' → Blk W' (w.heap.size + 2) 4 #[.bool true] → OpenM W' W3.heap.size (D :: Ds) → Q .ret a W') :
    brkRf.wpIn Fence.wide 5 Tryz.prog Q ⟨#[.agg #[.slice A1 n1 c1, .slice A2 n2 c2, .slice A3 n3 c3, .slice A4 n4 c4, .slice A5 n5 c5], .slice A n1 c, .pointer (some ⟨w.heap.size, 0, none⟩), .pointer (some ⟨w.heap.size + 1, 0, none⟩), .pointer (some ⟨w.heap.size + 2, 0, none⟩), cx5, cx6, cx7, cx8, cx9, cx10, cx11, .pointer (some ⟨gm, 0, none⟩), .pointer (some ⟨gt, 0, none⟩), cx14, cx15, cx16, cx17, cx18, cx19, cx20, cx21, cx22, cx23, cx24, cx25, cx26, cx27, cx28, cx29, cx30, cx31, cx32, cx33, cx34, cx35, cx36, cx37, cx38, cx39, cx40, cx41, cx42, cx43, cx44, cx45, cx46, cx47, cx48, cx49, cx50, cx51, cx52, cx53, cx54, cx55, cx56, cx57, cx58, cx59, cx60, cx61, cx62, cx63, cx64, cx65, cx66, cx67, cx68, cx69, cx70, cx71, cx72, cx73, cx74, cx75, cx76, cx77, cx78, cx79, cx80, cx81, cx82, cx83, cx84, cx85, cx86, cx87, cx88, cx89, cx90, cx91, cx92, cx93, cx94, cx95, cx96, cx97, cx98, cx99, cx100, cx101, cx102, cx103, cx104, cx105, cx106, .func (.func 96) #[] #[.pointer (some ⟨ga, 0, none⟩)], cx108, cx109, cx110, cx111, cx112, cx113, cx114, cx115, cx116, cx117, cx118, cx119, cx120, cx121, cx122, cx123, cx124, cx125, cx126, cx127, cx128, cx129, cx130], Ds.map markOf⟩ W := by
  have hk' := hk
  obtain ⟨hT, hl, HN, L1, L2, L3, L4, e1, e2, e3, e4, s1, s2, s3, s4, hn10, HU, HD, HS, HM, b3, sz3, box, resF, bR⟩ := hk'
  have hro : (Fence.wide).round = none := rfl
  have h1 : 1 ≤ 5 := by omega
  have hg0 : 0 < w.heap.size := World.block_lt_of_cell? w _ (hT 0 (by omega))
  have hbW := b3.trans (hI.low.mono b3.size)
  have hW3 := hI.low.size
  have hDs : ∀ D ∈ Ds, D < W.heap.size := fun D hD => hI.opn.lt hD
  refine wpIn_rangeFunc_ownG (assign := (match brkRf with | .rangeFunc _ _ a _ => a | c => c)) (body := brkRound) hro h1 (gf := 96) (lb := #[.pointer (some ⟨ga, 0, none⟩)]) rfl trivial (enters_of Tryz.func96 (by kernel_rfl) rfl)
    (all_stopsM ga w.heap.size nv cv M Av 4 (by omega) hnc hnv hlv hg0 W hgl (by omega) hga (hsv.below hbW) (hT.below hbW hg0)) belowK_t (belowK_b (by omega)) (Below.refl _ _) (fun _ => rfl)
    (fun (pre : List (Mb M)) W' => BI W3 l gm gt gp K Ds (pre.map (·.1)) W') (fun c pre W' => BX w l K Ds W3.heap.size c (pre.map (·.1)) W')
    (BI.own_from hB hW3 hDs) (fun c => BX.own_from (by omega) hDs) hI
    (fun x : Mb M => ⟨#[.agg #[.slice A1 n1 c1, .slice A2 n2 c2, .slice A3 n3 c3, .slice A4 n4 c4, .slice A5 n5 c5], .slice A n1 c, .pointer (some ⟨w.heap.size, 0, none⟩), .pointer (some ⟨w.heap.size + 1, 0, none⟩), .pointer (some ⟨w.heap.size + 2, 0, none⟩), cx5, cx6, cx7, cx8, cx9, cx10, cx11, .pointer (some ⟨gm, 0, none⟩), .pointer (some ⟨gt, 0, none⟩), .int .i64 ((x.1 : Nat) : Int), cx15, cx16, cx17, cx18, cx19, cx20, cx21, cx22, cx23, cx24, cx25, cx26, cx27, cx28, cx29, cx30, cx31, cx32, cx33, cx34, cx35, cx36, cx37, cx38, cx39, cx40, cx41, cx42, cx43, cx44, cx45, cx46, cx47, cx48, cx49, cx50, cx51, cx52, cx53, cx54, cx55, cx56, cx57, cx58, cx59, cx60, cx61, cx62, cx63, cx64, cx65, cx66, cx67, cx68, cx69, cx70, cx71, cx72, cx73, cx74, cx75, cx76, cx77, cx78, cx79, cx80, cx81, cx82, cx83, cx84, cx85, cx86, cx87, cx88, cx89, cx90, cx91, cx92, cx93, cx94, cx95, cx96, cx97, cx98, cx99, cx100, cx101, cx102, cx103, cx104, cx105, cx106, .func (.func 96) #[] #[.pointer (some ⟨ga, 0, none⟩)], .int .i64 ((x.1 : Nat) : Int), cx109, cx110, cx111, cx112, cx113, cx114, cx115, cx116, cx117, cx118, cx119, cx120, cx121, cx122, cx123, cx124, cx125, cx126, cx127, cx128, cx129, cx130], []⟩) ?assign ?body ?done ?stop
  case assign =>
    intro lno x W' K' hK'
    conv => arg 4; whnf
    gi_wp2
    exact hK'
  case body =>
    rintro lno pre x W' hI' hlt
    refine brk_body hk gm gt gp K M Ds hM hK1 hgp lno W.heap.size hB (pre.map (·.1)) x.1 W' x.2 (by rw [List.length_map]; exact hlt) hI' _ ?_ ?_ _ _ _ _ _ _ _ undef undef undef _ _ _ _ _ _ _ _ _ _ _ _ _ _ _ _ _ _ _ _ _ _ _ _ _ _ _ _ _ _ _ _ _ _ _ _ _ _ _ _ _ _ _ _ _ _ _ _ _ _ _ _ _ _ _ _ _ _ _ _ _ _ _ _ _ _ _ _ _ _ _ _ _ _ _ _ _ _ _ _ _ _ _ _ _ _ _ _ _ _ _ _ _ _ _ _ _ _ _ _ _ _ _ _ _ _ _ _ _ _ _ _ _ _ _ _
    · intro a W2 h1 h2 h3
      exact ⟨h1, h2, by show BI W3 l gm gt gp K Ds ((pre ++ [x]).map (·.1)) W2; rw [map_val_snoc]; exact h3⟩
    · intro a W2 h1 h2
      exact ⟨h1, by show BX w l K Ds W3.heap.size .ret ((pre ++ [x]).map (·.1)) W2; rw [map_val_snoc]; exact h2⟩
  case done =>
    rintro D ys W' hD hys hI' hK'
    have hn : D ∉ Ds := fun h => by have := hDs D h; omega
    have hI' : BI W3 l gm gt gp K Ds (ys.map (·.1)) W' := hI'
    have hys : ys.map (·.1) = memM M := hys
    rw [hys] at hI'
    exact hN D W' hD (memM_nobrk hI'.few) hI'.low ⟨List.nodup_cons.2 ⟨hn, hI'.opn.1⟩, fun E hE => by
      rcases List.mem_cons.1 hE with rfl | hE
      · exact ⟨by omega, hK'⟩
      · exact hI'.opn.2 E hE⟩
  case stop =>
    rintro D c' pre W' hD hpre hX hK'
    have hn : D ∉ Ds := fun h => by have := hDs D h; omega
    obtain ⟨rfl, hlow, hblk, hbad, hopn⟩ := hX
    gi_wp2
    exact hR _ D W' rfl rfl (memM_brk hK1 hpre hbad) hlow hblk ⟨List.nodup_cons.2 ⟨hn, hopn.1⟩, fun E hE => by
      rcases List.mem_cons.1 hE with rfl | hE
      · exact ⟨by omega, hK'⟩
      · exact hopn.2 E hE⟩
end Go.Proofs.YtcnofhlgiffkjaaGreatDoor
/- The walk of broken: the fourth loop. (genbrk4.py) -/
namespace Go.Proofs.YtcnofhlgiffkjaaGreatDoor
open Go.RowKit
set_option linter.unusedVariables false
set_option linter.unusedSimpArgs false
attribute [local go_sem] Oper.semAt_some

structure LR (W3 : World) (P : Pr) (l : List Int) (n4 k : Nat) (Ds : List Nat) (W : World) : Prop where
  le : k ≤ n4
  no : Hid ((P.mst.take k).any (brkM l) = false)
  low : Below W3.heap.size W3 W
  opn : OpenM W W3.heap.size Ds

theorem bi_start {W3 wr : World} {l : List Int} {K : Int} {Ds : List Nat} {v X : Value} {t tm ts : TypeId} (low : Below W3.heap.size W3 wr) (ho : OpenM wr W3.heap.size Ds) (hK : 1 ≤ K) :
    BI W3 l wr.heap.size (wr.heap.size + 1 + 1) (wr.heap.size + 1) K Ds [] ((((wr.alloc (.cells #[.int .i64 K, v] t)).alloc (.map #[] 0)).alloc (.cells #[.map (some (wr.heap.size + 1))] tm)).alloc (.cells #[X] ts)) := by
  have hz := low.size
  refine ⟨((((Blk.new wr t #[.int .i64 K, v]).alloc _).alloc _).alloc _ |>.cell 0).trans rfl, ?_, ?_, ?_, ?_, ?_⟩
  · have h := ((Blk.new ((wr.alloc (.cells #[.int .i64 K, v] t)).alloc (.map #[] 0)) tm #[.map (some (wr.heap.size + 1))]).alloc (.cells #[X] ts)).cell 0
    rw [World.size_alloc, World.size_alloc] at h
    exact h.trans rfl
  · have h := (World.ownsMap_made (H := Unit) (wr.alloc (.cells #[.int .i64 K, v] t)) Tryz.prog 3 (plainElem (H := Unit) Tryz.prog 3))
    rw [World.size_alloc] at h
    exact ⟨0, .map [], Nat.zero_le _, (h.alloc _).alloc _, ⟨[], rfl⟩, fun u => by simp [cntD, cntU, DataW.atKey]⟩
  · exact (((low.alloc (by omega) _).alloc (by simp; omega) _).alloc (by simp; omega) _).alloc (by simp; omega) _
  · intro u hu
    simp [cntU]
    omega
  · exact (((ho.owned (World.grownBy_alloc _ _ none) (fun r e => by cases e)).owned (World.grownBy_alloc _ _ none) (fun r e => by cases e)).owned (World.grownBy_alloc _ _ none) (fun r e => by cases e)).owned (World.grownBy_alloc _ _ none) (fun r e => by cases e)

set_option maxHeartbeats 8000000 in
set_option maxRecDepth 100000 in
theorem brk_4 {w W3 : World} {P : Pr} {l : List Int} {A A1 A2 A3 A4 A5 : Option Addr} {n1 c c1 n2 c2 n3 c3 n4 c4 n5 c5 : Nat} (hk : Bk w W3 P l A A1 A2 A3 A4 A5 n1 c c1 n2 c2 n3 c3 n4 c4 n5 c5) (W : World) (hW : Below W3.heap.size W3 W)
    (Q : Exit → Act → World → Prop)
    (hN : P.mst.any (brkM l) = false → ∀ (a : Act) (Ds : List Nat) (W' : World), Below W3.heap.size W3 W' → OpenM W' W3.heap.size Ds → (∃ u5 u6 u7 u8 u9 u10 u11 u12 u13 u14 u15 u16 u17 u18 u19 u20 u21 u22 u23 u24 u25 u26 u27 u28 u29 u30 u31 u32 u33 u34 u35 u36 u37 u38 u39 u40 u41 u42 u43 u44 u45 u46 u47 u48 u49 u50 u51 u52 u53 u54 u55 u56 u57 u58 u59 u60 u61 u62 u63 u64 u65 u66 u67 u68 u69 u70 u71 u72 u73 u74 u75 u76 u77 u78 u79 u80 u81 u82 u83 u84 u85 u86 u87 u88 u89 u90 u91 u92 u93 u94 u95 u96 u97 u98 u99 u100 u101 u102 u103 u104 u105 u106 u107 u108 u109 u110 u111 u112 u113 u114 u115 u116 u117 u118 u119 u120 u121 u122 u123 u124 u125 u126 u127 u128 u129 u130, a = ⟨#[.agg #[.slice A1 n1 c1, .slice A2 n2 c2, .slice A3 n3 c3, .slice A4 n4 c4, .slice A5 n5 c5], .slice A n1 c, .pointer (some ⟨w.heap.size, 0, none⟩), .pointer (some ⟨w.heap.size + 1, 0, none⟩), .pointer (some ⟨w.heap.size + 2, 0, none⟩), u5, u6, u7, u8, u9, u10, u11, u12, u13, u14, u15, u16, u17, u18, u19, u20, u21, u22, u23, u24, u25, u26, u27, u28, u29, u30, u31, u32, u33, u34, u35, u36, u37, u38, u39, u40, u41, u42, u43, u44, u45, u46, u47, u48, u49, u50, u51, u52, u53, u54, u55, u56, u57, u58, u59, u60, u61, u62, u63, u64, u65, u66, u67, u68, u69, u70, u71, u72, u73, u74, u75, u76, u77, u78, u79, u80, u81, u82, u83, u84, u85, u86, u87, u88, u89, u90, u91, u92, u93, u94, u95, u96, u97, u98, u99, u100, u101, u102, u103, u104, u105, u106, u107, u108, u109, u110, u111, u112, u113, u114, u115, u116, u117, u118, u119, u120, u121, u122, u123, u124, u125, u126, u127, u128, u129, u130], Ds.map markOf⟩) → Q .normal a W')
    (hR : ∀ (a : Act) (Ds : List Nat) (W' : World), a.tmps.getD 4 undef = .pointer (some ⟨w.heap.size + 2, 0, none⟩) → a.defers = Ds.map markOf → P.mst.any (brkM l) = true → Below w.heap.size w W' → Blk W' (w.heap.size + 2) 4 #[.bool true] → OpenM W' W3.heap.size Ds → Q .ret a W')
    (cx5 cx6 cx7 cx8 cx9 cx10 cx11 cx12 cx13 cx14 cx15 cx16 cx17 cx18 cx19 cx20 cx21 cx22 cx23 cx24 cx25 cx26 cx27 cx28 cx29 cx30 cx31 cx32 cx33 cx34 cx35 cx36 cx37 cx38 cx39 cx40 cx41 cx42 cx43 cx44 cx45 cx46 cx47 cx48 cx49 cx50 cx51 cx52 cx53 cx54 cx55 cx56 cx57 cx58 cx59 cx60 cx61 cx62 cx63 cx64 cx65 cx66 cx67 cx68 cx69 cx70 cx71 cx72 cx73 cx74 cx75 cx76 cx77 cx78 cx79 cx80 cx81 cx82 cx83 cx84 cx85 cx86 cx87 cx88 cx89 cx90 cx91 cx92 cx93 cx94 cx95 cx96 cx97 cx98 cx99 cx100 cx101 cx102 cx103 cx104 cx105 cx106 cx107 cx108 cx109 cx110 cx111 cx112 cx113 cx114 cx115 cx116 cx117 cx118 cx119 cx120 cx121 cx122 cx123 cx124 cx125 cx126 cx127 cx128 cx129 cx130 : Value) :
    (brkPart 4).wpIn Fence.wide 5 Tryz.prog Q ⟨#[.agg #[.slice A1 n1 c1, .slice A2 n2 c2, .slice A3 n3 c3, .slice A4 n4 c4, .slice A5 n5 c5], .slice A n1 c, .pointer (some ⟨w.heap.size, 0, none⟩), .pointer (some ⟨w.heap.size + 1, 0, none⟩), .pointer (some ⟨w.heap.size + 2, 0, none⟩), cx5, cx6, cx7, cx8, cx9, cx10, cx11, cx12, cx13, cx14, cx15, cx16, cx17, cx18, cx19, cx20, cx21, cx22, cx23, cx24, cx25, cx26, cx27, cx28, cx29, cx30, cx31, cx32, cx33, cx34, cx35, cx36, cx37, cx38, cx39, cx40, cx41, cx42, cx43, cx44, cx45, cx46, cx47, cx48, cx49, cx50, cx51, cx52, cx53, cx54, cx55, cx56, cx57, cx58, cx59, cx60, cx61, cx62, cx63, cx64, cx65, cx66, cx67, cx68, cx69, cx70, cx71, cx72, cx73, cx74, cx75, cx76, cx77, cx78, cx79, cx80, cx81, cx82, cx83, cx84, cx85, cx86, cx87, cx88, cx89, cx90, cx91, cx92, cx93, cx94, cx95, cx96, cx97, cx98, cx99, cx100, cx101, cx102, cx103, cx104, cx105, cx106, cx107, cx108, cx109, cx110, cx111, cx112, cx113, cx114, cx115, cx116, cx117, cx118, cx119, cx120, cx121, cx122, cx123, cx124, cx125, cx126, cx127, cx128, cx129, cx130], []⟩ W := by
  obtain ⟨hT, hl, HN, L1, L2, L3, L4, e1, e2, e3, e4, s1, s2, s3, s4, hn10, HU, HD, HS, HM, b3, sz3, box, resF, bR⟩ := id hk
  have hnb : (n1 : Int) ≤ 10 := by omega
  have Hn := Lib.hid hN
  have Hr := Lib.hid hR
  clear hN hR
  conv => arg 4; whnf
  obtain ⟨t0, t1, t2, t3, t4⟩ := box _ hW
  gi_wp2
  refine wpIn_loop (fun a W' => ∃ (k : Nat) (Ds : List Nat) (u5 u6 u7 u8 u9 u10 u11 u12 u13 u14 u15 u16 u17 u18 u19 u20 u21 u22 u23 u24 u25 u26 u27 u28 u29 u30 u31 u32 u33 u34 u35 u36 u37 u38 u39 u40 u41 u42 u43 u44 u45 u46 u47 u48 u49 u50 u51 u52 u53 u54 u55 u56 u57 u58 u59 u60 u61 u62 u63 u64 u65 u66 u67 u68 u69 u70 u71 u72 u73 u74 u75 u76 u77 u78 u79 u80 u81 u82 u83 u84 u85 u86 u87 u88 u89 u90 u91 u92 u93 u94 u95 u96 u97 u101 u102 u103 u104 u105 u106 u107 u108 u109 u110 u111 u112 u113 u114 u115 u116 u117 u118 u119 u120 u121 u122 u123 u124 u125 u126 u127 u128 u129 u130 : Value), LR W3 P l n4 k Ds W' ∧ a = ⟨#[.agg #[.slice A1 n1 c1, .slice A2 n2 c2, .slice A3 n3 c3, .slice A4 n4 c4, .slice A5 n5 c5], .slice A n1 c, .pointer (some ⟨w.heap.size, 0, none⟩), .pointer (some ⟨w.heap.size + 1, 0, none⟩), .pointer (some ⟨w.heap.size + 2, 0, none⟩), u5, u6, u7, u8, u9, u10, u11, u12, u13, u14, u15, u16, u17, u18, u19, u20, u21, u22, u23, u24, u25, u26, u27, u28, u29, u30, u31, u32, u33, u34, u35, u36, u37, u38, u39, u40, u41, u42, u43, u44, u45, u46, u47, u48, u49, u50, u51, u52, u53, u54, u55, u56, u57, u58, u59, u60, u61, u62, u63, u64, u65, u66, u67, u68, u69, u70, u71, u72, u73, u74, u75, u76, u77, u78, u79, u80, u81, u82, u83, u84, u85, u86, u87, u88, u89, u90, u91, u92, u93, u94, u95, u96, u97, .slice A4 n4 c4, .int .i64 (n4 : Int), .int .i64 (k : Int), u101, u102, u103, u104, u105, u106, u107, u108, u109, u110, u111, u112, u113, u114, u115, u116, u117, u118, u119, u120, u121, u122, u123, u124, u125, u126, u127, u128, u129, u130], Ds.map markOf⟩) (fun a _ => n4 - (intOf (a.tmps.getD 100 undef)).toNat) ?start ?round
  case start => exact ⟨0, [], _, _, _, _, _, _, _, _, _, _, _, _, _, _, _, _, _, _, _, _, _, _, _, _, _, _, _, _, _, _, _, _, _, _, _, _, _, _, _, _, _, _, _, _, _, _, _, _, _, _, _, _, _, _, _, _, _, _, _, _, _, _, _, _, _, _, _, _, _, _, _, _, _, _, _, _, _, _, _, _, _, _, _, _, _, _, _, _, _, _, _, _, _, _, _, _, _, _, _, _, _, _, _, _, _, _, _, _, _, _, _, _, _, _, _, _, _, _, _, _, _, _, _, ⟨Nat.zero_le _, Lib.hid rfl, hW, OpenM.nil _ _⟩, rfl⟩
  case round =>
    intro a9 wr hinv
    obtain ⟨k, hinv⟩ := hinv
    obtain ⟨Ds, hinv⟩ := hinv
    obtain ⟨u5, hinv⟩ := hinv
    obtain ⟨u6, hinv⟩ := hinv
    obtain ⟨u7, hinv⟩ := hinv
    obtain ⟨u8, hinv⟩ := hinv
    obtain ⟨u9, hinv⟩ := hinv
    obtain ⟨u10, hinv⟩ := hinv
    obtain ⟨u11, hinv⟩ := hinv
    obtain ⟨u12, hinv⟩ := hinv
    obtain ⟨u13, hinv⟩ := hinv
    obtain ⟨u14, hinv⟩ := hinv
    obtain ⟨u15, hinv⟩ := hinv
    obtain ⟨u16, hinv⟩ := hinv
    obtain ⟨u17, hinv⟩ := hinv
    obtain ⟨u18, hinv⟩ := hinv
    obtain ⟨u19, hinv⟩ := hinv
    obtain ⟨u20, hinv⟩ := hinv
    obtain ⟨u21, hinv⟩ := hinv
    obtain ⟨u22, hinv⟩ := hinv
    obtain ⟨u23, hinv⟩ := hinv
    obtain ⟨u24, hinv⟩ := hinv
    obtain ⟨u25, hinv⟩ := hinv
    obtain ⟨u26, hinv⟩ := hinv
    obtain ⟨u27, hinv⟩ := hinv
    obtain ⟨u28, hinv⟩ := hinv
    obtain ⟨u29, hinv⟩ := hinv
    obtain ⟨u30, hinv⟩ := hinv
    obtain ⟨u31, hinv⟩ := hinv
    obtain ⟨u32, hinv⟩ := hinv
    obtain ⟨u33, hinv⟩ := hinv
    obtain ⟨u34, hinv⟩ := hinv
    obtain ⟨u35, hinv⟩ := hinv
    obtain ⟨u36, hinv⟩ := hinv
    obtain ⟨u37, hinv⟩ := hinv
    obtain ⟨u38, hinv⟩ := hinv
    obtain ⟨u39, hinv⟩ := hinv
    obtain ⟨u40, hinv⟩ := hinv
    obtain ⟨u41, hinv⟩ := hinv
    obtain ⟨u42, hinv⟩ := hinv
    obtain ⟨u43, hinv⟩ := hinv
    obtain ⟨u44, hinv⟩ := hinv
    obtain ⟨u45, hinv⟩ := hinv
    obtain ⟨u46, hinv⟩ := hinv
    obtain ⟨u47, hinv⟩ := hinv
    obtain ⟨u48, hinv⟩ := hinv
    obtain ⟨u49, hinv⟩ := hinv
    obtain ⟨u50, hinv⟩ := hinv
    obtain ⟨u51, hinv⟩ := hinv
    obtain ⟨u52, hinv⟩ := hinv
    obtain ⟨u53, hinv⟩ := hinv
    obtain ⟨u54, hinv⟩ := hinv
    obtain ⟨u55, hinv⟩ := hinv
    obtain ⟨u56, hinv⟩ := hinv
    obtain ⟨u57, hinv⟩ := hinv
    obtain ⟨u58, hinv⟩ := hinv
    obtain ⟨u59, hinv⟩ := hinv
    obtain ⟨u60, hinv⟩ := hinv
    obtain ⟨u61, hinv⟩ := hinv
    obtain ⟨u62, hinv⟩ := hinv
    obtain ⟨u63, hinv⟩ := hinv
    obtain ⟨u64, hinv⟩ := hinv
    obtain ⟨u65, hinv⟩ := hinv
    obtain ⟨u66, hinv⟩ := hinv
    obtain ⟨u67, hinv⟩ := hinv
    obtain ⟨u68, hinv⟩ := hinv
    obtain ⟨u69, hinv⟩ := hinv
    obtain ⟨u70, hinv⟩ := hinv
    obtain ⟨u71, hinv⟩ := hinv
    obtain ⟨u72, hinv⟩ := hinv
    obtain ⟨u73, hinv⟩ := hinv
    obtain ⟨u74, hinv⟩ := hinv
    obtain ⟨u75, hinv⟩ := hinv
    obtain ⟨u76, hinv⟩ := hinv
    obtain ⟨u77, hinv⟩ := hinv
    obtain ⟨u78, hinv⟩ := hinv
    obtain ⟨u79, hinv⟩ := hinv
    obtain ⟨u80, hinv⟩ := hinv
    obtain ⟨u81, hinv⟩ := hinv
    obtain ⟨u82, hinv⟩ := hinv
    obtain ⟨u83, hinv⟩ := hinv
    obtain ⟨u84, hinv⟩ := hinv
    obtain ⟨u85, hinv⟩ := hinv
    obtain ⟨u86, hinv⟩ := hinv
    obtain ⟨u87, hinv⟩ := hinv
    obtain ⟨u88, hinv⟩ := hinv
    obtain ⟨u89, hinv⟩ := hinv
    obtain ⟨u90, hinv⟩ := hinv
    obtain ⟨u91, hinv⟩ := hinv
    obtain ⟨u92, hinv⟩ := hinv
    obtain ⟨u93, hinv⟩ := hinv
    obtain ⟨u94, hinv⟩ := hinv
    obtain ⟨u95, hinv⟩ := hinv
    obtain ⟨u96, hinv⟩ := hinv
    obtain ⟨u97, hinv⟩ := hinv
    obtain ⟨u101, hinv⟩ := hinv
    obtain ⟨u102, hinv⟩ := hinv
    obtain ⟨u103, hinv⟩ := hinv
    obtain ⟨u104, hinv⟩ := hinv
    obtain ⟨u105, hinv⟩ := hinv
    obtain ⟨u106, hinv⟩ := hinv
    obtain ⟨u107, hinv⟩ := hinv
    obtain ⟨u108, hinv⟩ := hinv
    obtain ⟨u109, hinv⟩ := hinv
    obtain ⟨u110, hinv⟩ := hinv
    obtain ⟨u111, hinv⟩ := hinv
    obtain ⟨u112, hinv⟩ := hinv
    obtain ⟨u113, hinv⟩ := hinv
    obtain ⟨u114, hinv⟩ := hinv
    obtain ⟨u115, hinv⟩ := hinv
    obtain ⟨u116, hinv⟩ := hinv
    obtain ⟨u117, hinv⟩ := hinv
    obtain ⟨u118, hinv⟩ := hinv
    obtain ⟨u119, hinv⟩ := hinv
    obtain ⟨u120, hinv⟩ := hinv
    obtain ⟨u121, hinv⟩ := hinv
    obtain ⟨u122, hinv⟩ := hinv
    obtain ⟨u123, hinv⟩ := hinv
    obtain ⟨u124, hinv⟩ := hinv
    obtain ⟨u125, hinv⟩ := hinv
    obtain ⟨u126, hinv⟩ := hinv
    obtain ⟨u127, hinv⟩ := hinv
    obtain ⟨u128, hinv⟩ := hinv
    obtain ⟨u129, hinv⟩ := hinv
    obtain ⟨u130, hinv⟩ := hinv
    obtain ⟨hinv, ha⟩ := hinv
    subst ha
    obtain ⟨hk4, HP, hB, ho⟩ := hinv
    have bw := b3.trans (hB.mono b3.size)
    have hs4b : (n4 : Int) ≤ 1000000 := by omega
    by_cases hlt : k < n4
    · have hlt' : (k : Int) < (n4 : Int) := by omega
      obtain ⟨⟨K, M⟩, hx⟩ : ∃ x, P.mst[k]? = some x := ⟨_, List.getElem?_eq_getElem (by rw [L4.out]; exact hlt)⟩
      obtain ⟨b, o, X, rfl, hb2, hcK0, hcX0, hS⟩ := e4 k _ hx
      simp only [] at hcK0 hS
      have hcK := (bw.cell (p := ⟨b, o + k * 2, none⟩) hb2).trans hcK0
      have hcX := (bw.cell (p := ⟨b, o + k * 2 + 1, none⟩) hb2).trans hcX0
      clear hcK0 hcX0
      obtain ⟨Av, nv, cv, hXe, hnc, hnv, hlv, hsv, _⟩ := id hS
      obtain rfl : X = .slice Av nv cv := by simpa using hXe
      clear hXe
      obtain ⟨hK1, hK2, hM⟩ := HM.out _ (List.mem_of_getElem? hx)
      simp only [] at hK1 hK2 hM
      have hmem : brkM l (K, M) = true → P.mst.any (brkM l) = true := any_of_get _ hx
      have hnext : (P.mst.take (k + 1)).any (brkM l) = ((P.mst.take k).any (brkM l) || brkM l (K, M)) := any_take_succ _ hx
      rw [HP.out, Bool.false_or] at hnext
      have Hnext := Lib.hid hnext
      have Hmem := Lib.hid hmem
      have Hlv := Lib.hid hlv
      have HsM := Lib.hid hM
      clear hnext hmem hx hlv hM
      obtain ⟨s0, s1, s2, s3, s4⟩ := box _ hB
      have hmm := @run_makeMap Tryz.prog
      gi_wp2
      refine ⟨trivial, (allF_any _ _ _ _ trivial rfl).mono ?_⟩
      rintro e u4 ⟨rfl, rfl⟩
      gi_wp2
      have hz3 := hB.size
      refine brk_rf hk _ _ _ _ K M Ds HsM.out hK1 (by omega) Av nv cv hnc hnv Hlv.out hsv _ (by simp) ?_ (by simp) (bi_start hB ho hK1) _ _ _ _ _ _ _ _ undef undef _ _ _ _ _ _ _ _ _ _ _ _ _ _ _ _ _ _ _ _ _ _ _ _ _ _ _ _ _ _ _ _ _ _ _ _ _ _ _ _ _ _ _ _ _ _ _ _ _ _ _ _ _ _ _ _ _ _ _ _ _ _ _ _ _ _ _ _ _ _ _ _ _ _ _ _ _ _ _ _ _ _ _ _ _ _ _ _ _ _ _ _ _ undef _ _ _ _ _ _ _ _ _ _ _ _ _ _ _ _ _ _ _ _ _ _ _ ?_ ?_
      · have h := (Blk.new (((wr.alloc (.cells #[.int .i64 K, .slice Av nv cv] 81)).alloc (.map #[] 0)).alloc (.cells #[.map (some (wr.heap.size + 1))] 128)) 63 #[.slice Av nv cv]).cell 0
        rw [World.size_alloc, World.size_alloc, World.size_alloc] at h
        exact h.trans rfl
      · intro D W' hD hbr hlow hopn
        gi_wp2
        exact ⟨⟨k + 1, D :: Ds, _, _, _, _, _, _, _, _, _, _, _, _, _, _, _, _, _, _, _, _, _, _, _, _, _, _, _, _, _, _, _, _, _, _, _, _, _, _, _, _, _, _, _, _, _, _, _, _, _, _, _, _, _, _, _, _, _, _, _, _, _, _, _, _, _, _, _, _, _, _, _, _, _, _, _, _, _, _, _, _, _, _, _, _, _, _, _, _, _, _, _, _, _, _, _, _, _, _, _, _, _, _, _, _, _, _, _, _, _, _, _, _, _, _, _, _, _, _, _, _, _, _, _, ⟨by omega, Lib.hid (Hnext.out.trans hbr), hlow, hopn⟩, rfl⟩, by simp [intOf]; omega⟩
      · intro a D W' h4 hd hbr hlow hblk hopn
        exact Hr.out _ _ _ h4 hd (Hmem.out hbr) hlow hblk hopn
    · have hlt' : ¬ (k : Int) < (n4 : Int) := by omega
      gi_wp2
      refine Hn.out ?_ _ Ds _ hB ho ⟨_, _, _, _, _, _, _, _, _, _, _, _, _, _, _, _, _, _, _, _, _, _, _, _, _, _, _, _, _, _, _, _, _, _, _, _, _, _, _, _, _, _, _, _, _, _, _, _, _, _, _, _, _, _, _, _, _, _, _, _, _, _, _, _, _, _, _, _, _, _, _, _, _, _, _, _, _, _, _, _, _, _, _, _, _, _, _, _, _, _, _, _, _, _, _, _, _, _, _, _, _, _, _, _, _, _, _, _, _, _, _, _, _, _, _, _, _, _, _, _, _, _, _, _, _, _, rfl⟩
      have h1 := HP.out
      rw [List.take_of_length_le (by rw [L4.out]; omega)] at h1
      exact h1
end Go.Proofs.YtcnofhlgiffkjaaGreatDoor
/- broken. (genbrk4.py) -/
namespace Go.Proofs.YtcnofhlgiffkjaaGreatDoor
open Go.RowKit
set_option linter.unusedVariables false
set_option linter.unusedSimpArgs false
attribute [local go_sem] Oper.semAt_some

theorem chkPairs_ok {n : Nat} : ∀ {l : List (Int × Int)}, chkPairs n l = 0 → ∀ x ∈ l, 0 ≤ x.1 ∧ x.1 < n ∧ 0 ≤ x.2 ∧ x.2 < n ∧ x.1 ≠ x.2
  | [], _, x, hx => by cases hx
  | (a, b) :: l, h, x, hx => by
    unfold chkPairs at h
    split at h
    · cases h
    · split at h
      · cases h
      · rcases List.mem_cons.1 hx with rfl | hx
        · exact ⟨by omega, by omega, by omega, by omega, by assumption⟩
        · exact chkPairs_ok h x hx
theorem within_lt {M n : Nat} (h : withinB M (2 ^ n - 1) = true) : M < 2 ^ n := by
  have h1 : M ||| (2 ^ n - 1) = 2 ^ n - 1 := by simpa [withinB] using h
  have h2 : M ≤ M ||| (2 ^ n - 1) := Nat.left_le_or
  have := Nat.two_pow_pos n
  omega
theorem notf {b : Bool} (h : (!b) = false) : b = true := by
  cases b
  · cases h
  · rfl
/-- A problem without an error. -/
structure PrOk (P : Pr) : Prop where
  n0 : P.elig.length ≠ 0
  n10 : P.elig.length ≤ 10
  d20 : P.dif.length ≤ 20
  s20 : P.sam.length ≤ 20
  m20 : P.mst.length ≤ 20
  fixl : P.fix.length = P.elig.length
  eli : ∀ M ∈ P.elig, M.testBit 0 = false ∧ M < 2 ^ 257
  fixu : ∀ u ∈ P.fix, 0 ≤ u ∧ u ≤ 256
  difu : ∀ x ∈ P.dif, 0 ≤ x.1 ∧ x.1 < P.elig.length ∧ 0 ≤ x.2 ∧ x.2 < P.elig.length ∧ x.1 ≠ x.2
  samu : ∀ x ∈ P.sam, 0 ≤ x.1 ∧ x.1 < P.elig.length ∧ 0 ≤ x.2 ∧ x.2 < P.elig.length ∧ x.1 ≠ x.2
  mstu : ∀ x ∈ P.mst, 1 ≤ x.1 ∧ x.1 ≤ 10 ∧ x.2 ≠ 0 ∧ x.2 < 2 ^ P.elig.length
theorem chkP_ok {P : Pr} (h : chkP P = 0) : PrOk P := by
  unfold chkP at h
  by_cases h1 : P.elig.length = 0
  · rw [if_pos h1] at h; cases h
  rw [if_neg h1] at h
  by_cases h2 : 10 < P.elig.length ∨ 20 < P.dif.length ∨ 20 < P.sam.length ∨ 20 < P.mst.length
  · rw [if_pos h2] at h; cases h
  rw [if_neg h2] at h
  by_cases h3 : P.fix.length ≠ P.elig.length
  · rw [if_pos h3] at h; cases h
  rw [if_neg h3] at h
  by_cases h4 : P.elig.any eligBad = true
  · rw [if_pos h4] at h; cases h
  rw [if_neg h4] at h
  by_cases h5 : P.fix.any fixBad = true
  · rw [if_pos h5] at h; cases h
  rw [if_neg h5] at h
  by_cases h6 : chkPairs P.elig.length P.dif ≠ 0
  · rw [if_pos h6] at h; exact absurd h h6
  rw [if_neg h6] at h
  by_cases h7 : chkPairs P.elig.length P.sam ≠ 0
  · rw [if_pos h7] at h; exact absurd h h7
  rw [if_neg h7] at h
  by_cases h8 : P.mst.any (mstBad P.elig.length) = true
  · rw [if_pos h8] at h; cases h
  refine ⟨h1, by omega, by omega, by omega, by omega, by omega, fun M hM => ?_, fun u hu => ?_, chkPairs_ok (by omega), chkPairs_ok (by omega), fun x hx => ?_⟩
  · show M.testBit 0 = false ∧ M < 2 ^ 257
    have hb : eligBad M = false := by
      rcases he : eligBad M with _ | _
      · rfl
      · exact absurd (List.any_eq_true.2 ⟨M, hM, he⟩) h4
    unfold eligBad at hb
    obtain ⟨hb1, hb2⟩ := Bool.or_eq_false_iff.1 hb
    exact ⟨hb1, within_lt (n := 257) (notf hb2)⟩
  · have hb : fixBad u = false := by
      rcases he : fixBad u with _ | _
      · rfl
      · exact absurd (List.any_eq_true.2 ⟨u, hu, he⟩) h5
    unfold fixBad at hb
    simp at hb
    omega
  · have hb : mstBad P.elig.length x = false := by
      rcases he : mstBad P.elig.length x with _ | _
      · rfl
      · exact absurd (List.any_eq_true.2 ⟨x, hx, he⟩) h8
    unfold mstBad at hb
    simp only [Bool.or_eq_false_iff, Bool.not_eq_false', decide_eq_false_iff_not] at hb
    exact ⟨by omega, by omega, by omega, within_lt hb.2⟩

theorem brk_split : brkBody = .seq (headC brkBody) (.seq (brkPart 1) (.seq (brkPart 2) (.seq (brkPart 3) (.seq (brkPart 4) (tailC 5 brkBody))))) := by kernel_rfl

set_option maxHeartbeats 8000000 in
set_option maxRecDepth 100000 in
/-- broken. -/
theorem broken_any (p : PrV) (P : Pr) (A : Option Addr) (n c : Nat) (l : List Int) (w : World) (h : PrAt w w.heap.size p P) (hl : Sees w w.heap.size A (l.map iv)) (hn : l.length = n) (hln : l.length = P.elig.length)
    (hok : chkP P = 0) (hu : ∀ u ∈ l, 0 ≤ u ∧ u ≤ 256) (hT : Tab w) :
    Calls Tryz.prog 34 #[p.v, .slice A n c] w fun e w' => e = .returned (.bool (brk P l)) ∧ Below w.heap.size w w' := by
  obtain ⟨⟨A1, n1, c1⟩, ⟨A2, n2, c2⟩, ⟨A3, n3, c3⟩, ⟨A4, n4, c4⟩, ⟨A5, n5, c5⟩⟩ := p
  obtain ⟨l1, l2, l3, l4, l5, e1, e2, e3, e4, e5, s1, s2, s3, s4, s5, _⟩ := h
  simp only at l1 l2 l3 l4 l5 e1 e2 e3 e4 e5 s1 s2 s3 s4 s5
  have ok := chkP_ok hok
  obtain rfl : n = n1 := by omega
  have bk : ∀ W3, W3 = ((w.alloc (.cells #[.slice A1 n c1, .slice A2 n2 c2, .slice A3 n3 c3, .slice A4 n4 c4, .slice A5 n5 c5] 37)).alloc (.cells #[.slice A n c] 30)).alloc (.cells #[.bool false] 4) →
      Bk w W3 P l A A1 A2 A3 A4 A5 n c c1 n2 c2 n3 c3 n4 c4 n5 c5 := by
    rintro W3 rfl
    have q1 := (((Blk.new w 37 #[.slice A1 n c1, .slice A2 n2 c2, .slice A3 n3 c3, .slice A4 n4 c4, .slice A5 n5 c5]).alloc (.cells #[.slice A n c] 30)).alloc (.cells #[.bool false] 4))
    have q2 := ((Blk.new (w.alloc (.cells #[.slice A1 n c1, .slice A2 n2 c2, .slice A3 n3 c3, .slice A4 n4 c4, .slice A5 n5 c5] 37)) 30 #[.slice A n c]).alloc (.cells #[.bool false] 4))
    have q3 := (Blk.new ((w.alloc (.cells #[.slice A1 n c1, .slice A2 n2 c2, .slice A3 n3 c3, .slice A4 n4 c4, .slice A5 n5 c5] 37)).alloc (.cells #[.slice A n c] 30)) 4 #[.bool false])
    simp only [World.size_alloc] at q2 q3
    refine ⟨hT, hl, Lib.hid hn, Lib.hid l1, Lib.hid l2, Lib.hid l3, Lib.hid l4, e1, e2, e3, e4, s1, s2, s3, s4, by have := ok.n10; omega, Lib.hid hu, ?_, ?_, ?_, ?_, by simp, ?_, ?_, q3⟩
    · exact Lib.hid fun x hx => by obtain ⟨h1, h2, h3, h4, _⟩ := ok.difu x hx; rw [l1] at h2 h4; exact ⟨h1, h2, h3, h4⟩
    · exact Lib.hid fun x hx => by obtain ⟨h1, h2, h3, h4, _⟩ := ok.samu x hx; rw [l1] at h2 h4; exact ⟨h1, h2, h3, h4⟩
    · exact Lib.hid fun x hx => by obtain ⟨h1, h2, _, h4⟩ := ok.mstu x hx; rw [l1] at h4; exact ⟨h1, h2, h4⟩
    · exact (((Below.refl _ _).alloc (Nat.le_refl _) _).alloc (by simp) _).alloc (by simp; omega) _
    · intro W hW
      exact ⟨((q1.on hW).cell 0).trans rfl, ((q1.on hW).cell 1).trans rfl, ((q1.on hW).cell 2).trans rfl, ((q1.on hW).cell 3).trans rfl, ((q2.on hW).cell 0).trans rfl⟩
    · intro W hW
      exact ⟨((q3.on hW).cell 0).trans rfl, (q3.on hW).frozen 0⟩
  have hbrk : brk P l = ((List.range l.length).any (brkE P.elig l) || P.dif.any (brkD l) || P.sam.any (brkS l) || P.mst.any (brkM l)) := rfl
  have HBK := Lib.hid hbrk
  clear hbrk
  unfold PrV.v Sl.v
  simp only []
  refine (callsIn_wide (n := 5)).1 ?_
  refine callsIn_of_wp_marks (c := brkBody) Tryz.func34 rfl trivial ?_ rfl
  simp only [Tryz.ntmps34, List.size_toArray, List.length_cons, List.length_nil, Nat.reduceAdd, Nat.reduceSub, Array.replicate_succ, Array.replicate_zero, List.push_toArray, List.append_toArray, List.nil_append, List.cons_append]
  rw [brk_split]
  refine wpIn_seq_k fun K0 hK0 => ?_
  conv => arg 4; whnf
  gi_wp2
  rename_i Q1 K1 hK1
  obtain ⟨W3, hW3⟩ : ∃ W3, W3 = ((w.alloc (.cells #[.slice A1 n c1, .slice A2 n2 c2, .slice A3 n3 c3, .slice A4 n4 c4, .slice A5 n5 c5] 37)).alloc (.cells #[.slice A n c] 30)).alloc (.cells #[.bool false] 4) := ⟨_, rfl⟩
  have hb := bk W3 hW3
  rw [← hW3]
  clear bk hW3 ok
  have fin : ∀ (W : World), Below W3.heap.size W3 W → Below w.heap.size w (W.setCell ⟨w.heap.size + 2, 0, none⟩ (.bool true)) ∧ Blk (W.setCell ⟨w.heap.size + 2, 0, none⟩ (.bool true)) (w.heap.size + 2) 4 #[.bool true] := fun W hW =>
    ⟨(hb.b3.trans (hW.mono hb.b3.size)).setCell (p := ⟨w.heap.size + 2, 0, none⟩) (by simp) _, by simpa using (hb.bR.on hW).put 0 (.bool true)⟩
  have out : ∀ (W : World) (a : Act), Below W3.heap.size W3 W → a.tmps.getD 4 undef = .pointer (some ⟨w.heap.size + 2, 0, none⟩) → a.defers = [] → brk P l = true →
      bodyPostM Fence.wide 5 Tryz.prog Tryz.f34 (fun e w' => e = .returned (.bool (brk P l)) ∧ Below w.heap.size w w') .ret a (W.setCell ⟨w.heap.size + 2, 0, none⟩ (.bool true)) := fun W a hW h4 hd hbr => by
    obtain ⟨f1, f2⟩ := fin W hW
    exact retM (B := 0) rfl _ true h4 f2 [] hd (OpenM.nil _ _) ⟨by rw [hbr], f1⟩
  refine wpIn_wide.2 (brk_1 hb W3 (Below.refl _ _) _ ?_ ?_ _ _ _ _ _ _ _ _ _ _ _ _ _ _ _ _ _ _ _ _ _ _ _ _ _ _ _ _ _ _ _ _ _ _ _ _ _ _ _ _ _ _ _ _ _ _ _ _ _ _ _ _ _ _ _ _ _ _ _ _ _ _ _ _ _ _ _ _ _ _ _ _ _ _ _ _ _ _ _ _ _ _ _ _ _ _ _ _ _ _ _ _ _ _ _ _ _ _ _ _ _ _ _ _ _ _ _ _ _ _ _ _ _ _ _ _ _ _ _ _ _ _ _ _ _ _)
  case refine_2 => exact fun W a hW h4 hd hbr => out W a hW h4 hd hbr
  rintro hA a W hW hinv
  obtain ⟨u5, hinv⟩ := hinv
  obtain ⟨u6, hinv⟩ := hinv
  obtain ⟨u7, hinv⟩ := hinv
  obtain ⟨u8, hinv⟩ := hinv
  obtain ⟨u9, hinv⟩ := hinv
  obtain ⟨u10, hinv⟩ := hinv
  obtain ⟨u11, hinv⟩ := hinv
  obtain ⟨u12, hinv⟩ := hinv
  obtain ⟨u13, hinv⟩ := hinv
  obtain ⟨u14, hinv⟩ := hinv
  obtain ⟨u15, hinv⟩ := hinv
  obtain ⟨u16, hinv⟩ := hinv
  obtain ⟨u17, hinv⟩ := hinv
  obtain ⟨u18, hinv⟩ := hinv
  obtain ⟨u19, hinv⟩ := hinv
  obtain ⟨u20, hinv⟩ := hinv
  obtain ⟨u21, hinv⟩ := hinv
  obtain ⟨u22, hinv⟩ := hinv
  obtain ⟨u23, hinv⟩ := hinv
  obtain ⟨u24, hinv⟩ := hinv
  obtain ⟨u25, hinv⟩ := hinv
  obtain ⟨u26, hinv⟩ := hinv
  obtain ⟨u27, hinv⟩ := hinv
  obtain ⟨u28, hinv⟩ := hinv
  obtain ⟨u29, hinv⟩ := hinv
  obtain ⟨u30, hinv⟩ := hinv
  obtain ⟨u31, hinv⟩ := hinv
  obtain ⟨u32, hinv⟩ := hinv
  obtain ⟨u33, hinv⟩ := hinv
  obtain ⟨u34, hinv⟩ := hinv
  obtain ⟨u35, hinv⟩ := hinv
  obtain ⟨u36, hinv⟩ := hinv
  obtain ⟨u37, hinv⟩ := hinv
  obtain ⟨u38, hinv⟩ := hinv
  obtain ⟨u39, hinv⟩ := hinv
  obtain ⟨u40, hinv⟩ := hinv
  obtain ⟨u41, hinv⟩ := hinv
  obtain ⟨u42, hinv⟩ := hinv
  obtain ⟨u43, hinv⟩ := hinv
  obtain ⟨u44, hinv⟩ := hinv
  obtain ⟨u45, hinv⟩ := hinv
  obtain ⟨u46, hinv⟩ := hinv
  obtain ⟨u47, hinv⟩ := hinv
  obtain ⟨u48, hinv⟩ := hinv
  obtain ⟨u49, hinv⟩ := hinv
  obtain ⟨u50, hinv⟩ := hinv
  obtain ⟨u51, hinv⟩ := hinv
  obtain ⟨u52, hinv⟩ := hinv
  obtain ⟨u53, hinv⟩ := hinv
  obtain ⟨u54, hinv⟩ := hinv
  obtain ⟨u55, hinv⟩ := hinv
  obtain ⟨u56, hinv⟩ := hinv
  obtain ⟨u57, hinv⟩ := hinv
  obtain ⟨u58, hinv⟩ := hinv
  obtain ⟨u59, hinv⟩ := hinv
  obtain ⟨u60, hinv⟩ := hinv
  obtain ⟨u61, hinv⟩ := hinv
  obtain ⟨u62, hinv⟩ := hinv
  obtain ⟨u63, hinv⟩ := hinv
  obtain ⟨u64, hinv⟩ := hinv
  obtain ⟨u65, hinv⟩ := hinv
  obtain ⟨u66, hinv⟩ := hinv
  obtain ⟨u67, hinv⟩ := hinv
  obtain ⟨u68, hinv⟩ := hinv
  obtain ⟨u69, hinv⟩ := hinv
  obtain ⟨u70, hinv⟩ := hinv
  obtain ⟨u71, hinv⟩ := hinv
  obtain ⟨u72, hinv⟩ := hinv
  obtain ⟨u73, hinv⟩ := hinv
  obtain ⟨u74, hinv⟩ := hinv
  obtain ⟨u75, hinv⟩ := hinv
  obtain ⟨u76, hinv⟩ := hinv
  obtain ⟨u77, hinv⟩ := hinv
  obtain ⟨u78, hinv⟩ := hinv
  obtain ⟨u79, hinv⟩ := hinv
  obtain ⟨u80, hinv⟩ := hinv
  obtain ⟨u81, hinv⟩ := hinv
  obtain ⟨u82, hinv⟩ := hinv
  obtain ⟨u83, hinv⟩ := hinv
  obtain ⟨u84, hinv⟩ := hinv
  obtain ⟨u85, hinv⟩ := hinv
  obtain ⟨u86, hinv⟩ := hinv
  obtain ⟨u87, hinv⟩ := hinv
  obtain ⟨u88, hinv⟩ := hinv
  obtain ⟨u89, hinv⟩ := hinv
  obtain ⟨u90, hinv⟩ := hinv
  obtain ⟨u91, hinv⟩ := hinv
  obtain ⟨u92, hinv⟩ := hinv
  obtain ⟨u93, hinv⟩ := hinv
  obtain ⟨u94, hinv⟩ := hinv
  obtain ⟨u95, hinv⟩ := hinv
  obtain ⟨u96, hinv⟩ := hinv
  obtain ⟨u97, hinv⟩ := hinv
  obtain ⟨u98, hinv⟩ := hinv
  obtain ⟨u99, hinv⟩ := hinv
  obtain ⟨u100, hinv⟩ := hinv
  obtain ⟨u101, hinv⟩ := hinv
  obtain ⟨u102, hinv⟩ := hinv
  obtain ⟨u103, hinv⟩ := hinv
  obtain ⟨u104, hinv⟩ := hinv
  obtain ⟨u105, hinv⟩ := hinv
  obtain ⟨u106, hinv⟩ := hinv
  obtain ⟨u107, hinv⟩ := hinv
  obtain ⟨u108, hinv⟩ := hinv
  obtain ⟨u109, hinv⟩ := hinv
  obtain ⟨u110, hinv⟩ := hinv
  obtain ⟨u111, hinv⟩ := hinv
  obtain ⟨u112, hinv⟩ := hinv
  obtain ⟨u113, hinv⟩ := hinv
  obtain ⟨u114, hinv⟩ := hinv
  obtain ⟨u115, hinv⟩ := hinv
  obtain ⟨u116, hinv⟩ := hinv
  obtain ⟨u117, hinv⟩ := hinv
  obtain ⟨u118, hinv⟩ := hinv
  obtain ⟨u119, hinv⟩ := hinv
  obtain ⟨u120, hinv⟩ := hinv
  obtain ⟨u121, hinv⟩ := hinv
  obtain ⟨u122, hinv⟩ := hinv
  obtain ⟨u123, hinv⟩ := hinv
  obtain ⟨u124, hinv⟩ := hinv
  obtain ⟨u125, hinv⟩ := hinv
  obtain ⟨u126, hinv⟩ := hinv
  obtain ⟨u127, hinv⟩ := hinv
  obtain ⟨u128, hinv⟩ := hinv
  obtain ⟨u129, hinv⟩ := hinv
  obtain ⟨u130, hinv⟩ := hinv
  subst hinv
  refine hK1 _ _ ?_
  clear hK1 K1
  refine wpIn_seq_k fun K1 hK1 => wpIn_wide.2 (brk_2 hb W hW _ ?_ ?_ _ _ _ _ _ _ _ _ _ _ _ _ _ _ _ _ _ _ _ _ _ _ _ _ _ _ _ _ _ _ _ _ _ _ _ _ _ _ _ _ _ _ _ _ _ _ _ _ _ _ _ _ _ _ _ _ _ _ _ _ _ _ _ _ _ _ _ _ _ _ _ _ _ _ _ _ _ _ _ _ _ _ _ _ _ _ _ _ _ _ _ _ _ _ _ _ _ _ _ _ _ _ _ _ _ _ _ _ _ _ _ _ _ _ _ _ _ _ _ _ _ _ _ _ _ _)
  case refine_2 => exact fun W a hW h4 hd hbr => out W a hW h4 hd hbr
  rintro hD a W hW hinv
  obtain ⟨u5, hinv⟩ := hinv
  obtain ⟨u6, hinv⟩ := hinv
  obtain ⟨u7, hinv⟩ := hinv
  obtain ⟨u8, hinv⟩ := hinv
  obtain ⟨u9, hinv⟩ := hinv
  obtain ⟨u10, hinv⟩ := hinv
  obtain ⟨u11, hinv⟩ := hinv
  obtain ⟨u12, hinv⟩ := hinv
  obtain ⟨u13, hinv⟩ := hinv
  obtain ⟨u14, hinv⟩ := hinv
  obtain ⟨u15, hinv⟩ := hinv
  obtain ⟨u16, hinv⟩ := hinv
  obtain ⟨u17, hinv⟩ := hinv
  obtain ⟨u18, hinv⟩ := hinv
  obtain ⟨u19, hinv⟩ := hinv
  obtain ⟨u20, hinv⟩ := hinv
  obtain ⟨u21, hinv⟩ := hinv
  obtain ⟨u22, hinv⟩ := hinv
  obtain ⟨u23, hinv⟩ := hinv
  obtain ⟨u24, hinv⟩ := hinv
  obtain ⟨u25, hinv⟩ := hinv
  obtain ⟨u26, hinv⟩ := hinv
  obtain ⟨u27, hinv⟩ := hinv
  obtain ⟨u28, hinv⟩ := hinv
  obtain ⟨u29, hinv⟩ := hinv
  obtain ⟨u30, hinv⟩ := hinv
  obtain ⟨u31, hinv⟩ := hinv
  obtain ⟨u32, hinv⟩ := hinv
  obtain ⟨u33, hinv⟩ := hinv
  obtain ⟨u34, hinv⟩ := hinv
  obtain ⟨u35, hinv⟩ := hinv
  obtain ⟨u36, hinv⟩ := hinv
  obtain ⟨u37, hinv⟩ := hinv
  obtain ⟨u38, hinv⟩ := hinv
  obtain ⟨u39, hinv⟩ := hinv
  obtain ⟨u40, hinv⟩ := hinv
  obtain ⟨u41, hinv⟩ := hinv
  obtain ⟨u42, hinv⟩ := hinv
  obtain ⟨u43, hinv⟩ := hinv
  obtain ⟨u44, hinv⟩ := hinv
  obtain ⟨u45, hinv⟩ := hinv
  obtain ⟨u46, hinv⟩ := hinv
  obtain ⟨u47, hinv⟩ := hinv
  obtain ⟨u48, hinv⟩ := hinv
  obtain ⟨u49, hinv⟩ := hinv
  obtain ⟨u50, hinv⟩ := hinv
  obtain ⟨u51, hinv⟩ := hinv
  obtain ⟨u52, hinv⟩ := hinv
  obtain ⟨u53, hinv⟩ := hinv
  obtain ⟨u54, hinv⟩ := hinv
  obtain ⟨u55, hinv⟩ := hinv
  obtain ⟨u56, hinv⟩ := hinv
  obtain ⟨u57, hinv⟩ := hinv
  obtain ⟨u58, hinv⟩ := hinv
  obtain ⟨u59, hinv⟩ := hinv
  obtain ⟨u60, hinv⟩ := hinv
  obtain ⟨u61, hinv⟩ := hinv
  obtain ⟨u62, hinv⟩ := hinv
  obtain ⟨u63, hinv⟩ := hinv
  obtain ⟨u64, hinv⟩ := hinv
  obtain ⟨u65, hinv⟩ := hinv
  obtain ⟨u66, hinv⟩ := hinv
  obtain ⟨u67, hinv⟩ := hinv
  obtain ⟨u68, hinv⟩ := hinv
  obtain ⟨u69, hinv⟩ := hinv
  obtain ⟨u70, hinv⟩ := hinv
  obtain ⟨u71, hinv⟩ := hinv
  obtain ⟨u72, hinv⟩ := hinv
  obtain ⟨u73, hinv⟩ := hinv
  obtain ⟨u74, hinv⟩ := hinv
  obtain ⟨u75, hinv⟩ := hinv
  obtain ⟨u76, hinv⟩ := hinv
  obtain ⟨u77, hinv⟩ := hinv
  obtain ⟨u78, hinv⟩ := hinv
  obtain ⟨u79, hinv⟩ := hinv
  obtain ⟨u80, hinv⟩ := hinv
  obtain ⟨u81, hinv⟩ := hinv
  obtain ⟨u82, hinv⟩ := hinv
  obtain ⟨u83, hinv⟩ := hinv
  obtain ⟨u84, hinv⟩ := hinv
  obtain ⟨u85, hinv⟩ := hinv
  obtain ⟨u86, hinv⟩ := hinv
  obtain ⟨u87, hinv⟩ := hinv
  obtain ⟨u88, hinv⟩ := hinv
  obtain ⟨u89, hinv⟩ := hinv
  obtain ⟨u90, hinv⟩ := hinv
  obtain ⟨u91, hinv⟩ := hinv
  obtain ⟨u92, hinv⟩ := hinv
  obtain ⟨u93, hinv⟩ := hinv
  obtain ⟨u94, hinv⟩ := hinv
  obtain ⟨u95, hinv⟩ := hinv
  obtain ⟨u96, hinv⟩ := hinv
  obtain ⟨u97, hinv⟩ := hinv
  obtain ⟨u98, hinv⟩ := hinv
  obtain ⟨u99, hinv⟩ := hinv
  obtain ⟨u100, hinv⟩ := hinv
  obtain ⟨u101, hinv⟩ := hinv
  obtain ⟨u102, hinv⟩ := hinv
  obtain ⟨u103, hinv⟩ := hinv
  obtain ⟨u104, hinv⟩ := hinv
  obtain ⟨u105, hinv⟩ := hinv
  obtain ⟨u106, hinv⟩ := hinv
  obtain ⟨u107, hinv⟩ := hinv
  obtain ⟨u108, hinv⟩ := hinv
  obtain ⟨u109, hinv⟩ := hinv
  obtain ⟨u110, hinv⟩ := hinv
  obtain ⟨u111, hinv⟩ := hinv
  obtain ⟨u112, hinv⟩ := hinv
  obtain ⟨u113, hinv⟩ := hinv
  obtain ⟨u114, hinv⟩ := hinv
  obtain ⟨u115, hinv⟩ := hinv
  obtain ⟨u116, hinv⟩ := hinv
  obtain ⟨u117, hinv⟩ := hinv
  obtain ⟨u118, hinv⟩ := hinv
  obtain ⟨u119, hinv⟩ := hinv
  obtain ⟨u120, hinv⟩ := hinv
  obtain ⟨u121, hinv⟩ := hinv
  obtain ⟨u122, hinv⟩ := hinv
  obtain ⟨u123, hinv⟩ := hinv
  obtain ⟨u124, hinv⟩ := hinv
  obtain ⟨u125, hinv⟩ := hinv
  obtain ⟨u126, hinv⟩ := hinv
  obtain ⟨u127, hinv⟩ := hinv
  obtain ⟨u128, hinv⟩ := hinv
  obtain ⟨u129, hinv⟩ := hinv
  obtain ⟨u130, hinv⟩ := hinv
  subst hinv
  refine hK1 _ _ ?_
  clear hK1 K1
  refine wpIn_seq_k fun K1 hK1 => wpIn_wide.2 (brk_3 hb W hW _ ?_ ?_ _ _ _ _ _ _ _ _ _ _ _ _ _ _ _ _ _ _ _ _ _ _ _ _ _ _ _ _ _ _ _ _ _ _ _ _ _ _ _ _ _ _ _ _ _ _ _ _ _ _ _ _ _ _ _ _ _ _ _ _ _ _ _ _ _ _ _ _ _ _ _ _ _ _ _ _ _ _ _ _ _ _ _ _ _ _ _ _ _ _ _ _ _ _ _ _ _ _ _ _ _ _ _ _ _ _ _ _ _ _ _ _ _ _ _ _ _ _ _ _ _ _ _ _ _ _)
  case refine_2 => exact fun W a hW h4 hd hbr => out W a hW h4 hd hbr
  rintro hS a W hW hinv
  obtain ⟨u5, hinv⟩ := hinv
  obtain ⟨u6, hinv⟩ := hinv
  obtain ⟨u7, hinv⟩ := hinv
  obtain ⟨u8, hinv⟩ := hinv
  obtain ⟨u9, hinv⟩ := hinv
  obtain ⟨u10, hinv⟩ := hinv
  obtain ⟨u11, hinv⟩ := hinv
  obtain ⟨u12, hinv⟩ := hinv
  obtain ⟨u13, hinv⟩ := hinv
  obtain ⟨u14, hinv⟩ := hinv
  obtain ⟨u15, hinv⟩ := hinv
  obtain ⟨u16, hinv⟩ := hinv
  obtain ⟨u17, hinv⟩ := hinv
  obtain ⟨u18, hinv⟩ := hinv
  obtain ⟨u19, hinv⟩ := hinv
  obtain ⟨u20, hinv⟩ := hinv
  obtain ⟨u21, hinv⟩ := hinv
  obtain ⟨u22, hinv⟩ := hinv
  obtain ⟨u23, hinv⟩ := hinv
  obtain ⟨u24, hinv⟩ := hinv
  obtain ⟨u25, hinv⟩ := hinv
  obtain ⟨u26, hinv⟩ := hinv
  obtain ⟨u27, hinv⟩ := hinv
  obtain ⟨u28, hinv⟩ := hinv
  obtain ⟨u29, hinv⟩ := hinv
  obtain ⟨u30, hinv⟩ := hinv
  obtain ⟨u31, hinv⟩ := hinv
  obtain ⟨u32, hinv⟩ := hinv
  obtain ⟨u33, hinv⟩ := hinv
  obtain ⟨u34, hinv⟩ := hinv
  obtain ⟨u35, hinv⟩ := hinv
  obtain ⟨u36, hinv⟩ := hinv
  obtain ⟨u37, hinv⟩ := hinv
  obtain ⟨u38, hinv⟩ := hinv
  obtain ⟨u39, hinv⟩ := hinv
  obtain ⟨u40, hinv⟩ := hinv
  obtain ⟨u41, hinv⟩ := hinv
  obtain ⟨u42, hinv⟩ := hinv
  obtain ⟨u43, hinv⟩ := hinv
  obtain ⟨u44, hinv⟩ := hinv
  obtain ⟨u45, hinv⟩ := hinv
  obtain ⟨u46, hinv⟩ := hinv
  obtain ⟨u47, hinv⟩ := hinv
  obtain ⟨u48, hinv⟩ := hinv
  obtain ⟨u49, hinv⟩ := hinv
  obtain ⟨u50, hinv⟩ := hinv
  obtain ⟨u51, hinv⟩ := hinv
  obtain ⟨u52, hinv⟩ := hinv
  obtain ⟨u53, hinv⟩ := hinv
  obtain ⟨u54, hinv⟩ := hinv
  obtain ⟨u55, hinv⟩ := hinv
  obtain ⟨u56, hinv⟩ := hinv
  obtain ⟨u57, hinv⟩ := hinv
  obtain ⟨u58, hinv⟩ := hinv
  obtain ⟨u59, hinv⟩ := hinv
  obtain ⟨u60, hinv⟩ := hinv
  obtain ⟨u61, hinv⟩ := hinv
  obtain ⟨u62, hinv⟩ := hinv
  obtain ⟨u63, hinv⟩ := hinv
  obtain ⟨u64, hinv⟩ := hinv
  obtain ⟨u65, hinv⟩ := hinv
  obtain ⟨u66, hinv⟩ := hinv
  obtain ⟨u67, hinv⟩ := hinv
  obtain ⟨u68, hinv⟩ := hinv
  obtain ⟨u69, hinv⟩ := hinv
  obtain ⟨u70, hinv⟩ := hinv
  obtain ⟨u71, hinv⟩ := hinv
  obtain ⟨u72, hinv⟩ := hinv
  obtain ⟨u73, hinv⟩ := hinv
  obtain ⟨u74, hinv⟩ := hinv
  obtain ⟨u75, hinv⟩ := hinv
  obtain ⟨u76, hinv⟩ := hinv
  obtain ⟨u77, hinv⟩ := hinv
  obtain ⟨u78, hinv⟩ := hinv
  obtain ⟨u79, hinv⟩ := hinv
  obtain ⟨u80, hinv⟩ := hinv
  obtain ⟨u81, hinv⟩ := hinv
  obtain ⟨u82, hinv⟩ := hinv
  obtain ⟨u83, hinv⟩ := hinv
  obtain ⟨u84, hinv⟩ := hinv
  obtain ⟨u85, hinv⟩ := hinv
  obtain ⟨u86, hinv⟩ := hinv
  obtain ⟨u87, hinv⟩ := hinv
  obtain ⟨u88, hinv⟩ := hinv
  obtain ⟨u89, hinv⟩ := hinv
  obtain ⟨u90, hinv⟩ := hinv
  obtain ⟨u91, hinv⟩ := hinv
  obtain ⟨u92, hinv⟩ := hinv
  obtain ⟨u93, hinv⟩ := hinv
  obtain ⟨u94, hinv⟩ := hinv
  obtain ⟨u95, hinv⟩ := hinv
  obtain ⟨u96, hinv⟩ := hinv
  obtain ⟨u97, hinv⟩ := hinv
  obtain ⟨u98, hinv⟩ := hinv
  obtain ⟨u99, hinv⟩ := hinv
  obtain ⟨u100, hinv⟩ := hinv
  obtain ⟨u101, hinv⟩ := hinv
  obtain ⟨u102, hinv⟩ := hinv
  obtain ⟨u103, hinv⟩ := hinv
  obtain ⟨u104, hinv⟩ := hinv
  obtain ⟨u105, hinv⟩ := hinv
  obtain ⟨u106, hinv⟩ := hinv
  obtain ⟨u107, hinv⟩ := hinv
  obtain ⟨u108, hinv⟩ := hinv
  obtain ⟨u109, hinv⟩ := hinv
  obtain ⟨u110, hinv⟩ := hinv
  obtain ⟨u111, hinv⟩ := hinv
  obtain ⟨u112, hinv⟩ := hinv
  obtain ⟨u113, hinv⟩ := hinv
  obtain ⟨u114, hinv⟩ := hinv
  obtain ⟨u115, hinv⟩ := hinv
  obtain ⟨u116, hinv⟩ := hinv
  obtain ⟨u117, hinv⟩ := hinv
  obtain ⟨u118, hinv⟩ := hinv
  obtain ⟨u119, hinv⟩ := hinv
  obtain ⟨u120, hinv⟩ := hinv
  obtain ⟨u121, hinv⟩ := hinv
  obtain ⟨u122, hinv⟩ := hinv
  obtain ⟨u123, hinv⟩ := hinv
  obtain ⟨u124, hinv⟩ := hinv
  obtain ⟨u125, hinv⟩ := hinv
  obtain ⟨u126, hinv⟩ := hinv
  obtain ⟨u127, hinv⟩ := hinv
  obtain ⟨u128, hinv⟩ := hinv
  obtain ⟨u129, hinv⟩ := hinv
  obtain ⟨u130, hinv⟩ := hinv
  subst hinv
  refine hK1 _ _ ?_
  clear hK1 K1
  refine wpIn_seq_k fun K1 hK1 => brk_4 hb W hW _ ?_ ?_ _ _ _ _ _ _ _ _ _ _ _ _ _ _ _ _ _ _ _ _ _ _ _ _ _ _ _ _ _ _ _ _ _ _ _ _ _ _ _ _ _ _ _ _ _ _ _ _ _ _ _ _ _ _ _ _ _ _ _ _ _ _ _ _ _ _ _ _ _ _ _ _ _ _ _ _ _ _ _ _ _ _ _ _ _ _ _ _ _ _ _ _ _ _ _ _ _ _ _ _ _ _ _ _ _ _ _ _ _ _ _ _ _ _ _ _ _ _ _ _ _ _ _ _ _ _
  case refine_2 =>
    intro a Ds W h4 hd hbr hlow hblk hopn
    exact retM rfl _ true h4 hblk Ds hd hopn ⟨by rw [HBK.out, hbr, Bool.or_true], shut_below Ds w W hlow ⟨hopn.1, fun D hD => ⟨Nat.le_trans hb.b3.size (hopn.2 D hD).1, (hopn.2 D hD).2⟩⟩⟩
  rintro hM a Ds W hW hopn hinv
  obtain ⟨u5, hinv⟩ := hinv
  obtain ⟨u6, hinv⟩ := hinv
  obtain ⟨u7, hinv⟩ := hinv
  obtain ⟨u8, hinv⟩ := hinv
  obtain ⟨u9, hinv⟩ := hinv
  obtain ⟨u10, hinv⟩ := hinv
  obtain ⟨u11, hinv⟩ := hinv
  obtain ⟨u12, hinv⟩ := hinv
  obtain ⟨u13, hinv⟩ := hinv
  obtain ⟨u14, hinv⟩ := hinv
  obtain ⟨u15, hinv⟩ := hinv
  obtain ⟨u16, hinv⟩ := hinv
  obtain ⟨u17, hinv⟩ := hinv
  obtain ⟨u18, hinv⟩ := hinv
  obtain ⟨u19, hinv⟩ := hinv
  obtain ⟨u20, hinv⟩ := hinv
  obtain ⟨u21, hinv⟩ := hinv
  obtain ⟨u22, hinv⟩ := hinv
  obtain ⟨u23, hinv⟩ := hinv
  obtain ⟨u24, hinv⟩ := hinv
  obtain ⟨u25, hinv⟩ := hinv
  obtain ⟨u26, hinv⟩ := hinv
  obtain ⟨u27, hinv⟩ := hinv
  obtain ⟨u28, hinv⟩ := hinv
  obtain ⟨u29, hinv⟩ := hinv
  obtain ⟨u30, hinv⟩ := hinv
  obtain ⟨u31, hinv⟩ := hinv
  obtain ⟨u32, hinv⟩ := hinv
  obtain ⟨u33, hinv⟩ := hinv
  obtain ⟨u34, hinv⟩ := hinv
  obtain ⟨u35, hinv⟩ := hinv
  obtain ⟨u36, hinv⟩ := hinv
  obtain ⟨u37, hinv⟩ := hinv
  obtain ⟨u38, hinv⟩ := hinv
  obtain ⟨u39, hinv⟩ := hinv
  obtain ⟨u40, hinv⟩ := hinv
  obtain ⟨u41, hinv⟩ := hinv
  obtain ⟨u42, hinv⟩ := hinv
  obtain ⟨u43, hinv⟩ := hinv
  obtain ⟨u44, hinv⟩ := hinv
  obtain ⟨u45, hinv⟩ := hinv
  obtain ⟨u46, hinv⟩ := hinv
  obtain ⟨u47, hinv⟩ := hinv
  obtain ⟨u48, hinv⟩ := hinv
  obtain ⟨u49, hinv⟩ := hinv
  obtain ⟨u50, hinv⟩ := hinv
  obtain ⟨u51, hinv⟩ := hinv
  obtain ⟨u52, hinv⟩ := hinv
  obtain ⟨u53, hinv⟩ := hinv
  obtain ⟨u54, hinv⟩ := hinv
  obtain ⟨u55, hinv⟩ := hinv
  obtain ⟨u56, hinv⟩ := hinv
  obtain ⟨u57, hinv⟩ := hinv
  obtain ⟨u58, hinv⟩ := hinv
  obtain ⟨u59, hinv⟩ := hinv
  obtain ⟨u60, hinv⟩ := hinv
  obtain ⟨u61, hinv⟩ := hinv
  obtain ⟨u62, hinv⟩ := hinv
  obtain ⟨u63, hinv⟩ := hinv
  obtain ⟨u64, hinv⟩ := hinv
  obtain ⟨u65, hinv⟩ := hinv
  obtain ⟨u66, hinv⟩ := hinv
  obtain ⟨u67, hinv⟩ := hinv
  obtain ⟨u68, hinv⟩ := hinv
  obtain ⟨u69, hinv⟩ := hinv
  obtain ⟨u70, hinv⟩ := hinv
  obtain ⟨u71, hinv⟩ := hinv
  obtain ⟨u72, hinv⟩ := hinv
  obtain ⟨u73, hinv⟩ := hinv
  obtain ⟨u74, hinv⟩ := hinv
  obtain ⟨u75, hinv⟩ := hinv
  obtain ⟨u76, hinv⟩ := hinv
  obtain ⟨u77, hinv⟩ := hinv
  obtain ⟨u78, hinv⟩ := hinv
  obtain ⟨u79, hinv⟩ := hinv
  obtain ⟨u80, hinv⟩ := hinv
  obtain ⟨u81, hinv⟩ := hinv
  obtain ⟨u82, hinv⟩ := hinv
  obtain ⟨u83, hinv⟩ := hinv
  obtain ⟨u84, hinv⟩ := hinv
  obtain ⟨u85, hinv⟩ := hinv
  obtain ⟨u86, hinv⟩ := hinv
  obtain ⟨u87, hinv⟩ := hinv
  obtain ⟨u88, hinv⟩ := hinv
  obtain ⟨u89, hinv⟩ := hinv
  obtain ⟨u90, hinv⟩ := hinv
  obtain ⟨u91, hinv⟩ := hinv
  obtain ⟨u92, hinv⟩ := hinv
  obtain ⟨u93, hinv⟩ := hinv
  obtain ⟨u94, hinv⟩ := hinv
  obtain ⟨u95, hinv⟩ := hinv
  obtain ⟨u96, hinv⟩ := hinv
  obtain ⟨u97, hinv⟩ := hinv
  obtain ⟨u98, hinv⟩ := hinv
  obtain ⟨u99, hinv⟩ := hinv
  obtain ⟨u100, hinv⟩ := hinv
  obtain ⟨u101, hinv⟩ := hinv
  obtain ⟨u102, hinv⟩ := hinv
  obtain ⟨u103, hinv⟩ := hinv
  obtain ⟨u104, hinv⟩ := hinv
  obtain ⟨u105, hinv⟩ := hinv
  obtain ⟨u106, hinv⟩ := hinv
  obtain ⟨u107, hinv⟩ := hinv
  obtain ⟨u108, hinv⟩ := hinv
  obtain ⟨u109, hinv⟩ := hinv
  obtain ⟨u110, hinv⟩ := hinv
  obtain ⟨u111, hinv⟩ := hinv
  obtain ⟨u112, hinv⟩ := hinv
  obtain ⟨u113, hinv⟩ := hinv
  obtain ⟨u114, hinv⟩ := hinv
  obtain ⟨u115, hinv⟩ := hinv
  obtain ⟨u116, hinv⟩ := hinv
  obtain ⟨u117, hinv⟩ := hinv
  obtain ⟨u118, hinv⟩ := hinv
  obtain ⟨u119, hinv⟩ := hinv
  obtain ⟨u120, hinv⟩ := hinv
  obtain ⟨u121, hinv⟩ := hinv
  obtain ⟨u122, hinv⟩ := hinv
  obtain ⟨u123, hinv⟩ := hinv
  obtain ⟨u124, hinv⟩ := hinv
  obtain ⟨u125, hinv⟩ := hinv
  obtain ⟨u126, hinv⟩ := hinv
  obtain ⟨u127, hinv⟩ := hinv
  obtain ⟨u128, hinv⟩ := hinv
  obtain ⟨u129, hinv⟩ := hinv
  obtain ⟨u130, hinv⟩ := hinv
  subst hinv
  refine hK1 _ _ ?_
  clear hK1 K1
  have hbf : brk P l = false := by rw [HBK.out, hA, hD, hS, hM]; rfl
  have r0 := (hb.resF _ hW).1
  have r1 := (hb.resF _ hW).2
  have hbW := hb.b3.trans (hW.mono hb.b3.size)
  have hblk : Blk (W.setCell ⟨w.heap.size + 2, 0, none⟩ (.bool false)) (w.heap.size + 2) 4 #[.bool false] := by simpa using (hb.bR.on hW).put 0 (.bool false)
  conv => arg 4; whnf
  gi_wp2
  refine retM rfl _ false rfl hblk Ds rfl ⟨hopn.1, fun E hE => ⟨(hopn.2 E hE).1, (KeepsOthers.setCell _ _ _).same E _ (hopn.2 E hE).2 rfl⟩⟩ ⟨by rw [hbf], ?_⟩
  exact shut_below Ds w _ (hbW.setCell (p := ⟨w.heap.size + 2, 0, none⟩) (by simp) _) ⟨hopn.1, fun E hE => ⟨Nat.le_trans hb.b3.size (hopn.2 E hE).1, (KeepsOthers.setCell _ _ _).same E _ (hopn.2 E hE).2 rfl⟩⟩
end Go.Proofs.YtcnofhlgiffkjaaGreatDoor
