/- Critical. (gencrit.py) -/
import Derived.Test.YtfnhaoindehjdaaDoorCrC
import Derived.LoopIn
import Derived.OwnWalkIn
import Derived.Deep.CutRange
import Derived.Deep.RegionWith
import Derived.Deep.QuietTactic
import Derived.BigQuiet
import Derived.Laws.ResultCell
import Derived.RangeFuncWrites
import Derived.RangeFuncLeaves
import Derived.Sort.CutIn
namespace Go.Proofs.YtfnhaoindehjdaaDoor
open Go.RowKit
set_option linter.unusedVariables false
set_option linter.unusedSimpArgs false
attribute [local go_sem] Oper.semAt_some

/-- The union of the first j sets. -/
def orT (P : Pr) (j : Nat) : Nat := (P.elig.take j).foldl (· ||| ·) 0
theorem orT_succ {P : Pr} {j M : Nat} (h : P.elig[j]? = some M) : orT P (j + 1) = orT P j ||| M := by
  unfold orT
  rw [List.take_add_one, h, List.foldl_append]
  rfl
theorem orT_all {P : Pr} {n : Nat} (h : P.elig.length = n) : orT P n = unionA P := by
  unfold orT unionA
  rw [← h, List.take_length]
theorem union_user {P : Pr} (ok : PrOk P) {x : Nat} (h : x ∈ memM (unionA P)) : 1 ≤ x ∧ x ≤ 256 := by
  have hb : (unionA P).testBit x = true := memM_bit h
  rw [unionA_bit] at hb
  obtain ⟨M, hM, hx⟩ := List.any_eq_true.1 hb
  obtain ⟨k, hk⟩ := List.mem_iff_getElem?.1 hM
  have h9 : ((x : Nat) : Int) ∈ memZ (eligA P (k : Int)) := by
    unfold eligA memZ
    rw [Int.toNat_natCast, hk]
    exact List.mem_map.2 ⟨x, mem_memM hx, rfl⟩
  have := memZ_user ok h9
  omega
set_option maxHeartbeats 8000000 in
set_option maxRecDepth 100000 in
theorem crit_or {w : World} {P : Pr} {A1 A2 A3 A4 A5 : Option Addr} {n1 c1 n2 c2 n3 c3 n4 c4 n5 c5 : Nat} {gA : Nat} (pr : PrAt w w.heap.size ⟨⟨A1, n1, c1⟩, ⟨A2, n2, c2⟩, ⟨A3, n3, c3⟩, ⟨A4, n4, c4⟩, ⟨A5, n5, c5⟩⟩ P) (hn5 : n1 ≤ 5)
    (W1 : World) (low1 : Below w.heap.size w W1) (bp : Blk W1 w.heap.size 32 #[.slice A1 n1 c1, .slice A2 n2 c2, .slice A3 n3 c3, .slice A4 n4 c4, .slice A5 n5 c5]) (hgA : w.heap.size < gA) (kA : Blk W1 gA 63 #[.slice none 0 0])
    (Q : Exit → Act → World → Prop) (cx2 cx4 cx5 cx6 cx7 cx8 cx9 cx10 cx11 cx12 cx13 cx14 cx15 cx16 cx17 cx18 cx19 cx20 cx21 cx22 cx23 cx24 cx25 cx26 cx27 cx28 cx29 cx30 cx31 cx32 cx33 cx34 cx35 cx36 cx37 cx38 cx39 cx40 cx41 cx42 cx43 cx44 cx45 cx46 cx47 cx48 cx49 cx50 cx51 cx52 cx53 : Value)
    (hN : ∀ (W' : World) (A : Option Addr) (n c : Nat) (u2 u4 u5 u6 u7 u8 u9 u10 u11 u12 u13 u14 u15 u16 u17 u18 u19 u20 u21 u22 u23 u24 u25 u26 u27 u28 u29 u30 u31 u32 u33 u34 u35 u36 u37 u38 u39 u40 u41 u42 u43 u44 u45 u46 u47 u48 u49 u50 u51 u52 u53 : Value), Blk W' gA 63 #[.slice A n c] → SetAt W' W'.heap.size (.agg #[.slice A n c]) (unionA P) → Below gA W1 W' → Q .normal ⟨#[.agg #[.slice A1 n1 c1, .slice A2 n2 c2, .slice A3 n3 c3, .slice A4 n4 c4, .slice A5 n5 c5], .pointer (some ⟨w.heap.size, 0, none⟩), u2, .pointer (some ⟨gA, 0, none⟩), u4, u5, u6, u7, u8, u9, u10, u11, u12, u13, u14, u15, u16, u17, u18, u19, u20, u21, u22, u23, u24, u25, u26, u27, u28, u29, u30, u31, u32, u33, u34, u35, u36, u37, u38, u39, u40, u41, u42, u43, u44, u45, u46, u47, u48, u49, u50, u51, u52, u53], []⟩ W') :
    (critPart 3).wpIn Fence.wide 5 Tryd.prog Q ⟨#[.agg #[.slice A1 n1 c1, .slice A2 n2 c2, .slice A3 n3 c3, .slice A4 n4 c4, .slice A5 n5 c5], .pointer (some ⟨w.heap.size, 0, none⟩), cx2, .pointer (some ⟨gA, 0, none⟩), cx4, cx5, cx6, cx7, cx8, cx9, cx10, cx11, cx12, cx13, cx14, cx15, cx16, cx17, cx18, cx19, cx20, cx21, cx22, cx23, cx24, cx25, cx26, cx27, cx28, cx29, cx30, cx31, cx32, cx33, cx34, cx35, cx36, cx37, cx38, cx39, cx40, cx41, cx42, cx43, cx44, cx45, cx46, cx47, cx48, cx49, cx50, cx51, cx52, cx53], []⟩ W1 := by
  have HN := Lib.hid hN
  clear hN
  have hl1 : P.elig.length = n1 := pr.l1
  have hbi : (n1 : Int) ≤ 5 := by omega
  have HL1 := Lib.hid hl1
  clear hl1
  have y0 : W1.cell? ⟨w.heap.size, 0, none⟩ = some (.slice A1 n1 c1) := (bp.cell 0).trans rfl
  have hs0 : SetAt W1 W1.heap.size (.agg #[.slice none 0 0]) (orT P 0) := SetAt.zero W1 _ _ _
  conv => arg 4; whnf
  gi_wp2
  refine wpIn_loop (fun a W' => ∃ (j : Nat) (A : Option Addr) (n c : Nat) (u2 u4 u5 u6 u7 u8 u9 u10 u11 u12 u13 u14 u18 u19 u20 u21 u22 u23 u24 u25 u26 u27 u28 u29 u30 u31 u32 u33 u34 u35 u36 u37 u38 u39 u40 u41 u42 u43 u44 u45 u46 u47 u48 u49 u50 u51 u52 u53 : Value), (j ≤ n1 ∧ Blk W' gA 63 #[.slice A n c] ∧ SetAt W' W'.heap.size (.agg #[.slice A n c]) (orT P j) ∧ Below gA W1 W') ∧ a = ⟨#[.agg #[.slice A1 n1 c1, .slice A2 n2 c2, .slice A3 n3 c3, .slice A4 n4 c4, .slice A5 n5 c5], .pointer (some ⟨w.heap.size, 0, none⟩), u2, .pointer (some ⟨gA, 0, none⟩), u4, u5, u6, u7, u8, u9, u10, u11, u12, u13, u14, .slice A1 n1 c1, .int .i64 (n1 : Int), .int .i64 (j : Int), u18, u19, u20, u21, u22, u23, u24, u25, u26, u27, u28, u29, u30, u31, u32, u33, u34, u35, u36, u37, u38, u39, u40, u41, u42, u43, u44, u45, u46, u47, u48, u49, u50, u51, u52, u53], []⟩) (fun a _ => n1 - (intOf (a.tmps.getD 17 undef)).toNat) ?start ?round
  case start => exact ⟨0, none, 0, 0, _, _, _, _, _, _, _, _, _, _, _, _, _, _, _, _, _, _, _, _, _, _, _, _, _, _, _, _, _, _, _, _, _, _, _, _, _, _, _, _, _, _, _, _, _, _, _, _, ⟨Nat.zero_le _, kA, hs0, Below.refl _ _⟩, rfl⟩
  case round =>
    clear kA y0 hs0
    intro a9 wr hinv
    obtain ⟨j, hinv⟩ := hinv
    obtain ⟨A, hinv⟩ := hinv
    obtain ⟨n, hinv⟩ := hinv
    obtain ⟨c, hinv⟩ := hinv
    obtain ⟨u2, hinv⟩ := hinv
    obtain ⟨u4, hinv⟩ := hinv
    obtain ⟨u5, hinv⟩ := hinv
    obtain ⟨u6, hinv⟩ := hinv
    obtain ⟨u7, hinv⟩ := hinv
    obtain ⟨u8, hinv⟩ := hinv
    obtain ⟨u9, hinv⟩ := hinv
    obtain ⟨u10, hinv⟩ := hinv
    obtain ⟨u11, hinv⟩ := hinv
    obtain ⟨u12, hinv⟩ := hinv
    obtain ⟨u13, hinv⟩ := hinv
    obtain ⟨u14, hinv⟩ := hinv
    obtain ⟨u18, hinv⟩ := hinv
    obtain ⟨u19, hinv⟩ := hinv
    obtain ⟨u20, hinv⟩ := hinv
    obtain ⟨u21, hinv⟩ := hinv
    obtain ⟨u22, hinv⟩ := hinv
    obtain ⟨u23, hinv⟩ := hinv
    obtain ⟨u24, hinv⟩ := hinv
    obtain ⟨u25, hinv⟩ := hinv
    obtain ⟨u26, hinv⟩ := hinv
    obtain ⟨u27, hinv⟩ := hinv
    obtain ⟨u28, hinv⟩ := hinv
    obtain ⟨u29, hinv⟩ := hinv
    obtain ⟨u30, hinv⟩ := hinv
    obtain ⟨u31, hinv⟩ := hinv
    obtain ⟨u32, hinv⟩ := hinv
    obtain ⟨u33, hinv⟩ := hinv
    obtain ⟨u34, hinv⟩ := hinv
    obtain ⟨u35, hinv⟩ := hinv
    obtain ⟨u36, hinv⟩ := hinv
    obtain ⟨u37, hinv⟩ := hinv
    obtain ⟨u38, hinv⟩ := hinv
    obtain ⟨u39, hinv⟩ := hinv
    obtain ⟨u40, hinv⟩ := hinv
    obtain ⟨u41, hinv⟩ := hinv
    obtain ⟨u42, hinv⟩ := hinv
    obtain ⟨u43, hinv⟩ := hinv
    obtain ⟨u44, hinv⟩ := hinv
    obtain ⟨u45, hinv⟩ := hinv
    obtain ⟨u46, hinv⟩ := hinv
    obtain ⟨u47, hinv⟩ := hinv
    obtain ⟨u48, hinv⟩ := hinv
    obtain ⟨u49, hinv⟩ := hinv
    obtain ⟨u50, hinv⟩ := hinv
    obtain ⟨u51, hinv⟩ := hinv
    obtain ⟨u52, hinv⟩ := hinv
    obtain ⟨u53, hinv⟩ := hinv
    obtain ⟨⟨hj, hB, hS0, hb⟩, ha⟩ := hinv
    subst ha
    by_cases hlt : j < n1
    · have hlt' : (j : Int) < (n1 : Int) := by omega
      obtain ⟨M, hM⟩ : ∃ M, P.elig[j]? = some M := ⟨_, List.getElem?_eq_getElem (by rw [HL1.out]; exact hlt)⟩
      obtain ⟨b, o, X, rfl, hb2, hcX0, hS⟩ := pr.e1 j M hM
      obtain ⟨Av, nv, cv, hXe, hnc, hnv, hlv, hsvv, hrv⟩ := id hS
      obtain rfl : X = .slice Av nv cv := by simpa using hXe
      clear hXe
      have loww := low1.trans (hb.mono (Nat.le_of_lt hgA))
      have hcX : wr.cell? ⟨b, o + j, none⟩ = some (.slice Av nv cv) := (loww.cell (p := ⟨b, o + j, none⟩) hb2).trans hcX0
      have hSw : SetAt wr wr.heap.size (.agg #[.slice Av nv cv]) M := (hS.below loww).more loww.size
      have hor := orT_succ hM
      obtain ⟨O, hO⟩ : ∃ O, Hid (O = orT P j) := ⟨_, Lib.hid rfl⟩
      rw [← hO.out] at hS0 hor
      have HOR := Lib.hid hor
      have HS := Lib.hid hSw
      have HS0 := Lib.hid hS0
      have HB := Lib.hid hB
      clear hM hlv pr hS hsvv hrv hSw hcX0 hB hS0 hor loww
      gi_upto_region 7 with (fail)
      have bA := bAl (Below.refl wr.heap.size wr) (.cells #[.slice Av nv cv] 63)
      have hSv := HS.out.on bA
      have hSo := HS0.out.on bA
      have kB := HB.out.on bA
      have ks := Blk.new wr 63 #[.slice Av nv cv]
      have hgr : gA < wr.heap.size := HB.out.lt
      have b2 := hb.trans (bA.mono (Nat.le_of_lt hgr))
      clear bA HS HS0 HB hcX hb
      generalize (wr.alloc (.cells #[.slice Av nv cv] 63)) = W2 at hSv hSo kB ks b2 ⊢
      have z0 : W2.cell? ⟨gA, 0, none⟩ = some (.slice A n c) := (kB.cell 0).trans rfl
      have z1 : W2.cell? ⟨wr.heap.size, 0, none⟩ = some (.slice Av nv cv) := (ks.cell 0).trans rfl
      have hor := or_any _ _ _ _ W2 hSo hSv
      gi_wp2
      refine ⟨trivial, (callsIn_wide.2 hor).mono ?_⟩
      rintro e W3 ⟨v3, rfl, s3, b3⟩
      obtain ⟨A3', n3', c3', rfl, s3'⟩ : ∃ A n c, v3 = .agg #[.slice A n c] ∧ SetAt W3 W3.heap.size (.agg #[.slice A n c]) (O ||| M) := by
        obtain ⟨A, n, c, e, h1, h2, h3, h4, h5⟩ := s3
        exact ⟨A, n, c, e, ⟨A, n, c, rfl, h1, h2, h3, h4, h5⟩⟩
      have kB3 := kB.on b3
      have b23 := b2.trans (b3.mono (Nat.le_of_lt kB.lt))
      have f3 := kB3.frozen 0
      have z3 : W3.cell? ⟨gA, 0, none⟩ = some (.slice A n c) := (kB3.cell 0).trans rfl
      have R8 : Hid (j + 1 ≤ n1 ∧ Blk (W3.setCell ⟨gA, 0, none⟩ (.slice A3' n3' c3')) gA 63 #[.slice A3' n3' c3'] ∧ SetAt (W3.setCell ⟨gA, 0, none⟩ (.slice A3' n3' c3')) (W3.setCell ⟨gA, 0, none⟩ (.slice A3' n3' c3')).heap.size (.agg #[.slice A3' n3' c3']) (orT P (j + 1)) ∧ Below gA W1 (W3.setCell ⟨gA, 0, none⟩ (.slice A3' n3' c3'))) := Lib.hid ⟨hlt, by simpa using kB3.put 0 (.slice A3' n3' c3'), by rw [HOR.out, setCell_size]; exact s3'.far kB3 (by decide), b23.setCell (p := ⟨gA, 0, none⟩) (Nat.le_refl _) _⟩
      clear z0 z1 hor s3 s3' hSv hSo kB ks b2 b3 kB3 b23
      gi_wp2
      exact ⟨⟨j + 1, A3', n3', c3', _, _, _, _, _, _, _, _, _, _, _, _, _, _, _, _, _, _, _, _, _, _, _, _, _, _, _, _, _, _, _, _, _, _, _, _, _, _, _, _, _, _, _, _, _, _, _, _, R8.out, rfl⟩, by simp [intOf]; omega⟩
    · obtain rfl : j = n1 := by omega
      have hlt' : ¬ (j : Int) < (j : Int) := by omega
      have hS0 : SetAt wr wr.heap.size (.agg #[.slice A n c]) (unionA P) := by rw [← orT_all HL1.out]; exact hS0
      gi_wp2
      exact HN.out wr A n c _ _ _ _ _ _ _ _ _ _ _ _ _ _ _ _ _ _ _ _ _ _ _ _ _ _ _ _ _ _ _ _ _ _ _ _ _ _ _ _ _ _ _ _ _ _ _ _ _ _ _ hB hS0 hb
end Go.Proofs.YtfnhaoindehjdaaDoor
