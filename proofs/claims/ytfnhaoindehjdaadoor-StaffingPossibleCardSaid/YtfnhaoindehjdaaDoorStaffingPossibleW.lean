/- The walk of StaffingPossible. (genposs.py) -/
import Derived.Test.YtfnhaoindehjdaaDoorMade
import Derived.Test.YtfnhaoindehjdaaDoorPoQ
import Derived.Test.YtfnhaoindehjdaaDoorAwS
import Derived.Test.YtfnhaoindehjdaaDoorCrE
import Derived.Test.YtfnhaoindehjdaaDoorPf
import Derived.Test.YtfnhaoindehjdaaDoorPk
import Derived.Deep.CutBlock
namespace Go.Proofs.YtfnhaoindehjdaaDoor.staffingPossible
open Go.RowKit
set_option linter.unusedVariables false
set_option linter.unusedSimpArgs false

/-- What lies in a cell. -/
def cellOf (w : World) : Value → Value
  | .pointer (some a) => (w.cell? a).getD undef
  | _ => undef
theorem cellOf_eq {w : World} {g : Nat} {v : Value} (h : w.cell? ⟨g, 0, none⟩ = some v) : cellOf w (.pointer (some ⟨g, 0, none⟩)) = v := by
  show (w.cell? _).getD undef = v
  rw [h]
  rfl
set_option maxHeartbeats 32000000 in
set_option maxRecDepth 100000 in
theorem walk (r : RwV) (R : Rw) (w : World) (h : RwAt w w.heap.size r R) (hT : Tab w) :
    Calls Tryd.prog 6 #[r.v R] w fun e w' => e = .returned (.bool true) ∧ Below w.heap.size w w' := by
  have hg0 : 0 < w.heap.size := World.block_lt_of_cell? w _ (hT 0 (by omega))
  have mk := fun W (hw : Below w.heap.size w W) => made_any r R W (h.on hw)
  have mf := mkP_few R
  have hc := chkP_mkP R
  have sm := mkP_sm R
  have h4 := mkP_four R
  have hsl := mkP_sols R
  obtain ⟨P, hP⟩ : ∃ P, Hid (P = mkP R) := ⟨_, Lib.hid rfl⟩
  rw [← hP.out] at mf mk hc sm h4 hsl
  have hf128 : Few128 P := by rw [hP.out]; exact few128_of (mkP_32 R)
  have hpo := fun q W (hW : Below w.heap.size w W) (h1 : PrAt W W.heap.size q P) => possible_any q P W h1 (hT.below hW hg0) (fun _ => sm)
  have hcr := fun q W (hW : Below w.heap.size w W) (h1 : PrAt W W.heap.size q P) => critical_any q P W h1 (hT.below hW hg0) (fun _ => sm)
  rw [show possR P = (List.range P.elig.length).map (possK P) from if_pos hc] at hpo
  rw [critL_all hc hf128 hsl] at hcr
  have HPK := Lib.hid (fun k hk => possK_all (k := k) hc hf128 hsl hk)
  have HAL := Lib.hid (fun l hl => allL_len (l := l) hc hsl hl)
  clear hf128
  obtain ⟨⟨A1, n1, c1⟩, ⟨A2, n2, c2⟩, ⟨A3, n3, c3⟩, ⟨A4, n4, c4⟩, ⟨A5, n5, c5⟩⟩ := r
  obtain ⟨st, hst⟩ : ∃ st, Hid (st = R.steps) := ⟨_, Lib.hid rfl⟩
  unfold RwV.v Sl.v at mk ⊢
  simp only [] at mk ⊢
  rw [← hst.out] at mk ⊢
  have SM := Lib.hid sm
  have HC := Lib.hid hc
  have H4 := Lib.hid h4
  have HSL := Lib.hid hsl
  have MF := Lib.hid mf
  clear h mf sm hc h4 hsl
  go_enter Tryd.func6, Tryd.ntmps6
  go_wp2_with fail
  have r1 := Blk.new w 25 #[.int .u8 (st : Int), .slice A1 n1 c1, .slice A2 n2 c2, .slice A3 n3 c3, .slice A4 n4 c4, .slice A5 n5 c5]
  have b1 := bAl (Below.refl w.heap.size w) (.cells #[.int .u8 (st : Int), .slice A1 n1 c1, .slice A2 n2 c2, .slice A3 n3 c3, .slice A4 n4 c4, .slice A5 n5 c5] 25)
  generalize (w.alloc (.cells #[.int .u8 (st : Int), .slice A1 n1 c1, .slice A2 n2 c2, .slice A3 n3 c3, .slice A4 n4 c4, .slice A5 n5 c5] 25)) = W0 at r1 b1 ⊢
  refine (awake_any W0 (hT.below b1 hg0)).mono ?_
  rintro e W1 ⟨rfl, ba⟩
  have r2 := r1.on ba
  have b2 := b1.trans (ba.mono b1.size)
  clear r1 b1 ba
  have x0 : W1.cell? ⟨w.heap.size, 0, none⟩ = some (.int .u8 (st : Int)) := (r2.cell 0).trans rfl
  have x1 : W1.cell? ⟨w.heap.size, 1, none⟩ = some (.slice A1 n1 c1) := (r2.cell 1).trans rfl
  have x2 : W1.cell? ⟨w.heap.size, 2, none⟩ = some (.slice A2 n2 c2) := (r2.cell 2).trans rfl
  have x3 : W1.cell? ⟨w.heap.size, 3, none⟩ = some (.slice A3 n3 c3) := (r2.cell 3).trans rfl
  have x4 : W1.cell? ⟨w.heap.size, 4, none⟩ = some (.slice A4 n4 c4) := (r2.cell 4).trans rfl
  have x5 : W1.cell? ⟨w.heap.size, 5, none⟩ = some (.slice A5 n5 c5) := (r2.cell 5).trans rfl
  go_wp2_with fail
  refine (mk W1 b2).mono ?_
  rintro e W2 ⟨⟨⟨E1, i1, j1⟩, ⟨E2, i2, j2⟩, ⟨E3, i3, j3⟩, ⟨E4, i4, j4⟩, ⟨E5, i5, j5⟩⟩, ⟨⟨B1, m1, d1⟩, ⟨B2, m2, d2⟩, ⟨B3, m3, d3⟩, ⟨B4, m4, d4⟩, ⟨B5, m5, d5⟩⟩, AL, nL, cL, rfl, ⟨xs, ms, hq⟩, hpl, oL, hn6, bw2⟩
  have b3 := b2.trans (bw2.mono b2.size)
  simp only [PrV.v, Sl.v]
  clear x0 x1 x2 x3 x4 x5 r2 b2 mk
  have HPL := Lib.hid hpl
  clear hpl
  go_upto_region 4 with (fail)
  have k4 : Blk ((W2.alloc (.cells #[.slice E1 i1 j1, .slice E2 i2 j2, .slice E3 i3 j3, .slice E4 i4 j4, .slice E5 i5 j5] 32)).alloc (.cells #[.slice B1 m1 d1, .slice B2 m2 d2, .slice B3 m3 d3, .slice B4 m4 d4, .slice B5 m5 d5] 36)) W2.heap.size 32 #[.slice E1 i1 j1, .slice E2 i2 j2, .slice E3 i3 j3, .slice E4 i4 j4, .slice E5 i5 j5] := Blk.alloc (Blk.mk' rfl) _
  have bk : Below W2.heap.size W2 ((W2.alloc (.cells #[.slice E1 i1 j1, .slice E2 i2 j2, .slice E3 i3 j3, .slice E4 i4 j4, .slice E5 i5 j5] 32)).alloc (.cells #[.slice B1 m1 d1, .slice B2 m2 d2, .slice B3 m3 d3, .slice B4 m4 d4, .slice B5 m5 d5] 36)) := bAl (bAl (Below.refl _ _) _) _
  have kW : Blk ((W2.alloc (.cells #[.slice E1 i1 j1, .slice E2 i2 j2, .slice E3 i3 j3, .slice E4 i4 j4, .slice E5 i5 j5] 32)).alloc (.cells #[.slice B1 m1 d1, .slice B2 m2 d2, .slice B3 m3 d3, .slice B4 m4 d4, .slice B5 m5 d5] 36)) (W2.heap.size + 1) 36 #[.slice B1 m1 d1, .slice B2 m2 d2, .slice B3 m3 d3, .slice B4 m4 d4, .slice B5 m5 d5] := Blk.mk' (by simp)
  generalize ((W2.alloc (.cells #[.slice E1 i1 j1, .slice E2 i2 j2, .slice E3 i3 j3, .slice E4 i4 j4, .slice E5 i5 j5] 32)).alloc (.cells #[.slice B1 m1 d1, .slice B2 m2 d2, .slice B3 m3 d3, .slice B4 m4 d4, .slice B5 m5 d5] 36)) = W4 at k4 bk kW ⊢
  have b4 := b3.trans (bk.mono b3.size)
  have oq4 := hq.on bk
  have hQ4 := oq4.at
  have oL4 := oL.on bk
  have HLN := Lib.hid oL.len
  clear hq oL b3 bk bw2
  have x0 : W4.cell? ⟨W2.heap.size, 0, none⟩ = some (.slice E1 i1 j1) := (k4.cell 0).trans rfl
  have x1 : W4.cell? ⟨W2.heap.size, 1, none⟩ = some (.slice E2 i2 j2) := (k4.cell 1).trans rfl
  have x2 : W4.cell? ⟨W2.heap.size, 2, none⟩ = some (.slice E3 i3 j3) := (k4.cell 2).trans rfl
  have x3 : W4.cell? ⟨W2.heap.size, 3, none⟩ = some (.slice E4 i4 j4) := (k4.cell 3).trans rfl
  have x4 : W4.cell? ⟨W2.heap.size, 4, none⟩ = some (.slice E5 i5 j5) := (k4.cell 4).trans rfl
  have hpo := hpo ⟨⟨E1, i1, j1⟩, ⟨E2, i2, j2⟩, ⟨E3, i3, j3⟩, ⟨E4, i4, j4⟩, ⟨E5, i5, j5⟩⟩ W4 b4 hQ4
  have hcr := hcr ⟨⟨E1, i1, j1⟩, ⟨E2, i2, j2⟩, ⟨E3, i3, j3⟩, ⟨E4, i4, j4⟩, ⟨E5, i5, j5⟩⟩
  unfold PrV.v Sl.v at hpo hcr
  simp only [] at hpo hcr
  obtain ⟨ls, hls⟩ : ∃ ls, Hid (ls = allL P) := ⟨_, Lib.hid rfl⟩
  obtain ⟨cf, hcf⟩ : ∃ cf : Int → Bool, Hid (cf = inAll ls) := ⟨_, Lib.hid rfl⟩
  rw [← hls.out, ← hcf.out] at hcr
  rw [← hls.out] at oL4
  have HNL := Lib.hid oL4.len
  have hnm : P.elig.length = m1 := HPL.out.symm
  have hm5 : m1 ≤ 5 := by rw [← hnm]; exact MF.out.e1
  obtain ⟨pl, hpl⟩ : ∃ pl, Hid (pl = (List.range P.elig.length).map (possK P)) := ⟨_, Lib.hid rfl⟩
  rw [← hpl.out] at hpo
  have hn61 : (nL : Int) ≤ 10000 := by omega
  have HNM := Lib.hid hnm
  clear hnm HLN hT
  go_wp2_with fail
  refine hpo.mono ?_
  rintro e W5 ⟨AG, nG, cG, rfl, oG, b5⟩
  have hnG : m1 = nG := by rw [← oG.len, hpl.out, List.length_map, List.length_range]; exact HNM.out.symm
  subst hnG
  have b6 := b4.trans (b5.mono b4.size)
  have hQ5 := hQ4.on b5
  have oL5 := oL4.on b5
  have k5 := k4.on b5
  have kW5 := kW.on b5
  have yW : W5.cell? ⟨W2.heap.size + 1, 0, none⟩ = some (.slice B1 m1 d1) := (kW5.cell 0).trans rfl
  have hz5 := b6.size
  clear hpo b5 b4 hQ4 oL4 k4 kW kW5 x0 x1 x2 x3 x4 oq4
  go_wp2_with fail
  go_loopw [7, 8] (fun v7 v8 wr => ∃ (i n c : Nat) (A : Option Addr), i ≤ 6 ∧ v8 = .int .i64 ((i : Int) + 1) ∧ v7 = .slice A n c ∧ n ≤ i ∧ OwnI wr W5.heap.size (.slice A n c) n ((six.take i).filter cf) ∧ Below W5.heap.size W5 wr) (fun _ v8 _ => 7 - (intOf v8).toNat)
  case atStart => exact ⟨0, 0, 0, none, Nat.zero_le _, rfl, rfl, Nat.le_refl _, OwnI.nil _ _, Below.refl _ _⟩
  case round =>
    obtain ⟨i, n, c, A, hi, rfl, rfl, hni, oI, bI⟩ := hrel
    by_cases hi6 : i < 6
    · have hi7 : (i : Int) + 1 < 7 := by omega
      have oLr := oL5.on bI
      have HT := Lib.hid (six_take hi6)
      have hb0 : Hid (decide (0 < nL) = (decide (0 < ls.length) && (ls.take 0).all fun l => l.contains (((i + 1 : Nat) : Nat) : Int))) := Lib.hid (by rw [HNL.out]; simp)
      obtain ⟨bz, hbz⟩ : ∃ bz, decide (0 < nL) = bz := ⟨_, rfl⟩
      rw [hbz] at hb0
      go_wp2_with fail
      go_loopw [9, 40] (fun v9 v40 wq => ∃ (j : Nat) (bj : Bool), j ≤ nL ∧ v40 = .int .i64 (j : Int) ∧ v9 = .bool bj ∧ Hid (bj = (decide (0 < ls.length) && (ls.take j).all fun l => l.contains (((i + 1 : Nat) : Nat) : Int))) ∧ wr = wq) (fun _ v40 _ => nL - (intOf v40).toNat)
      case atStart => exact ⟨0, bz, Nat.zero_le _, rfl, rfl, hb0, rfl⟩
      case round =>
        clear hbz hb0
        obtain ⟨j, bj, hj, rfl, rfl, HB, rfl⟩ := hrel
        by_cases hjn : j < nL
        · have hjn' : (j : Int) < (nL : Int) := by omega
          obtain ⟨l, hl⟩ : ∃ l, ls[j]? = some l := ⟨_, List.getElem?_eq_getElem (by rw [HNL.out]; exact hjn)⟩
          obtain ⟨b, o, A', m', c', rfl, hb2, hcell, hO⟩ := oLr.get hl
          have hll : l.length ≤ 1000000 := by rw [HAL.out l (by rw [← hls.out]; exact List.mem_of_getElem? hl), HNM.out]; omega
          have hco := contI_any A' m' c' l ((i : Int) + 1) wr hO.sees hO.len (by rw [← hO.len]; exact hll)
          have hnext : Hid ((decide (0 < ls.length) && (ls.take (j + 1)).all fun l => l.contains (((i + 1 : Nat) : Nat) : Int)) = (bj && l.contains ((i : Int) + 1))) := Lib.hid (by
            rw [HB.out, List.take_add_one, hl]; simp [Bool.and_assoc])
          obtain ⟨bc, hbc⟩ : ∃ bc, Hid (bc = l.contains ((i : Int) + 1)) := ⟨_, Lib.hid rfl⟩
          rw [← hbc.out] at hco hnext
          clear hO hl hb2 hll
          cases bj
          · go_wp2_with fail
            go_roundw
            case rel => exact ⟨j + 1, false, by omega, by go_num, rfl, Lib.hid (by rw [hnext.out]; rfl), by first | rfl | trivial⟩
            case measure => simp [intOf]; omega
          · go_wp2_with fail
            refine hco.mono ?_
            rintro e w9 ⟨rfl, rfl⟩
            go_wp2_with fail
            go_roundw
            case rel => exact ⟨j + 1, bc, by omega, by go_num, rfl, Lib.hid (by rw [hnext.out]; rfl), by first | rfl | trivial⟩
            case measure => simp [intOf]; omega
        · obtain rfl : j = nL := by omega
          have hcfi : Hid (cf (((i + 1 : Nat) : Nat) : Int) = bj) := Lib.hid (by
            rw [hcf.out, HB.out, List.take_of_length_le (by rw [HNL.out]; exact Nat.le_refl _)]; rfl)
          cases bj
          · have hfil : Hid ((six.take (i + 1)).filter cf = (six.take i).filter cf) := Lib.hid (by rw [HT.out, List.filter_append, List.filter_cons, hcfi.out]; simp)
            clear HT HB hcfi
            go_wp2_with fail
            go_roundw
            case rel => exact ⟨i + 1, n, c, A, by omega, by go_num, rfl, by omega, by rw [hfil.out]; exact oI, bI⟩
            case measure => simp [intOf]; omega
          · have hfil : Hid ((six.take (i + 1)).filter cf = (six.take i).filter cf ++ [(i : Int) + 1]) := Lib.hid (by rw [HT.out, List.filter_append, List.filter_cons, hcfi.out]; simp)
            clear HT HB hcfi
            have hzr := bI.size
            go_wp2_with (at_builtin; refine wpL_appI1 _ rfl (.tmp 52) (.tmp 54) rfl wr W5.heap.size _ n _ rfl oI ((i : Int) + 1) rfl _ rfl rfl (by omega) hzr (n + 1) rfl ?_; intro A9 c9 w9 o9 g9 b9)
            go_roundw
            case rel => exact ⟨i + 1, n + 1, c9, A9, by omega, by go_num, rfl, by omega, by rw [hfil.out]; exact o9, bI.trans b9⟩
            case measure => simp [intOf]; omega
    · have hi6x : i = 6 := by omega
      rw [hi6x, show six.take 6 = six from rfl] at oI
      have hnlt : ¬ (i : Int) + 1 < 7 := by omega
      have hn6b : n ≤ 6 := by omega
      clear hi6x hi hni hi6
      have bI6 := bI
      have oL6 := oL5.on bI
      have oG6 := oG.on bI
      have hQ6 := hQ5.on bI
      have k6 := k5.on bI
      have b7 := b6.trans (bI.mono hz5)
      have hz6 := b7.size
      obtain ⟨fc, hfc⟩ : ∃ fc, Hid (fc = six.filter cf) := ⟨_, Lib.hid rfl⟩
      rw [← hfc.out] at oI hcr
      clear oL5 oG hQ5 k5 b6 bI bI6 yW hz5
      generalize wr = W6 at oI oL6 oG6 hQ6 k6 b7 hz6 ⊢
      have hbl : ∀ W, Below W6.heap.size W6 W → Below w.heap.size w W := fun W hW => b7.trans (hW.mono hz6)
      go_wp2_with fail
      go_loopw [58] (fun v58 wr => ∃ k : Nat, k ≤ m1 ∧ v58 = .int .i64 (k : Int) ∧ Below W6.heap.size W6 wr) (fun v58 _ => m1 - (intOf v58).toNat)
      case atStart => exact ⟨0, Nat.zero_le _, rfl, Below.refl _ _⟩
      case round =>
        obtain ⟨k, hk, rfl, bk⟩ := hrel
        by_cases hkm : k < m1
        · have hkm' : (k : Int) < (m1 : Int) := by omega
          have hkP : k < P.elig.length := by rw [HNM.out]; exact hkm
          have HPO := Lib.hid (HPK.out k hkP)
          rw [← hls.out] at HPO
          have hpk : pl[k]? = some (possK P k) := by rw [hpl.out, List.getElem?_map, List.getElem?_range hkP]; rfl
          obtain ⟨hf, hhf⟩ : ∃ hf : Int → Bool, Hid (hf = hasU ls k) := ⟨_, Lib.hid rfl⟩
          rw [← hhf.out] at HPO
          have HLK : Hid (∀ l ∈ ls, k < l.length ∧ l.length ≤ 1000000) := Lib.hid fun l hl => by
            have h9 := (HAL.out l (by rw [← hls.out]; exact hl)).trans HNM.out
            omega
          obtain ⟨lk, hlk⟩ : ∃ lk, Hid (lk = possK P k) := ⟨_, Lib.hid rfl⟩
          rw [← hlk.out] at HPO hpk
          have HPKk := Lib.hid hpk
          clear hpk
          go_wp2_with fail
          have k12 : Blk ((wr.alloc (.cells #[.int .i64 (k : Int)] 3)).alloc (.cells #[.int .i64 1] 3)) wr.heap.size 3 #[.int .i64 (k : Int)] := Blk.alloc (Blk.mk' rfl) _
          have k14 : Blk ((wr.alloc (.cells #[.int .i64 (k : Int)] 3)).alloc (.cells #[.int .i64 1] 3)) (wr.heap.size + 1) 3 #[.int .i64 1] := Blk.mk' (by simp)
          have b2 : Below wr.heap.size wr ((wr.alloc (.cells #[.int .i64 (k : Int)] 3)).alloc (.cells #[.int .i64 1] 3)) := bAl (bAl (Below.refl _ _) _) _
          generalize ((wr.alloc (.cells #[.int .i64 (k : Int)] 3)).alloc (.cells #[.int .i64 1] 3)) = W7 at k12 k14 b2 ⊢
          have bk7 := bJoin bk b2
          have oL7 := oL6.on bk7
          obtain ⟨gk, hgk⟩ : ∃ gk, gk = wr.heap.size := ⟨_, rfl⟩
          rw [← hgk] at k12 k14 ⊢
          clear hgk
          go_loopw [13, 14] (fun v13 v14 wq => ∃ (i n c g : Nat) (A : Option Addr), i ≤ 6 ∧ v14 = .pointer (some ⟨g, 0, none⟩) ∧ v13 = .slice A n c ∧ n ≤ i ∧ OwnI wq W7.heap.size (.slice A n c) n ((six.take i).filter hf) ∧ Blk wq g 3 #[.int .i64 ((i : Int) + 1)] ∧ (Value.slice A n c).ownBlock ≠ some g ∧ Below W7.heap.size W7 wq) (fun _ v14 wq => 7 - (intOf (cellOf wq v14)).toNat)
          case atStart => exact ⟨0, 0, 0, gk + 1, none, Nat.zero_le _, rfl, rfl, Nat.le_refl _, OwnI.nil _ _, k14, by simp [Value.ownBlock], Below.refl _ _⟩
          case round =>
            obtain ⟨i, n, c, g, A, hi, rfl, rfl, hni, oR, kg, hne, bR⟩ := hrel
            have zg : wr.cell? ⟨g, 0, none⟩ = some (.int .i64 ((i : Int) + 1)) := (kg.cell 0).trans rfl
            have zk : wr.cell? ⟨gk, 0, none⟩ = some (.int .i64 (k : Int)) := ((k12.on bR).cell 0).trans rfl
            by_cases hi6 : i < 6
            · have hi7 : (i : Int) + 1 < 7 := by omega
              have HT := Lib.hid (six_take hi6)
              have hcf9 := cf_pos AL nL cL k _ ls ((i : Int) + 1) gk g wr zk zg (oL7.on bR) (by omega) HLK.out
              rw [← hhf.out] at hcf9
              obtain ⟨bc, hbc⟩ : ∃ bc, Hid (hf ((i : Int) + 1) = bc) := ⟨_, Lib.hid rfl⟩
              rw [hbc.out] at hcf9
              clear HPO HPKk
              have hlt7 := bR.size
              have E2 : Hid (cellOf wr (.pointer (some ⟨g, 0, none⟩)) = .int .i64 ((i : Int) + 1)) := Lib.hid (cellOf_eq zg)
              go_wp2_with fail
              refine hcf9.mono ?_
              rintro e w8 ⟨rfl, q, rfl⟩
              have bq : Below wr.heap.size wr (wr.drewN q) := below_drewN (Below.refl _ _) q
              have oD := oR.on bq
              have kD := kg.on bq
              have bD := bJoin bR bq
              clear hcf9 oR kg bR zg zk
              generalize wr.drewN q = Wd at oD kD bD ⊢
              have zd : Wd.cell? ⟨g, 0, none⟩ = some (.int .i64 ((i : Int) + 1)) := (kD.cell 0).trans rfl
              have hzd := bD.size
              cases bc
              · have hfil : Hid ((six.take (i + 1)).filter hf = (six.take i).filter hf) := Lib.hid (by rw [HT.out, List.filter_append, List.filter_cons, show hf ((i + 1 : Nat) : Int) = false from hbc.out]; simp)
                clear HT hbc
                go_wp2_with fail
                have kN2 := Blk.new Wd 3 #[.int .i64 ((i : Int) + 1 + 1)]
                have oN : OwnI (Wd.alloc (.cells #[.int .i64 ((i : Int) + 1 + 1)] 3)) W7.heap.size (.slice A n c) n ((six.take i).filter hf) := OwnI.alloc oD _
                have hne2 : (Value.slice A n c).ownBlock ≠ some Wd.heap.size := fun e => Nat.lt_irrefl _ (World.ownsRow.lt oD _ e).2
                have E1 : Hid (cellOf (Wd.alloc (.cells #[.int .i64 ((i : Int) + 1 + 1)] 3)) (.pointer (some ⟨Wd.heap.size, 0, none⟩)) = .int .i64 ((i : Int) + 1 + 1)) := Lib.hid (cellOf_eq ((kN2.cell 0).trans rfl))
                have bN2 : Below W7.heap.size W7 (Wd.alloc (.cells #[.int .i64 ((i : Int) + 1 + 1)] 3)) := bAl bD _
                go_roundw
                case rel => exact ⟨i + 1, n, c, Wd.heap.size, A, by omega, rfl, rfl, by omega, by rw [hfil.out]; exact oN, by simpa using kN2, hne2, bN2⟩
                case measure => rw [E1.out, E2.out]; simp [intOf]; omega
              · have hfil : Hid ((six.take (i + 1)).filter hf = (six.take i).filter hf ++ [(i : Int) + 1]) := Lib.hid (by rw [HT.out, List.filter_append, List.filter_cons, show hf ((i + 1 : Nat) : Int) = true from hbc.out]; simp)
                clear HT hbc
                go_wp2_with (at_builtin; refine wpL_appI1k _ rfl (.tmp 68) (.tmp 70) rfl Wd W7.heap.size _ n _ rfl oD ((i : Int) + 1) rfl _ rfl rfl (by omega) hzd (n + 1) rfl ?_; intro A9 c9 w9 o9 g9 b9 k9; have kg9 := kD.grown g9 hne; have z9 : w9.cell? ⟨g, 0, none⟩ = some (.int .i64 ((i : Int) + 1)) := (kg9.cell 0).trans rfl)
                have bw9 := bD.trans b9
                have hz9 := bw9.size
                have kN2 := Blk.new w9 3 #[.int .i64 ((i : Int) + 1 + 1)]
                have oN : OwnI (w9.alloc (.cells #[.int .i64 ((i : Int) + 1 + 1)] 3)) W7.heap.size (.slice A9 (n + 1) c9) (n + 1) ((six.take i).filter hf ++ [(i : Int) + 1]) := OwnI.alloc o9 _
                have hne2 : (Value.slice A9 (n + 1) c9).ownBlock ≠ some w9.heap.size := fun e => Nat.lt_irrefl _ (World.ownsRow.lt o9 _ e).2
                have E1 : Hid (cellOf (w9.alloc (.cells #[.int .i64 ((i : Int) + 1 + 1)] 3)) (.pointer (some ⟨w9.heap.size, 0, none⟩)) = .int .i64 ((i : Int) + 1 + 1)) := Lib.hid (cellOf_eq ((kN2.cell 0).trans rfl))
                have bN2 : Below W7.heap.size W7 (w9.alloc (.cells #[.int .i64 ((i : Int) + 1 + 1)] 3)) := bAl bw9 _
                go_roundw
                case rel => exact ⟨i + 1, n + 1, c9, w9.heap.size, A9, by omega, rfl, rfl, by omega, by rw [hfil.out]; exact oN, by simpa using kN2, hne2, bN2⟩
                case measure => rw [E1.out, E2.out]; simp [intOf]; omega
            · obtain rfl : i = 6 := by omega
              rw [show six.take 6 = six from rfl, ← HPO.out] at oR
              have bkr := bJoin bk7 bR
              have oGr := oG6.on bkr
              obtain ⟨b, o, A', m', c', rfl, hb2, hcell, hO⟩ := oGr.get HPKk.out
              have hnl := oR.len
              have heq := eqT (W := wr) (c := c') (c2 := c) (l := lk) hO.sees oR.sees hO.len hnl (by rw [← hO.len]; omega)
              clear hO hb2
              go_wp2_with fail
              refine heq.mono ?_
              rintro e w8 ⟨rfl, q, rfl⟩
              go_wp2_with fail
              go_roundw
              case rel => exact ⟨k + 1, by omega, by go_num, below_drewN bkr q⟩
              case measure => simp [intOf]; omega
        · obtain rfl : k = m1 := by omega
          have b9 := hbl _ bk
          have hQ9 := hQ6.on bk
          have k9 := k6.on bk
          have oF := oI.on bk
          have hcr := hcr wr b9 hQ9
          have x0 : wr.cell? ⟨W2.heap.size, 0, none⟩ = some (.slice E1 i1 j1) := (k9.cell 0).trans rfl
          have x1 : wr.cell? ⟨W2.heap.size, 1, none⟩ = some (.slice E2 i2 j2) := (k9.cell 1).trans rfl
          have x2 : wr.cell? ⟨W2.heap.size, 2, none⟩ = some (.slice E3 i3 j3) := (k9.cell 2).trans rfl
          have x3 : wr.cell? ⟨W2.heap.size, 3, none⟩ = some (.slice E4 i4 j4) := (k9.cell 3).trans rfl
          have x4 : wr.cell? ⟨W2.heap.size, 4, none⟩ = some (.slice E5 i5 j5) := (k9.cell 4).trans rfl
          go_wp2_with fail
          refine hcr.mono ?_
          rintro e W8 ⟨A8, n8, c8, rfl, o8, b8⟩
          have oF8 := oF.on b8
          have b10 := b9.trans (b8.mono b9.size)
          have heq := eqT (W := W8) (c := c8) (c2 := c) (l := fc) o8.sees oF8.sees o8.len oF8.len (by have := oF8.len; have := o8.len; omega)
          go_wp2_with fail
          refine heq.mono ?_
          rintro e w11 ⟨rfl, q, rfl⟩
          go_wp2_with fail
          go_ret
          exact ⟨rfl, below_drewN b10 q⟩
end Go.Proofs.YtfnhaoindehjdaaDoor.staffingPossible
