/- The reference's Make. -/
import Derived.Test.YtcnofhlgiffkjaaGreatDoorPt
import Derived.Deep.RegionWith
import Derived.Deep.RegionHeld3
import Derived.Deep.RegionLaw
namespace Go.Proofs.YtcnofhlgiffkjaaGreatDoor
open Go.RowKit
set_option linter.unusedVariables false
set_option linter.unusedSimpArgs false

theorem mk_close {W1 u2 u2' u3 u3' : World} {B2 B3 g n2' c2' n3' c3' : Nat} {A2' A3' : Option Addr} {xs ys : List Value} (h2 : Below u2.heap.size u2 u2') (h3 : Below u3.heap.size u3 u3') (q2 : Below W1.heap.size W1 u2) (bu3 : Below u2'.heap.size u2' u3)
    (o2 : u2.ownsRow B2 77 2 (.slice A2' n2' c2') n2' xs) (o3 : u3.ownsRow B3 77 2 (.slice A3' n3' c3') n3' ys) (hB2 : W1.heap.size ≤ B2) (hB3 : u2'.heap.size ≤ B3) (hg : W1.heap.size ≤ g) (m2 : n2' ≤ 4) (m3 : n3' ≤ 4)
    (hb : Blk u3' g 32 #[.slice none 0 0, .slice none 0 0, .slice none 0 0, .slice none 0 0, .slice none 0 0]) :
    ∃ (g' n2 c2 n3 c3 : Nat) (A2 A3 : Option Addr), (Value.pointer (some ⟨g, 0, none⟩) = .pointer (some ⟨g', 0, none⟩)) ∧ W1.heap.size ≤ g' ∧
      Blk (((((u3'.setCell ⟨g, 0, none⟩ (.slice none 0 0)).setCell ⟨g, 1, none⟩ (.slice A2' n2' c2')).setCell ⟨g, 2, none⟩ (.slice A3' n3' c3')).setCell ⟨g, 3, none⟩ (.slice none 0 0)).setCell ⟨g, 4, none⟩ (.slice none 0 0)) g' 32 #[.slice none 0 0, .slice A2 n2 c2, .slice A3 n3 c3, .slice none 0 0, .slice none 0 0] ∧
      (((((u3'.setCell ⟨g, 0, none⟩ (.slice none 0 0)).setCell ⟨g, 1, none⟩ (.slice A2' n2' c2')).setCell ⟨g, 2, none⟩ (.slice A3' n3' c3')).setCell ⟨g, 3, none⟩ (.slice none 0 0)).setCell ⟨g, 4, none⟩ (.slice none 0 0)).ownsRow W1.heap.size 77 2 (.slice A2 n2 c2) n2 xs ∧
      (((((u3'.setCell ⟨g, 0, none⟩ (.slice none 0 0)).setCell ⟨g, 1, none⟩ (.slice A2' n2' c2')).setCell ⟨g, 2, none⟩ (.slice A3' n3' c3')).setCell ⟨g, 3, none⟩ (.slice none 0 0)).setCell ⟨g, 4, none⟩ (.slice none 0 0)).ownsRow W1.heap.size 77 2 (.slice A3 n3 c3) n3 ys ∧
      n2 ≤ 4 ∧ n3 ≤ 4 ∧ ((Value.slice A2 n2 c2).ownBlock = none ∨ (Value.slice A2 n2 c2).ownBlock ≠ (Value.slice A3 n3 c3).ownBlock) ∧
      Below W1.heap.size W1 (((((u3'.setCell ⟨g, 0, none⟩ (.slice none 0 0)).setCell ⟨g, 1, none⟩ (.slice A2' n2' c2')).setCell ⟨g, 2, none⟩ (.slice A3' n3' c3')).setCell ⟨g, 3, none⟩ (.slice none 0 0)).setCell ⟨g, 4, none⟩ (.slice none 0 0)) := by
  have b23 := bJoin h2 bu3
  have b2 : Below u2.heap.size u2 u3' := bJoin b23 h3
  have h2s := h2.size
  have q2s := q2.size
  exact ⟨g, n2', c2', n3', c3', A2', A3', rfl, hg, blk5 hb, own5 (own_less (own_on o2 b2) hB2) hb (by decide), own5 (own_less (own_on o3 h3) (by omega)) hb (by decide), m2, m3, own_sep o2 o3 (by omega), bset5 (bJoin q2 b2) hg⟩
set_option maxHeartbeats 16000000 in
set_option maxRecDepth 100000 in
/-- Make, the reference's. -/
theorem rmake_any (r : RwV) (R : Rw) (w : World) (h : RwAt w w.heap.size r R) :
    Calls Tryz.prog 5 #[r.v R] w fun e w' => ∃ p, e = .returned (PrV.v p) ∧ OwnPr w' w.heap.size p (mkP R) ∧ Below w.heap.size w w' := by
  obtain ⟨⟨A1, n1, c1⟩, ⟨A2, n2, c2⟩, ⟨A3, n3, c3⟩, ⟨A4, n4, c4⟩, ⟨A5, n5, c5⟩⟩ := r
  obtain ⟨k0, l1, l2, l3, l4, l5, e1, e2, e3, e4, e5⟩ := h
  simp only at l1 l2 l3 l4 l5 e1 e2 e3 e4 e5
  obtain ⟨n, hn⟩ : ∃ n, Hid (n = rn R) := ⟨_, Lib.hid rfl⟩
  have hn1 : 0 < n := by have := hn.out; unfold rn at this; omega
  have hn5 : n ≤ 5 := by have := hn.out; unfold rn at this; omega
  have hnI : (1 : Int) + ((R.steps : Int) % 5) = (n : Int) := by have := hn.out; unfold rn at this; omega
  obtain ⟨st, hst⟩ : ∃ st, Hid (st = R.steps) := ⟨_, Lib.hid rfl⟩
  unfold RwV.v Sl.v
  simp only []
  rw [← hst.out] at k0 hnI ⊢
  have b1 : Below w.heap.size w (w.alloc (.cells #[.int .u8 (st : Int), .slice A1 n1 c1, .slice A2 n2 c2, .slice A3 n3 c3, .slice A4 n4 c4, .slice A5 n5 c5] 25)) := (Below.refl _ _).alloc (Nat.le_refl _) _
  have bR := Blk.new w 25 #[.int .u8 (st : Int), .slice A1 n1 c1, .slice A2 n2 c2, .slice A3 n3 c3, .slice A4 n4 c4, .slice A5 n5 c5]
  have box : ∀ W, Blk W w.heap.size 25 #[.int .u8 (st : Int), .slice A1 n1 c1, .slice A2 n2 c2, .slice A3 n3 c3, .slice A4 n4 c4, .slice A5 n5 c5] → W.cell? ⟨w.heap.size, 0, none⟩ = some (.int .u8 (st : Int)) ∧ W.cell? ⟨w.heap.size, 1, none⟩ = some (.slice A1 n1 c1) ∧ W.cell? ⟨w.heap.size, 2, none⟩ = some (.slice A2 n2 c2) ∧ W.cell? ⟨w.heap.size, 3, none⟩ = some (.slice A3 n3 c3) ∧ W.cell? ⟨w.heap.size, 4, none⟩ = some (.slice A4 n4 c4) ∧ W.cell? ⟨w.heap.size, 5, none⟩ = some (.slice A5 n5 c5) := fun W hb => ⟨(hb.cell 0).trans rfl, (hb.cell 1).trans rfl, (hb.cell 2).trans rfl, (hb.cell 3).trans rfl, (hb.cell 4).trans rfl, (hb.cell 5).trans rfl⟩
  go_enter Tryz.func5, Tryz.ntmps5
  have hfit := fun (A : Option Addr) (n9 c : Nat) (l : List (UInt8 × UInt8)) W h9 (h8 : l.length = n9) => fit_any A n9 c n l W h9 h8 hn1 (by omega)
  go_wp2_with fail
  have bC := Blk.new (w.alloc (.cells #[.int .u8 (st : Int), .slice A1 n1 c1, .slice A2 n2 c2, .slice A3 n3 c3, .slice A4 n4 c4, .slice A5 n5 c5] 25)) 32 #[.slice none 0 0, .slice none 0 0, .slice none 0 0, .slice none 0 0, .slice none 0 0]
  have bR1 := bR.alloc (.cells #[.slice none 0 0, .slice none 0 0, .slice none 0 0, .slice none 0 0, .slice none 0 0] 32)
  have b11 := bAl b1 (.cells #[.slice none 0 0, .slice none 0 0, .slice none 0 0, .slice none 0 0, .slice none 0 0] 32)
  have sz1 : ((w.alloc (.cells #[.int .u8 (st : Int), .slice A1 n1 c1, .slice A2 n2 c2, .slice A3 n3 c3, .slice A4 n4 c4, .slice A5 n5 c5] 25)).alloc (.cells #[.slice none 0 0, .slice none 0 0, .slice none 0 0, .slice none 0 0, .slice none 0 0] 32)).heap.size = w.heap.size + 2 := by simp
  rw [World.size_alloc] at bC
  clear b1 bR
  generalize ((w.alloc (.cells #[.int .u8 (st : Int), .slice A1 n1 c1, .slice A2 n2 c2, .slice A3 n3 c3, .slice A4 n4 c4, .slice A5 n5 c5] 25)).alloc (.cells #[.slice none 0 0, .slice none 0 0, .slice none 0 0, .slice none 0 0, .slice none 0 0] 32)) = W1 at b11 bC bR1 sz1 ⊢
  have bx : ∀ W, Below W1.heap.size W1 W → W.cell? ⟨w.heap.size, 2, none⟩ = some (.slice A2 n2 c2) ∧ W.cell? ⟨w.heap.size, 3, none⟩ = some (.slice A3 n3 c3) := fun W hW => ⟨(box W (bR1.on hW)).2.2.1, (box W (bR1.on hW)).2.2.2.1⟩
  have qq : Below W1.heap.size W1 W1.drew := (Below.refl _ _).drew
  have sz2 : w.heap.size + 2 ≤ W1.heap.size := by omega
  clear sz1
  have sB : ∀ W, Below W1.heap.size W1 W → W.cell? ⟨w.heap.size, 2, none⟩ = some (.slice A2 n2 c2) ∧ W.cell? ⟨w.heap.size, 3, none⟩ = some (.slice A3 n3 c3) ∧ Below W1.heap.size W1 W := fun W hW => ⟨(bx W hW).1, (bx W hW).2, hW⟩
  have hs2 : ∀ W, Below W1.heap.size W1 W → Sees W W.heap.size A2 (R.dif.flatMap pb) := fun W hW => (e2.on b11).on hW
  have hs3 : ∀ W, Below W1.heap.size W1 W → Sees W W.heap.size A3 (R.sam.flatMap pb) := fun W hW => (e3.on b11).on hW
  go_cut [4] from 4 to 23 (fun v4 wx => ∃ (g n2' c2' n3' c3' : Nat) (A2' A3' : Option Addr), v4 = .pointer (some ⟨g, 0, none⟩) ∧ W1.heap.size ≤ g ∧ Blk wx g 32 #[.slice none 0 0, .slice A2' n2' c2', .slice A3' n3' c3', .slice none 0 0, .slice none 0 0] ∧
    wx.ownsRow W1.heap.size 77 2 (.slice A2' n2' c2') n2' ((fitL n (R.dif.take 4)).flatMap pv) ∧ wx.ownsRow W1.heap.size 77 2 (.slice A3' n3' c3') n3' ((fitL n (R.sam.take 4)).flatMap pv) ∧ n2' ≤ 4 ∧ n3' ≤ 4 ∧ ((Value.slice A2' n2' c2').ownBlock = none ∨ (Value.slice A2' n2' c2').ownBlock ≠ (Value.slice A3' n3' c3').ownBlock) ∧ Below W1.heap.size W1 wx)
  case first =>
    go_region_held3 (fun w' => w'.cell? ⟨w.heap.size, 2, none⟩ = some (.slice A2 n2 c2) ∧ w'.cell? ⟨w.heap.size, 3, none⟩ = some (.slice A3 n3 c3) ∧ Below W1.heap.size W1 w')
      (first | exact sB _ qq | exact sB _ (qq.alloc qq.size _) | exact sB _ q2 | exact sB _ (q2.alloc q2.size _) | exact sB _ q3 | exact sB _ (q3.alloc q3.size _) | exact sB _ (bset5 q3 q2.size) | exact sB _ (bset5 q3 (Nat.le_refl _)) | exact sB _ (bset5 (q3.alloc q3.size _) q3.size))
      (first
        | (go_at_call 20; have mm := q2; refine (hfit A3 n3 c3 R.sam _ (by first | exact hs3 _ q2 | exact hs3 _ (q2.alloc q2.size _)) l3).mono ?_; rintro e u3 ⟨A3', n3', c3', rfl, o3, m3, bu3⟩; have q3 : Below W1.heap.size W1 u3 := (by first | exact q2.trans (bu3.mono q2.size) | exact (q2.alloc q2.size _).trans (bu3.mono (q2.alloc q2.size _).size)); (try have B5 : Blk u3 W1.heap.size 32 #[.slice none 0 0, .slice none 0 0, .slice none 0 0, .slice none 0 0, .slice none 0 0] := B4.on bu3); (try have B5 : Blk u3 u2.heap.size 32 #[.slice none 0 0, .slice none 0 0, .slice none 0 0, .slice none 0 0, .slice none 0 0] := (Blk.new u2 _ _).on bu3); (try have y0 := (B5.cell 0).trans rfl); (try have y1 := (B5.cell 1).trans rfl); (try have y2 := (B5.cell 2).trans rfl); (try have y3 := (B5.cell 3).trans rfl); (try have y4 := (B5.cell 4).trans rfl); (try have f0 := B5.frozen 0); (try have f1 := B5.frozen 1); (try have f2 := B5.frozen 2); (try have f3 := B5.frozen 3); (try have f4 := B5.frozen 4))
        | (go_at_call 20; refine (hfit A2 n2 c2 R.dif _ (by first | exact hs2 _ qq | exact hs2 _ (qq.alloc qq.size _)) l2).mono ?_; rintro e u2 ⟨A2', n2', c2', rfl, o2, m2, bu2⟩; have q2 : Below W1.heap.size W1 u2 := (by first | exact qq.trans (bu2.mono qq.size) | exact (qq.alloc qq.size _).trans (bu2.mono (qq.alloc qq.size _).size)); (try have B4 : Blk u2 W1.heap.size 32 #[.slice none 0 0, .slice none 0 0, .slice none 0 0, .slice none 0 0, .slice none 0 0] := (Blk.new W1.drew _ _).on bu2)))
    all_goals (go_wp2_with fail; go_meet)
    · exact ⟨u3.heap.size, n2', c2', n3', c3', A2', A3', rfl, q3.size, Blk.new u3 _ _, (own_less (own_on o2 bu3) (by simp)).alloc _, (own_less o3 q2.size).alloc _, m2, m3, own_sep o2 o3 (Nat.le_refl _), q3.alloc q3.size _⟩
    · exact mk_close (u2' := u2.alloc _) (u3' := u3) (g := u2.heap.size) (bAl (Below.refl _ _) _) (Below.refl _ _) q2 bu3 o2 o3 (by simp) (Nat.le_refl _) q2.size m2 m3 B5
    · exact mk_close (u2' := u2) (u3' := u3) (g := W1.heap.size) (Below.refl _ _) (Below.refl _ _) q2 bu3 o2 o3 (by simp) (Nat.le_refl _) (Nat.le_refl _) m2 m3 B5
  case rest =>
    obtain ⟨g, n2', c2', n3', c3', A2', A3', rfl, hg, bP, o2, o3, m2, m3, ap, bw⟩ := hcut
    have b12 := b11.trans (bw.mono b11.size)
    have bR2 := bR1.on bw
    have bC2 := bC.on bw
    have hz2 := b12.size
    have hgl := bP.lt
    have hs1 : ∀ W, Below w.heap.size w W → Sees W W.heap.size A1 (R.elig.map bv) := fun W hW => e1.on hW
    have hs5 : ∀ W, Below w.heap.size w W → Sees W W.heap.size A5 (R.fix.map bv) := fun W hW => e5.on hW
    have nn : (0 : Int) < (n : Int) := by omega
    have nn5 : (n : Int) ≤ 5 := by omega
    have H0 : Hold wc W1.heap.size g ⟨⟨none, 0, 0⟩, ⟨A2', n2', c2'⟩, ⟨A3', n3', c3'⟩, ⟨none, 0, 0⟩, ⟨none, 0, 0⟩⟩ ⟨[], fitL n (R.dif.take 4), fitL n (R.sam.take 4), [], []⟩ :=
      ⟨⟨World.ownsRow_nil _ _ _ _, o2, o3, World.ownsRow_nil _ _ _ _, World.ownsRow_nil _ _ _ _, ap, by simp, by simp; omega, by simp; omega, by simp, by simp, by simp, by simp⟩, bP⟩
    have hat1 := fun W (hW : Below w.heap.size w W) (k : Nat) => at_any A1 n1 c1 k R.elig W (hs1 W hW) l1
    have hat5 := fun W (hW : Below w.heap.size w W) (k : Nat) => at_any A5 n5 c5 k R.fix W (hs5 W hW) l5
    go_wp2_with fail
    go_loopw [5] (fun v5 wr => ∃ (k : Nat) (p : PrV), v5 = .int .i64 k ∧ k ≤ n ∧ p.s1.n = k ∧ p.s5.n = k ∧ Hold wr W1.heap.size g p ⟨(List.range k).map (mkE R), fitL n (R.dif.take 4), fitL n (R.sam.take 4), [], (List.range k).map (mkF R)⟩ ∧ Below W1.heap.size W1 wr ∧ p.s4 = ⟨none, 0, 0⟩) (fun v5 _ => n - (intOf v5).toNat)
    case atStart => exact ⟨0, _, rfl, Nat.zero_le _, rfl, rfl, H0, bw, rfl⟩
    case round =>
      obtain ⟨k, ⟨⟨B1, m1, d1⟩, ⟨B2, m2, d2⟩, ⟨B3, m3, d3⟩, ⟨B4, m4, d4⟩, ⟨B5, m5, d5⟩⟩, rfl, hk, hp1, hp5, H, hB, hp4⟩ := hrel
      simp only at hp1 hp5 hp4
      injection hp4 with e41 e42 e43
      rw [hp1, hp5, e41, e42, e43] at H
      clear hp1 hp5 e41 e42 e43
      by_cases hlt : k < n
      · have hlt' : (k : Int) < (n : Int) := by omega
        have bwr := b11.trans (hB.mono b11.size)
        have hbk := H.blk
        have q0 := (hbk.cell 0).trans rfl
        have q1 := (hbk.cell 1).trans rfl
        have q2 := (hbk.cell 2).trans rfl
        have q3 := (hbk.cell 3).trans rfl
        have q4 := (hbk.cell 4).trans rfl
        obtain ⟨_, r1, r2, r3, r4, r5⟩ := box wr (bR1.on hB)
        unfold PrV.cs Sl.v at q0 q1 q2 q3 q4
        simp only [] at q0 q1 q2 q3 q4
        have qa : ∀ o, (wr.alloc o).cell? ⟨g, 0, none⟩ = some (.slice B1 k d1) := fun o => ((H.blk.alloc o).cell 0).trans rfl
        obtain ⟨a1, ha1⟩ : ∃ a, Hid (a = atB R.elig k) := ⟨_, Lib.hid rfl⟩
        obtain ⟨a5, ha5⟩ : ∃ a, Hid (a = atB R.fix k) := ⟨_, Lib.hid rfl⟩
        have h1 := hat1 wr bwr k
        have h1d := hat1 wr.drew bwr.drew k
        have a1b : a1 < 256 := by rw [ha1.out]; exact atB_lt _ _
        rw [← ha1.out] at h1 h1d
        obtain ⟨q9, hq9⟩ : ∃ q, Hid (q = a1 % 16) := ⟨_, Lib.hid rfl⟩
        have hq16 : q9 < 16 := by rw [hq9.out]; omega
        have hm : ((a1 : Nat) : Int).tmod 16 = (q9 : Int) := by rw [hq9.out, Int.tmod_eq_emod_of_nonneg (by omega)]; omega
        have hw1 : IntKind.u64.wrap (q9 : Int) = (q9 : Int) := by rw [IntKind.wrap_u64]; omega
        have hw2 : IntKind.u64.wrap ((q9 : Int) * 2) = (q9 : Int) * 2 := by rw [IntKind.wrap_u64]; omega
        have hzw := hB.size
        go_wp2_with fail
        go_region_law (first
          | (refine step_row1 70 27 _ 1 8 u64_info Tryz.underlying27 rfl (by omega) (by omega) _ rfl (.tmp 30) (.tmp 38) rfl wr.drew W1.heap.size _ k _ rfl H.own.o1 #[.int .u64 ((q9 : Int) * 2)] rfl _ rfl rfl rfl (by simp [Value.oneCell']) (by omega) hzw (k + 1) rfl ?_; intro A6 c6 w5 o6 g6 b6 _; have hb6 := Blk.grown (w := wr.drew) H.blk g6 (own_off (w := wr.drew) H.own.o1 H.blk (by decide)); have y6 : w5.cell? ⟨g, 0, none⟩ = some (.slice B1 k d1) := (hb6.cell 0).trans rfl; have f6 := hb6.frozen 0)
          | (rw [if_pos (by rfl)]; go_simp; go_at_call 21; refine h1d.mono ?_; rintro e w6 ⟨rfl, rfl⟩; simp only []))
        all_goals (
          have hM : ((q9 * 2 : Nat) : Int) = (q9 : Int) * 2 := by omega
          have H6 := Hold.add1 (w := wr.drew) (M := q9 * 2) (H.on ((Below.refl _ _).drew)) (by rw [hM]; exact o6) g6 (by omega) (by omega)
          have W6 : Below W1.heap.size W1 (w5.setCell ⟨g, 0, none⟩ (.slice A6 (k + 1) c6)) := (hB.drew.trans b6).setCell (p := ⟨g, 0, none⟩) hg _
          have B6 := b11.trans (W6.mono b11.size)
          have h5 := hat5 _ B6 k
          have a5b : a5 < 256 := by rw [ha5.out]; exact atB_lt _ _
          rw [← ha5.out] at h5
          have R6 := bR1.on W6
          obtain ⟨_, r1, r2, r3, r4, r5⟩ := box _ R6
          have q4 := (H6.blk.cell 4).trans rfl
          unfold PrV.cs Sl.v at q4
          simp only [] at q4
          clear hb6 y6 f6 o6 g6 b6 q0 q1 q2 q3
          go_wp2_with fail
          refine h5.mono ?_
          rintro e w7 ⟨rfl, rfl⟩
          have hF : Hid (mkF R k = if 6 ≤ a5 then 0 else (a5 : Int)) := Lib.hid (by unfold mkF; rw [ha5.out])
          have hE : Hid ((List.range (k + 1)).map (mkE R) = (List.range k).map (mkE R) ++ [q9 * 2]) := Lib.hid (by rw [List.range_succ, List.map_append, hq9.out, ha1.out]; rfl)
          generalize (w5.setCell ⟨g, 0, none⟩ (.slice A6 (k + 1) c6)) = w8 at H6 W6 B6 h5 R6 r1 r2 r3 r4 r5 q4 ⊢
          have hzw8 := W6.size
          have f8 := H6.blk.frozen 4
          by_cases a6 : 6 ≤ a5
          · have a6b : (6 : Int) ≤ (a5 : Int) := by omega
            have hF2 : Hid (mkF R k = 0) := Lib.hid (by rw [hF.out, if_pos a6])
            have hR : Hid ((List.range (k + 1)).map (mkF R) = (List.range k).map (mkF R) ++ [0]) := Lib.hid (by rw [List.range_succ, List.map_append]; simp [hF2.out])
            clear hF a6
            go_wp2_with (at_builtin; refine wpL_row1 3 30 _ 1 8 int_info Tryz.underlying30 rfl (by omega) (by omega) _ rfl (.tmp 48) (.tmp 50) rfl w8 W1.heap.size _ k _ rfl H6.own.o5 #[.int .i64 0] rfl _ rfl rfl rfl (by simp [Value.oneCell']) (by omega) hzw8 (k + 1) rfl ?_; intro A9 c9 w9 o9 g9 b9 _; have hb9 := Blk.grown H6.blk g9 (own_off H6.own.o5 H6.blk (by decide)); have y9 : w9.cell? ⟨g, 4, none⟩ = some (.slice B5 k d5) := (hb9.cell 4).trans rfl; have f9 := hb9.frozen 4)
            have H9 := Hold.add5 H6 o9 g9 (by omega)
            go_roundw
            case rel => exact ⟨k + 1, _, by go_num, by omega, rfl, rfl, by rw [hE.out, hR.out]; exact H9, (W6.trans b9).setCell (p := ⟨g, 4, none⟩) hg _, rfl⟩
            case measure => simp [intOf]; omega
          · have a6b : ¬ (6 : Int) ≤ (a5 : Int) := by omega
            have hF2 : Hid (mkF R k = (a5 : Int)) := Lib.hid (by rw [hF.out, if_neg a6])
            have hR : Hid ((List.range (k + 1)).map (mkF R) = (List.range k).map (mkF R) ++ [(a5 : Int)]) := Lib.hid (by rw [List.range_succ, List.map_append]; simp [hF2.out])
            clear hF a6
            go_wp2_with (at_builtin; refine wpL_row1 3 30 _ 1 8 int_info Tryz.underlying30 rfl (by omega) (by omega) _ rfl (.tmp 48) (.tmp 50) rfl w8 W1.heap.size _ k _ rfl H6.own.o5 #[.int .i64 (a5 : Int)] rfl _ rfl rfl rfl (by simp [Value.oneCell']) (by omega) hzw8 (k + 1) rfl ?_; intro A9 c9 w9 o9 g9 b9 _; have hb9 := Blk.grown H6.blk g9 (own_off H6.own.o5 H6.blk (by decide)); have y9 : w9.cell? ⟨g, 4, none⟩ = some (.slice B5 k d5) := (hb9.cell 4).trans rfl; have f9 := hb9.frozen 4)
            have H9 := Hold.add5 H6 o9 g9 (by omega)
            go_roundw
            case rel => exact ⟨k + 1, _, by go_num, by omega, rfl, rfl, by rw [hE.out, hR.out]; exact H9, (W6.trans b9).setCell (p := ⟨g, 4, none⟩) hg _, rfl⟩
            case measure => simp [intOf]; omega)
      · have hlt' : ¬ (k : Int) < (n : Int) := by omega
        obtain rfl : k = n := by omega
        have bwr := b11.trans (hB.mono b11.size)
        have hcr := (bR1.on hB)
        obtain ⟨_, r1, r2, r3, r4, r5⟩ := box wr hcr
        have H := Lib.hid H
        go_wp2_with fail
        have hs4 : ∀ W, Below w.heap.size w W → Sees W W.heap.size A4 (R.mst.flatMap pb) := fun W hW => e4.on hW
        have hn4 := Lib.hid l4
        obtain ⟨E, hE⟩ : ∃ E, Hid (E = (List.range k).map (mkE R)) := ⟨_, Lib.hid rfl⟩
        obtain ⟨F, hF⟩ : ∃ F, Hid (F = (List.range k).map (mkF R)) := ⟨_, Lib.hid rfl⟩
        rw [← hE.out, ← hF.out] at H
        go_loopw [56] (fun v56 wr => ∃ (i : Nat) (p : PrV), v56 = .int .i64 i ∧ i ≤ n4 ∧ i ≤ 3 ∧ p.s4.n ≤ i ∧ Hid (Hold wr W1.heap.size g p ⟨E, fitL k (R.dif.take 4), fitL k (R.sam.take 4), (R.mst.take i).filterMap (mk1 k), F⟩) ∧ Below W1.heap.size W1 wr) (fun v56 _ => n4 - (intOf v56).toNat)
        case atStart => exact ⟨0, _, rfl, Nat.zero_le _, Nat.zero_le _, by simp, H, hB⟩
        case round =>
          obtain ⟨i, ⟨⟨B1, m1, d1⟩, ⟨B2, m2, d2⟩, ⟨B3, m3, d3⟩, ⟨B4, m4, d4⟩, ⟨B5, m5, d5⟩⟩, rfl, hi, hi3, hm4, H, hB⟩ := hrel
          simp only at hm4
          have bwr := b11.trans (hB.mono b11.size)
          by_cases hlt : i < n4
          · have hlt2 : (i : Int) < (n4 : Int) := by omega
            obtain ⟨⟨x, y⟩, hx⟩ : ∃ x, R.mst[i]? = some x := ⟨_, List.getElem?_eq_getElem (by rw [hn4.out]; exact hlt)⟩
            obtain ⟨b, o, rfl, hb2, hcx, hcy⟩ := (e4.below bwr).pb hx
            simp only [] at hcx hcy
            have hxb := UInt8.toNat_lt x
            have hyb := UInt8.toNat_lt y
            by_cases i3 : i = 3
            · subst i3
              have HV := H.out.on ((Below.refl wr.heap.size wr).alloc (Nat.le_refl _) (.cells #[.int .u8 (x.toNat : Int), .int .u8 (y.toNat : Int)] 73))
              have BV := hB.alloc hB.size (.cells #[.int .u8 (x.toNat : Int), .int .u8 (y.toNat : Int)] 73)
              have hP : Hid (mkP R = ⟨E, fitL k (R.dif.take 4), fitL k (R.sam.take 4), (R.mst.take 3).filterMap (mk1 k), F⟩) := Lib.hid (by rw [hE.out, hF.out, hn.out]; rfl)
              have u0 : (wr.alloc (.cells #[.int .u8 (x.toNat : Int), .int .u8 (y.toNat : Int)] 73)).cell? ⟨g, 0, none⟩ = some (.slice B1 m1 d1) := (HV.blk.cell 0).trans rfl
              have u1 : (wr.alloc (.cells #[.int .u8 (x.toNat : Int), .int .u8 (y.toNat : Int)] 73)).cell? ⟨g, 1, none⟩ = some (.slice B2 m2 d2) := (HV.blk.cell 1).trans rfl
              have u2 : (wr.alloc (.cells #[.int .u8 (x.toNat : Int), .int .u8 (y.toNat : Int)] 73)).cell? ⟨g, 2, none⟩ = some (.slice B3 m3 d3) := (HV.blk.cell 2).trans rfl
              have u3 : (wr.alloc (.cells #[.int .u8 (x.toNat : Int), .int .u8 (y.toNat : Int)] 73)).cell? ⟨g, 3, none⟩ = some (.slice B4 m4 d4) := (HV.blk.cell 3).trans rfl
              have u4 : (wr.alloc (.cells #[.int .u8 (x.toNat : Int), .int .u8 (y.toNat : Int)] 73)).cell? ⟨g, 4, none⟩ = some (.slice B5 m5 d5) := (HV.blk.cell 4).trans rfl
              have bCV := bC.on BV
              have y0 : (wr.alloc (.cells #[.int .u8 (x.toNat : Int), .int .u8 (y.toNat : Int)] 73)).cell? ⟨w.heap.size + 1, 0, none⟩ = some (.slice none 0 0) := (bCV.cell 0).trans rfl
              have y1 : (wr.alloc (.cells #[.int .u8 (x.toNat : Int), .int .u8 (y.toNat : Int)] 73)).cell? ⟨w.heap.size + 1, 1, none⟩ = some (.slice none 0 0) := (bCV.cell 1).trans rfl
              have y2 : (wr.alloc (.cells #[.int .u8 (x.toNat : Int), .int .u8 (y.toNat : Int)] 73)).cell? ⟨w.heap.size + 1, 2, none⟩ = some (.slice none 0 0) := (bCV.cell 2).trans rfl
              have y3 : (wr.alloc (.cells #[.int .u8 (x.toNat : Int), .int .u8 (y.toNat : Int)] 73)).cell? ⟨w.heap.size + 1, 3, none⟩ = some (.slice none 0 0) := (bCV.cell 3).trans rfl
              have y4 : (wr.alloc (.cells #[.int .u8 (x.toNat : Int), .int .u8 (y.toNat : Int)] 73)).cell? ⟨w.heap.size + 1, 4, none⟩ = some (.slice none 0 0) := (bCV.cell 4).trans rfl
              have f0 := bCV.frozen 0
              have f1 := bCV.frozen 1
              have f2 := bCV.frozen 2
              have f3 := bCV.frozen 3
              have f4 := bCV.frozen 4
              have bZ : Below w.heap.size w (wr.alloc (.cells #[.int .u8 (x.toNat : Int), .int .u8 (y.toNat : Int)] 73)) := b11.trans (BV.mono b11.size)
              go_wp2_with fail
              refine ret_rpr rfl (w.heap.size + 1) ⟨⟨B1, m1, d1⟩, ⟨B2, m2, d2⟩, ⟨B3, m3, d3⟩, ⟨B4, m4, d4⟩, ⟨B5, m5, d5⟩⟩ rfl (blk5 bCV) rfl ?_
              refine ⟨_, rfl, ?_, bset5 bZ (by omega)⟩
              have HZ := (HV.own.less b11.size).set5 (a' := .slice B1 m1 d1) (b' := .slice B2 m2 d2) (c' := .slice B3 m3 d3) (d' := .slice B4 m4 d4) (e' := .slice B5 m5 d5) bCV (by decide) (by decide) (by decide) (by decide)
              rw [hP.out]
              exact HZ
            · have i3b : ((i : Int) == 3) = false := by simp; omega
              have bu := (Below.refl wr.heap.size wr).alloc (Nat.le_refl _) (.cells #[.int .u8 (x.toNat : Int), .int .u8 (y.toNat : Int)] 73)
              have HA := Lib.hid (H.out.on bu)
              have BA := hB.alloc hB.size (.cells #[.int .u8 (x.toNat : Int), .int .u8 (y.toNat : Int)] 73)
              obtain ⟨pw, hpw⟩ : ∃ pw, Hid (pw = 2 ^ k) := ⟨_, Lib.hid rfl⟩
              have hpwI : (2 : Int) ^ k = (pw : Int) := by rw [hpw.out]; simp
              have hpw1 : 0 < pw := by rw [hpw.out]; exact Nat.two_pow_pos k
              have hpw2 : pw ≤ 32 := by rw [hpw.out]; exact Nat.pow_le_pow_right (n := 2) (by omega) hn5
              obtain ⟨s, hs⟩ : ∃ s, Hid (s = y.toNat % pw) := ⟨_, Lib.hid rfl⟩
              have hs32 : s < pw := by rw [hs.out]; exact Nat.mod_lt _ hpw1
              have hsI : ((y.toNat : Nat) : Int).tmod (pw : Int) = (s : Int) := by rw [hs.out, Int.tmod_eq_emod_of_nonneg (by omega)]; omega
              have hstep := fm_take_succ (f := mk1 k) hx
              obtain ⟨q3, hq3⟩ : ∃ q, Hid (q = x.toNat % 3) := ⟨_, Lib.hid rfl⟩
              have hq33 : q3 < 3 := by rw [hq3.out]; omega
              have hq3I : ((x.toNat : Nat) : Int) % 3 = (q3 : Int) := by rw [hq3.out]; omega
              have hmk : mk1 k (x, y) = if s = 0 then none else some (1 + ((q3 : Nat) : Int), s) := by
                rw [hs.out, hq3.out, hpw.out]; rfl
              rw [hmk] at hstep
              have HQ : Hid (Hold ((wr.alloc (.cells #[.int .u8 (x.toNat : Int), .int .u8 (y.toNat : Int)] 73))) W1.heap.size g ⟨⟨B1, m1, d1⟩, ⟨B2, m2, d2⟩, ⟨B3, m3, d3⟩, ⟨B4, m4, d4⟩, ⟨B5, m5, d5⟩⟩ ⟨E, fitL k (R.dif.take 4), fitL k (R.sam.take 4), (R.mst.take i).filterMap (mk1 k), F⟩) := HA
              have hBl := (Blk.new wr 73 #[.int .u8 (x.toNat : Int), .int .u8 (y.toNat : Int)])
              clear hmk hx
              by_cases s0 : s = 0
              · have s0b : ¬ (0 : Int) < (s : Int) := by omega
                rw [if_pos s0] at hstep
                have Hs := Lib.hid hstep
                clear hstep s0
                go_wp2_with fail
                go_quiet (fail)
                go_wp2_with fail
                go_roundw
                case rel => exact ⟨i + 1, ⟨⟨B1, m1, d1⟩, ⟨B2, m2, d2⟩, ⟨B3, m3, d3⟩, ⟨B4, m4, d4⟩, ⟨B5, m5, d5⟩⟩, by go_num, by omega, by omega, by show m4 ≤ i + 1; omega, Lib.hid (by rw [Hs.out, Option.toList_none, List.append_nil]; exact HQ.out.on (below_drewN (Below.refl _ _) nq)), below_drewN BA nq⟩
                case measure => simp [intOf]; omega
              · have s0b : (0 : Int) < (s : Int) := by omega
                rw [if_neg s0] at hstep
                have Hs := Lib.hid hstep
                clear hstep s0
                go_wp2_with fail
                go_quiet (fail)
                have HD := HQ.out.on (below_drewN (Below.refl (wr.alloc (.cells #[.int .u8 (x.toNat : Int), .int .u8 (y.toNat : Int)] 73)).heap.size (wr.alloc (.cells #[.int .u8 (x.toNat : Int), .int .u8 (y.toNat : Int)] 73))) nq)
                have BD := below_drewN BA nq
                have z0 : (wr.alloc (.cells #[.int .u8 (x.toNat : Int), .int .u8 (y.toNat : Int)] 73)).cell? ⟨wr.heap.size, 0, none⟩ = some (.int .u8 (x.toNat : Int)) := (hBl.cell 0).trans rfl
                have u3 : (wr.alloc (.cells #[.int .u8 (x.toNat : Int), .int .u8 (y.toNat : Int)] 73)).cell? ⟨g, 3, none⟩ = some (.slice B4 m4 d4) := (HQ.out.blk.cell 3).trans rfl
                have hzD := BD.size
                go_wp2_with (at_builtin; refine wpL_row1 75 29 _ 2 16 rmost_info Tryz.underlying29 rfl (by omega) (by omega) _ rfl (.tmp 72) (.tmp 80) rfl _ W1.heap.size _ m4 _ rfl HD.own.o4 #[.int .i64 (1 + (q3 : Int)), .int .u64 (s : Int)] rfl _ (by simp) rfl rfl (by simp [Value.oneCell']) (by omega) hzD (m4 + 1) rfl ?_; intro A9 c9 w9 o9 g9 b9 _; have hb9 := Blk.grown HD.blk g9 (own_off HD.own.o4 HD.blk (by decide)); have y9 : w9.cell? ⟨g, 3, none⟩ = some (.slice B4 m4 d4) := (hb9.cell 3).trans rfl; have f9 := hb9.frozen 3)
                have H9 := Hold.add4 HD o9 g9 (by omega) (by omega)
                go_roundw
                case rel => exact ⟨i + 1, ⟨⟨B1, m1, d1⟩, ⟨B2, m2, d2⟩, ⟨B3, m3, d3⟩, ⟨A9, m4 + 1, c9⟩, ⟨B5, m5, d5⟩⟩, by go_num, by omega, by omega, by show m4 + 1 ≤ i + 1; omega, Lib.hid (by rw [Hs.out]; exact H9), (BD.trans b9).setCell (p := ⟨g, 3, none⟩) hg _⟩
                case measure => simp [intOf]; omega
          · have hlt2 : ¬ (i : Int) < (n4 : Int) := by omega
            obtain rfl : i = n4 := by omega
            have HV := H.out
            have BV := hB
            have hP : Hid (mkP R = ⟨E, fitL k (R.dif.take 4), fitL k (R.sam.take 4), (R.mst.take i).filterMap (mk1 k), F⟩) := Lib.hid (by
              have e8 : R.mst.take i = R.mst.take 3 := by
                rw [List.take_of_length_le (l := R.mst) (i := i) (by rw [hn4.out]; exact Nat.le_refl _), List.take_of_length_le (l := R.mst) (i := 3) (by rw [hn4.out]; exact hi3)]
              rw [e8, hE.out, hF.out, hn.out]
              rfl)
            have u0 : wr.cell? ⟨g, 0, none⟩ = some (.slice B1 m1 d1) := (HV.blk.cell 0).trans rfl
            have u1 : wr.cell? ⟨g, 1, none⟩ = some (.slice B2 m2 d2) := (HV.blk.cell 1).trans rfl
            have u2 : wr.cell? ⟨g, 2, none⟩ = some (.slice B3 m3 d3) := (HV.blk.cell 2).trans rfl
            have u3 : wr.cell? ⟨g, 3, none⟩ = some (.slice B4 m4 d4) := (HV.blk.cell 3).trans rfl
            have u4 : wr.cell? ⟨g, 4, none⟩ = some (.slice B5 m5 d5) := (HV.blk.cell 4).trans rfl
            have bCV := bC.on BV
            have y0 : wr.cell? ⟨w.heap.size + 1, 0, none⟩ = some (.slice none 0 0) := (bCV.cell 0).trans rfl
            have y1 : wr.cell? ⟨w.heap.size + 1, 1, none⟩ = some (.slice none 0 0) := (bCV.cell 1).trans rfl
            have y2 : wr.cell? ⟨w.heap.size + 1, 2, none⟩ = some (.slice none 0 0) := (bCV.cell 2).trans rfl
            have y3 : wr.cell? ⟨w.heap.size + 1, 3, none⟩ = some (.slice none 0 0) := (bCV.cell 3).trans rfl
            have y4 : wr.cell? ⟨w.heap.size + 1, 4, none⟩ = some (.slice none 0 0) := (bCV.cell 4).trans rfl
            have f0 := bCV.frozen 0
            have f1 := bCV.frozen 1
            have f2 := bCV.frozen 2
            have f3 := bCV.frozen 3
            have f4 := bCV.frozen 4
            have bZ : Below w.heap.size w wr := b11.trans (BV.mono b11.size)
            go_wp2_with fail
            refine ret_rpr rfl (w.heap.size + 1) ⟨⟨B1, m1, d1⟩, ⟨B2, m2, d2⟩, ⟨B3, m3, d3⟩, ⟨B4, m4, d4⟩, ⟨B5, m5, d5⟩⟩ rfl (blk5 bCV) rfl ?_
            refine ⟨_, rfl, ?_, bset5 bZ (by omega)⟩
            have HZ := (HV.own.less b11.size).set5 (a' := .slice B1 m1 d1) (b' := .slice B2 m2 d2) (c' := .slice B3 m3 d3) (d' := .slice B4 m4 d4) (e' := .slice B5 m5 d5) bCV (by decide) (by decide) (by decide) (by decide)
            rw [hP.out]
            exact HZ
end Go.Proofs.YtcnofhlgiffkjaaGreatDoor
