/- refute.Equal: whether two refutations have the same nodes. -/
import Derived.Test.YtcnofhlgiffkjaaGreatDoorEqI
import Derived.Test.YtcnofhlgiffkjaaGreatDoorPk
import Derived.Deep.QuietTactic
import Derived.BigQuiet
namespace Go.Proofs.YtcnofhlgiffkjaaGreatDoor
open Go.RowKit
set_option linter.unusedVariables false
set_option linter.unusedSimpArgs false
set_option maxHeartbeats 8000000 in
set_option maxRecDepth 100000 in
theorem eqNd_any (x y : Nd) (C S C' S' : Sl) (w : World) (h : NdL w w.heap.size C S x) (h' : NdL w w.heap.size C' S' y) :
    Calls Tryz.prog 50 #[.agg #[.int .u8 (x.kind : Int), .int .i64 x.step, C.v, S.v], .agg #[.int .u8 (y.kind : Int), .int .i64 y.step, C'.v, S'.v]] w fun e w' => e = .returned (.bool (decide (x = y))) ∧ Below w.heap.size w w' := by
  obtain ⟨xk, xs, xc, xt⟩ := x
  obtain ⟨yk, ys, yc, yt⟩ := y
  obtain ⟨A1, n1, c1⟩ := C
  obtain ⟨A2, n2, c2⟩ := S
  obtain ⟨A3, n3, c3⟩ := C'
  obtain ⟨A4, n4, c4⟩ := S'
  have bA : Below w.heap.size w ((w.alloc (.cells #[.int .u8 (xk : Int), .int .i64 xs, .slice A1 n1 c1, .slice A2 n2 c2] 95)).alloc (.cells #[.int .u8 (yk : Int), .int .i64 ys, .slice A3 n3 c3, .slice A4 n4 c4] 95)) := bAl (bAl (Below.refl _ _) _) _
  have k1 := (Blk.new w 95 #[.int .u8 (xk : Int), .int .i64 xs, .slice A1 n1 c1, .slice A2 n2 c2]).alloc (.cells #[.int .u8 (yk : Int), .int .i64 ys, .slice A3 n3 c3, .slice A4 n4 c4] 95)
  have k2 := Blk.new (w.alloc (.cells #[.int .u8 (xk : Int), .int .i64 xs, .slice A1 n1 c1, .slice A2 n2 c2] 95)) 95 #[.int .u8 (yk : Int), .int .i64 ys, .slice A3 n3 c3, .slice A4 n4 c4]
  rw [World.size_alloc] at k2
  obtain ⟨bk, hbk⟩ : ∃ b, Hid (b = decide (xk = yk)) := ⟨_, Lib.hid rfl⟩
  have kk1 : ((xk : Int) == (yk : Int)) = bk := by rw [hbk.out, Bool.eq_iff_iff]; simp; omega
  have kk2 : (xk == yk) = bk := by rw [hbk.out, Bool.eq_iff_iff]; simp
  have kk3 : (decide ((xk : Int) = (yk : Int))) = bk := by rw [hbk.out, Bool.eq_iff_iff]; simp; omega
  have kk4 : (decide (xk = yk)) = bk := hbk.out.symm
  obtain ⟨bs, hbs⟩ : ∃ b, Hid (b = decide (xs = ys)) := ⟨_, Lib.hid rfl⟩
  have ss1 : (xs == ys) = bs := by rw [hbs.out, Bool.eq_iff_iff]; simp
  have ss2 : (decide (xs = ys)) = bs := hbs.out.symm
  obtain ⟨bc, hbc⟩ : ∃ b, Hid (b = (xc == yc)) := ⟨_, Lib.hid rfl⟩
  obtain ⟨bt, hbt⟩ : ∃ b, Hid (b = (xt == yt)) := ⟨_, Lib.hid rfl⟩
  obtain ⟨br, hbr⟩ : ∃ b, Hid (b = decide ((⟨xk, xs, xc, xt⟩ : Nd) = ⟨yk, ys, yc, yt⟩)) := ⟨_, Lib.hid rfl⟩
  have hall : Hid (br = (bk && bs && bc && bt)) := Lib.hid (by
    rw [hbr.out, hbk.out, hbs.out, hbc.out, hbt.out, Bool.eq_iff_iff]; simp [and_assoc])
  rw [← hbr.out]
  unfold Sl.v
  have cC : ∀ W, Below w.heap.size w W → Calls Tryz.prog 10 #[.slice A1 n1 c1, .slice A3 n3 c3] W fun e w' => e = .returned (.bool bc) ∧ ∃ q, w' = W.drewN q := fun W hW => by
    rw [hbc.out]
    exact equalI_any A1 A3 n1 c1 n3 c3 xc yc W (h.ch.on hW) (h'.ch.on hW) h.lc h'.lc (Nat.le_trans h.bc (by omega))
  have cS : ∀ W, Below w.heap.size w W → Calls Tryz.prog 10 #[.slice A2 n2 c2, .slice A4 n4 c4] W fun e w' => e = .returned (.bool bt) ∧ ∃ q, w' = W.drewN q := fun W hW => by
    rw [hbt.out]
    exact equalI_any A2 A4 n2 c2 n4 c4 xt yt W (h.st.on hW) (h'.st.on hW) h.ls h'.ls (Nat.le_trans h.bs (by omega))
  clear h h' hbk hbs hbc hbt hbr
  have cCd := fun q => cC _ (below_drewN bA q)
  have cSd := fun q => cS _ (below_drewN bA q)
  have bD := fun q => below_drewN bA q
  go_enter Tryz.func50, Tryz.ntmps50
  go_upto_region 1 with fail
  generalize ((w.alloc (.cells #[.int .u8 (xk : Int), .int .i64 xs, .slice A1 n1 c1, .slice A2 n2 c2] 95)).alloc (.cells #[.int .u8 (yk : Int), .int .i64 ys, .slice A3 n3 c3, .slice A4 n4 c4] 95)) = W1 at bA k1 k2 cCd cSd bD ⊢
  have i0 := k1.cell 0
  have i1 := k1.cell 1
  have i2 := k1.cell 2
  have i3 := k1.cell 3
  have j0 := k2.cell 0
  have j1 := k2.cell 1
  have j2 := k2.cell 2
  have j3 := k2.cell 3
  simp only [List.getElem?_toArray, List.getElem?_cons_zero, List.getElem?_cons_succ] at i0 i1 i2 i3 j0 j1 j2 j3
  clear k1 k2 cC cS
  cases bk
  · go_wp2_with fail
    go_ret
    exact ⟨ret_bool (by rw [hall.out]; rfl), bA⟩
  · cases bs
    · go_wp2_with fail
      go_ret
      exact ⟨ret_bool (by rw [hall.out]; rfl), bA⟩
    · cases bc
      · go_wp2_with fail
        refine (cCd 0).mono ?_
        rintro e u ⟨rfl, q, rfl⟩
        go_wp2_with fail
        go_ret
        exact ⟨ret_bool (by rw [hall.out]; rfl), below_drewN bA _⟩
      · go_wp2_with fail
        refine (cCd 0).mono ?_
        rintro e u ⟨rfl, q, rfl⟩
        go_wp2_with fail
        refine (cSd q).mono ?_
        rintro e u ⟨rfl, q2, rfl⟩
        go_wp2_with fail
        go_ret
        exact ⟨ret_bool (by rw [hall.out]; cases bt <;> rfl), below_drewN bA _⟩
theorem NdL.on {w w' : World} {C S : Sl} {x : Nd} (h : NdL w w.heap.size C S x) (hb : Below w.heap.size w w') : NdL w' w'.heap.size C S x := (h.below hb).more hb.size
set_option maxHeartbeats 8000000 in
set_option maxRecDepth 100000 in
theorem eqNs_any (A A2 : Option Addr) (n c n2 c2 : Nat) (l l2 : List Nd) (w : World) (h : NodesAt w w.heap.size A l) (h2 : NodesAt w w.heap.size A2 l2) (hn : l.length = n) (hn2 : l2.length = n2) (hb : n ≤ 1000000) :
    Calls Tryz.prog 49 #[.slice A n c, .slice A2 n2 c2, .func (.func 50) #[] #[]] w fun e w' => e = .returned (.bool (decide (l = l2))) ∧ Below w.heap.size w w' := by
  have Hn := Lib.hid hn
  have Hn2 := Lib.hid hn2
  obtain ⟨br, hbr⟩ : ∃ b, Hid (b = decide (l = l2)) := ⟨_, Lib.hid rfl⟩
  rw [← hbr.out]
  clear hn hn2
  have hb1 : (n : Int) ≤ 1000000 := by omega
  by_cases hl : n = n2
  · subst hl
    have hne : ((n : Int) != (n : Int)) = false := by simp
    go_enter Tryz.func49, Tryz.ntmps49
    go_wp2_with fail
    go_loopw [17] (fun i wr => ∃ k : Nat, k ≤ n ∧ i = .int .i64 (k : Int) ∧ Hid (l.take k = l2.take k) ∧ Below w.heap.size w wr) (fun i _ => n - (intOf i).toNat)
    case atStart => exact ⟨0, Nat.zero_le _, rfl, Lib.hid rfl, Below.refl _ _⟩
    case round =>
      obtain ⟨k, hk, rfl, Ht, hB⟩ := hrel
      by_cases hlt : k < n
      · have hlt' : (k : Int) < (n : Int) := by omega
        obtain ⟨x, hx⟩ : ∃ x, l[k]? = some x := ⟨_, List.getElem?_eq_getElem (by rw [Hn.out]; exact hlt)⟩
        obtain ⟨y, hy⟩ : ∃ x, l2[k]? = some x := ⟨_, List.getElem?_eq_getElem (by rw [Hn2.out]; exact hlt)⟩
        obtain ⟨b, o, ⟨C1, C2, C3⟩, ⟨S1, S2, S3⟩, rfl, hb2, q0, q1, q2, q3, hN⟩ := (h.below hB) k _ hx
        obtain ⟨b', o', ⟨D1, D2, D3⟩, ⟨T1, T2, T3⟩, rfl, hb2', p0, p1, p2, p3, hN'⟩ := (h2.below hB) k _ hy
        unfold Sl.v at q2 q3 p2 p3
        have hbs : b < wr.heap.size := Nat.lt_of_lt_of_le hb2 hB.size
        have hbs' : b' < wr.heap.size := Nat.lt_of_lt_of_le hb2' hB.size
        have r0 : ∀ o9, (wr.alloc o9).cell? ⟨b', o' + k * 4, none⟩ = some (.int .u8 (y.kind : Int)) := fun o9 => ((bAl (Below.refl wr.heap.size wr) o9).cell (p := ⟨b', o' + k * 4, none⟩) hbs').trans p0
        have r1 : ∀ o9, (wr.alloc o9).cell? ⟨b', o' + k * 4 + 1, none⟩ = some (.int .i64 y.step) := fun o9 => ((bAl (Below.refl wr.heap.size wr) o9).cell (p := ⟨b', o' + k * 4 + 1, none⟩) hbs').trans p1
        have r2 : ∀ o9, (wr.alloc o9).cell? ⟨b', o' + k * 4 + 2, none⟩ = some (.slice D1 D2 D3) := fun o9 => ((bAl (Below.refl wr.heap.size wr) o9).cell (p := ⟨b', o' + k * 4 + 2, none⟩) hbs').trans p2
        have r3 : ∀ o9, (wr.alloc o9).cell? ⟨b', o' + k * 4 + 3, none⟩ = some (.slice T1 T2 T3) := fun o9 => ((bAl (Below.refl wr.heap.size wr) o9).cell (p := ⟨b', o' + k * 4 + 3, none⟩) hbs').trans p3
        obtain ⟨be, hbe⟩ : ∃ b, Hid (b = decide (x = y)) := ⟨_, Lib.hid rfl⟩
        have hc : ∀ W, Below wr.heap.size wr W → Calls Tryz.prog 50 #[.agg #[.int .u8 (x.kind : Int), .int .i64 x.step, .slice C1 C2 C3, .slice S1 S2 S3], .agg #[.int .u8 (y.kind : Int), .int .i64 y.step, .slice D1 D2 D3, .slice T1 T2 T3]] W fun e w' => e = .returned (.bool be) ∧ Below W.heap.size W w' := fun W hW => by
          rw [hbe.out]
          exact eqNd_any x y ⟨C1, C2, C3⟩ ⟨S1, S2, S3⟩ ⟨D1, D2, D3⟩ ⟨T1, T2, T3⟩ W ((hN.more hB.size).on hW) ((hN'.more hB.size).on hW)
        have hX : Hid (l[k]? = some x) := Lib.hid hx
        have hY : Hid (l2[k]? = some y) := Lib.hid hy
        clear hx hy hN hN' p0 p1 p2 p3
        obtain ⟨kx, hkx⟩ : ∃ z : Int, Hid (z = (x.kind : Int)) := ⟨_, Lib.hid rfl⟩
        obtain ⟨ky, hky⟩ : ∃ z : Int, Hid (z = (y.kind : Int)) := ⟨_, Lib.hid rfl⟩
        rw [← hkx.out] at q0 hc
        rw [← hky.out] at r0 hc
        have bA : Below wr.heap.size wr ((wr.alloc (.cells #[.int .u8 kx, .int .i64 x.step, .slice C1 C2 C3, .slice S1 S2 S3] 95)).alloc (.cells #[.int .u8 ky, .int .i64 y.step, .slice D1 D2 D3, .slice T1 T2 T3] 95)) := bAl (bAl (Below.refl _ _) _) _
        go_wp2_with fail
        refine (hc _ bA).mono ?_
        rintro e u ⟨rfl, bu⟩
        have hBu := hB.trans ((bJoin bA bu).mono hB.size)
        cases be
        · go_wp2_with fail
          go_ret
          refine ⟨ret_bool ?_, hBu⟩
          rw [hbr.out]
          symm
          rw [decide_eq_false_iff_not]
          intro e
          have h9 := hbe.out.symm
          rw [decide_eq_false_iff_not] at h9
          have h8 := hX.out
          rw [e, hY.out] at h8
          exact h9 (by injection h8 with h8; exact h8.symm)
        · go_wp2_with fail
          have he : x = y := by simpa using hbe.out.symm
          go_roundw
          case rel => exact ⟨k + 1, by omega, by go_num, Lib.hid (take_next Ht.out hX.out (he ▸ hY.out)), hBu⟩
          case measure => simp [intOf]; omega
      · obtain rfl : k = n := by omega
        have hlt' : ¬ (k : Int) < (k : Int) := by omega
        go_wp2_with fail
        go_ret
        refine ⟨ret_bool ?_, hB⟩
        rw [hbr.out]
        symm
        rw [decide_eq_true_iff]
        have h9 := Ht.out
        rwa [List.take_of_length_le (Nat.le_of_eq Hn.out), List.take_of_length_le (Nat.le_of_eq Hn2.out)] at h9
  · have hne : ((n : Int) != (n2 : Int)) = true := by simp; omega
    go_enter Tryz.func49, Tryz.ntmps49
    go_wp2_with fail
    go_ret
    refine ⟨ret_bool ?_, Below.refl _ _⟩
    rw [hbr.out]
    symm
    rw [decide_eq_false_iff_not]
    intro e
    exact hl (by rw [← Hn.out, ← Hn2.out, e])
set_option maxHeartbeats 8000000 in
set_option maxRecDepth 100000 in
/-- refute.Equal. -/
theorem requal_any (A A2 : Option Addr) (n c n2 c2 : Nat) (l l2 : List Nd) (w : World) (h : NodesAt w w.heap.size A l) (h2 : NodesAt w w.heap.size A2 l2) (hn : l.length = n) (hn2 : l2.length = n2) (hb : n ≤ 1000000) :
    Calls Tryz.prog 15 #[.agg #[.slice A n c], .agg #[.slice A2 n2 c2]] w fun e w' => e = .returned (.bool (decide (l = l2))) ∧ Below w.heap.size w w' := by
  have bA : Below w.heap.size w ((w.alloc (.cells #[.slice A n c] 41)).alloc (.cells #[.slice A2 n2 c2] 41)) := bAl (bAl (Below.refl _ _) _) _
  have hc := eqNs_any A A2 n c n2 c2 l l2 _ ((h.below bA).more bA.size) ((h2.below bA).more bA.size) hn hn2 hb
  obtain ⟨br, hbr⟩ : ∃ b, Hid (b = decide (l = l2)) := ⟨_, Lib.hid rfl⟩
  rw [← hbr.out] at hc ⊢
  clear h h2 hn hn2
  go_enter Tryz.func15, Tryz.ntmps15
  go_wp2_with fail
  refine hc.mono ?_
  rintro e u ⟨rfl, bu⟩
  have hBu := bJoin bA bu
  go_wp2_with fail
  go_ret
  exact ⟨rfl, hBu⟩
end Go.Proofs.YtcnofhlgiffkjaaGreatDoor
