/- The walk of refute.Read. (genread.py) -/
import Derived.Test.YtcnofhlgiffkjaaGreatDoorRdW
import Derived.Laws.ResultCell
namespace Go.Proofs.YtcnofhlgiffkjaaGreatDoor
open Go.RowKit
set_option linter.unusedVariables false
set_option linter.unusedSimpArgs false

/-- What Read returns. -/
def RdPost (ok : Bool) (l : List Nd) (w : World) (e : Ending) (w' : World) : Prop :=
  ∃ (A' : Option Addr) (n' c' : Nat), e = .returned (.tuple #[.agg #[.slice A' n' c'], .int .i64 (if ok then 0 else 6)]) ∧ (ok = true → ∃ ys : List NdS, ys.map (·.x) = l ∧ OwnNs .u8 95 w' w.heap.size (.slice A' n' c') n' ys) ∧ (ok = false → n' = 0) ∧ n' ≤ 1000000 ∧ Below w.heap.size w w'
theorem ret_ref2 {fn : Func} {R : Ending → World → Prop} {a : Act} {w : World} {p q : Tmp} (h : fn.results = #[.cell p 41, .tmp q]) (g : Nat) (u : Value) (hp : a.tmps.getD p undef = .pointer (some ⟨g, 0, none⟩))
    (hb : Blk w g 41 #[u]) (hd : a.defers = []) (hR : R (.returned (.tuple #[.agg #[u], a.tmps.getD q undef])) w) : bodyPost Tryz.prog fn R .ret a w := by
  refine bodyPost_ret ?_ hd hR
  rw [results_cell_tmp h, hp]
  have := run_loadVar_row w g _ 41 #[u] (0, 0) _ hb Tryz.underlying41 rfl (by kernel_rfl)
  simp [asAddr, this, Result.andThen]
theorem OwnNs.only {k : IntKind} {T : TypeId} {w w' : World} {B g n : Nat} {v : Value} {ys : List NdS} (h : OwnNs k T w B v n ys) (ho : Only w w' g) (hg : g < B) : OwnNs k T w' B v n ys :=
  ⟨row_only h.row ho hg, fun y hy => ⟨(h.nd y hy).k8, row_only (h.nd y hy).ch ho hg, row_only (h.nd y hy).st ho hg, (h.nd y hy).bc, (h.nd y hy).bs⟩⟩
theorem OwnNs.putB {k : IntKind} {T : TypeId} {w : World} {base n g t i : Nat} {v : Value} {ys : List NdS} {cs : Array Value} (h : OwnNs k T w base v n ys) (hne : v.ownBlock ≠ some g) (hb : Blk w g t cs) (ht : 3 ≠ t) (u : Value) : OwnNs k T (w.setCell ⟨g, i, none⟩ u) base v n ys :=
  ⟨ownsRow_setCell_other h.row (a := ⟨g, i, none⟩) hne u, fun y hy => (h.nd y hy).put hb ht u⟩
theorem Blk.onl {w w' : World} {k g t : Nat} {cs : Array Value} (h : Blk w k t cs) (ho : Only w w' g) (hk : k ≠ g) : Blk w' k t cs :=
  (ho.block k h.lt hk (by simp)).trans h
theorem nU_le (most : Nat) (p : List UInt8) (e : Int) : (nU most p e).1 ≤ most ∧ (nU most p e).2.1.length ≤ p.length := by
  unfold nU rdU
  by_cases c : e = 0
  · rw [if_pos c]
    by_cases c2 : (num p).2 = 0
    · rw [if_pos c2]; exact ⟨Nat.zero_le _, Nat.le_refl _⟩
    · rw [if_neg c2]
      by_cases c3 : most < (num p).1
      · rw [if_pos c3]; exact ⟨Nat.zero_le _, Nat.le_refl _⟩
      · rw [if_neg c3]; exact ⟨by show (num p).1 ≤ most; omega, by show (p.drop _).length ≤ _; rw [List.length_drop]; omega⟩
  · rw [if_neg c]; exact ⟨Nat.zero_le _, Nat.le_refl _⟩
theorem goL_left : ∀ (k : Nat) (p : List UInt8) (e : Int), (goL k p e).2.1.length ≤ p.length
  | 0, _, _ => Nat.le_refl _
  | k + 1, p, e => by
    rw [goL]
    by_cases c : e = 0
    · rw [if_pos c]
      exact Nat.le_trans (goL_left k _ _) (nU_le _ _ _).2
    · rw [if_neg c]; exact Nat.le_refl _
theorem liR_left (p : List UInt8) (e : Int) : (liR p e).2.1.length ≤ p.length := Nat.le_trans (goL_left _ _ _) (nC_le _ _ _).2
set_option maxHeartbeats 32000000 in
set_option maxRecDepth 100000 in
/-- Read. -/
theorem read_walk (A : Option Addr) (n c : Nat) (p : List UInt8) (w : World) (hs : Sees w w.heap.size A (p.map bv)) (hn : p.length = n) (hb : n ≤ 1000000) :
    Calls Tryz.prog 13 #[.slice A n c] w fun e w' => RdPost (okR p) (rdN p).1 w e w' := by
  have hok : Hid (okR p = (decide ((rdN p).2.2 = 0) && (rdN p).2.1.isEmpty)) := Lib.hid rfl
  obtain ⟨fin, hfin⟩ : ∃ x, Hid (x = rdN p) := ⟨_, Lib.hid rfl⟩
  rw [← hfin.out] at hok ⊢
  obtain ⟨okB, hokB⟩ : ∃ b, Hid (b = okR p) := ⟨_, Lib.hid rfl⟩
  rw [← hokB.out] at hok ⊢
  have hni : (n : Int) ≤ 1000000 := by omega
  have hle := nC_le p.length p 0
  have hf0 : Hid (fin = goN (nC p.length p 0).1 (nC p.length p 0).2.1 (nC p.length p 0).2.2) := Lib.hid (by rw [hfin.out]; rfl)
  have hC := fun g W (h : RdAt W g p 0) => nC_any g p 0 p.length W h (by omega)
  generalize nC p.length p 0 = x at hC hf0 hle
  obtain ⟨cn, q, e1⟩ := x
  simp only [] at hC hf0 hle
  rw [hn] at hC
  have hql : q.length ≤ 1000000 := by omega
  have hcn : (cn : Int) ≤ 1000000 := by omega
  have hcn' : cn ≤ 1000000 := by omega
  have Hn := Lib.hid hn
  clear hn hle
  have bA := bAl (Below.refl w.heap.size w) (.cells #[.slice none 0 0] 41)
  have kA := Blk.new w 41 #[.slice none 0 0]
  have hsA := hs.on bA
  go_enter Tryz.func13, Tryz.ntmps13
  go_upto_region 1 with fail
  have zA : w.heap.size < (w.alloc (.cells #[.slice none 0 0] 41)).heap.size := by simp
  generalize (w.alloc (.cells #[.slice none 0 0] 41)) = u0 at bA kA hsA zA ⊢
  go_wp2_with fail
  refine (newReader_any A n c p u0 hsA Hn.out (by omega)).mono ?_
  rintro e u1 ⟨g, rfl, hg0, hR, b1⟩
  have kA1 := kA.on b1
  have bu1 := bA.trans (b1.mono bA.size)
  have hg1 := hR.lt
  have z1 := b1.size
  clear kA hsA b1 hs
  go_upto_region 3 with fail
  have b2 := bAl (Below.refl u1.heap.size u1) (.cells #[.slice none 0 0] 41)
  have kO := Blk.new u1 41 #[.slice none 0 0]
  generalize (u1.alloc (.cells #[.slice none 0 0] 41)) = u2 at b2 kO ⊢
  have hR2 := hR.on b2
  have kA2 := kA1.on b2
  clear kA1 hR
  go_wp2_with fail
  refine (hC g u2 hR2).mono ?_
  rintro e u3 ⟨rfl, hR3, o3⟩
  have hgA : w.heap.size ≠ g := by omega
  have hgO : u1.heap.size ≠ g := by omega
  have kA3 := kA2.onl o3 hgA
  have kO3 := kO.onl o3 hgO
  have hgw : w.heap.size ≤ g := by omega
  have OB : ∀ {W W' : World}, w.heap.size ≤ W.heap.size → Only W W' g → Below w.heap.size W W' := fun hz ho => ho.below hz hgw (fun k hk => by cases hk)
  have bu3 : Below w.heap.size w u3 := (bu1.trans (b2.mono bu1.size)).trans (OB (Nat.le_trans bu1.size b2.size) o3)
  have zz3 : u1.heap.size ≤ u3.heap.size := Nat.le_trans b2.size o3.size
  clear kA2 kO hR2 o3 hC b2
  go_wp2_with fail
  go_loopw [6] (fun v6 wr => ∃ (k m cc : Nat) (Ak : Option Addr) (ys : List NdS) (p1 : List UInt8) (e2 : Int), v6 = .int .i64 k ∧ m + k ≤ cn ∧ Blk wr u1.heap.size 41 #[.slice Ak m cc] ∧ OwnNs .u8 95 wr u1.heap.size (.slice Ak m cc) m ys ∧ RdAt wr g p1 e2 ∧ Blk wr w.heap.size 41 #[.slice none 0 0] ∧ Below w.heap.size w wr ∧ u1.heap.size ≤ wr.heap.size ∧ p1.length ≤ 1000000 ∧ Hid (fin = (ys.map (·.x) ++ (goN k p1 e2).1, (goN k p1 e2).2))) (fun v6 _ => (intOf v6).toNat)
  case atStart => exact ⟨cn, 0, 0, none, [], q, e1, rfl, by omega, kO3, OwnNs.nil _ _ _ _, hR3, kA3, bu3, zz3, hql, Lib.hid (by rw [hf0.out]; rfl)⟩
  case round =>
    clear hR3 kA3 kO3 bu3 zz3 hf0
    obtain ⟨k, m, cc, Ak, ys, p1, e2, rfl, hmk, kO, hNs, hR, kA, bw, zw, hp1, hF⟩ := hrel
    rename_i wr
    obtain ⟨W0, rfl⟩ : ∃ W0, W0 = wr := ⟨_, rfl⟩
    have herr := err_any g p1 e2 W0 hR
    have hend := fun (W : World) p' e' (h : RdAt W g p' e') => end_any g p' e' W h
    have ende : Hid ((k = 0 ∨ e2 ≠ 0) → fin = (ys.map (·.x), p1, e2)) := Lib.hid (fun h => by
      rw [hF.out]
      cases k with
      | zero => simp [goN]
      | succ k => rw [goN, if_neg (h.resolve_left (Nat.succ_ne_zero k))]; simp)
    have fO : W0.cell? ⟨u1.heap.size, 0, none⟩ = some (.slice Ak m cc) := (kO.cell 0).trans rfl
    have fA : W0.cell? ⟨w.heap.size, 0, none⟩ = some (.slice none 0 0) := (kA.cell 0).trans rfl
    have gA := kA.frozen 0
    have gO := kO.frozen 0
    by_cases hstop : k = 0 ∨ e2 ≠ 0
    · have hfe := ende.out hstop
      have hokx : okB = decide (e2 = 0 ∧ p1 = []) := by rw [hok.out, hfe]; cases p1 <;> simp
      have hle := hNs.len
      have hm6 : m ≤ 1000000 := by omega
      have HN : Hid (okB = true → ∃ ys' : List NdS, ys'.map (·.x) = fin.1 ∧ OwnNs .u8 95 W0 w.heap.size (.slice Ak m cc) m ys') := Lib.hid (fun _ => ⟨ys, by rw [hfe], hNs.less (Nat.le_trans (Nat.le_of_lt zA) z1)⟩)
      have hend1 := hend W0 p1 e2 hR
      by_cases hfine : e2 = 0 ∧ p1 = []
      · have hB : okB = true := by rw [hokx]; simp [hfine]
        obtain ⟨rfl, rfl⟩ := hfine
        have k0 : k = 0 := hstop.resolve_right (fun h => h rfl)
        subst k0
        subst hB
        have hend1 : Calls Tryz.prog 44 #[.pointer (some ⟨g, 0, none⟩)] W0 fun e w' => e = .returned (.int .i64 0) ∧ W0 = w' := by simpa using hend1
        clear hend hstop hfe hokx hF ende
        go_wp2_with fail
        refine hend1.mono ?_
        rintro e W1 ⟨rfl, rfl⟩
        go_wp2_with fail
        (try simp only [Exit.inBlock, Exit.then])
        refine ret_ref2 rfl w.heap.size (.slice Ak m cc) rfl (kA.put 0 (.slice Ak m cc)) rfl ?_
        unfold RdPost
        have hN := HN.out (by first | trivial | rfl)
        obtain ⟨ys', hy1, hy2⟩ := hN
        exact ⟨Ak, m, cc, rfl, fun _ => ⟨ys', hy1, hy2.put kA (by decide) (by decide) _⟩, (fun h => by cases h), hm6, bw.setCell (p := ⟨w.heap.size, 0, none⟩) (Nat.le_refl _) _⟩
      · have hB : okB = false := by rw [hokx]; simpa using hfine
        subst hB
        obtain ⟨ee, he0, hend2⟩ : ∃ ee : Int, ee ≠ 0 ∧ Calls Tryz.prog 44 #[.pointer (some ⟨g, 0, none⟩)] W0 fun e w' => e = .returned (.int .i64 ee) ∧ W0 = w' := by
          refine ⟨_, ?_, hend1⟩
          by_cases h0 : e2 = 0
          · rw [if_pos ⟨h0, fun h => hfine ⟨h0, h⟩⟩]; decide
          · rw [if_neg (fun h => h0 h.1)]; exact h0
        have he0' : (ee == 0) = false := beq_false_of_ne he0
        clear hend hend1 hfe hokx hF ende
        cases k with
        | zero =>
          go_wp2_with fail
          refine hend2.mono ?_
          rintro e W1 ⟨rfl, rfl⟩
          go_wp2_with fail
          (try simp only [Exit.inBlock, Exit.then])
          refine ret_ref2 rfl w.heap.size (.slice none 0 0) rfl (kA.put 0 (.slice none 0 0)) rfl ?_
          unfold RdPost
          exact ⟨none, 0, 0, rfl, (fun h => by cases h), fun _ => rfl, by omega, bw.setCell (p := ⟨w.heap.size, 0, none⟩) (Nat.le_refl _) _⟩
        | succ k =>
          have hk0 : (0 : Int) < ((k + 1 : Nat) : Int) := by omega
          have c2' : (e2 == 0) = false := beq_false_of_ne (hstop.resolve_left (Nat.succ_ne_zero k))
          go_wp2_with fail
          refine herr.mono ?_
          rintro e W1 ⟨rfl, rfl⟩
          go_wp2_with fail
          refine hend2.mono ?_
          rintro e W1 ⟨rfl, rfl⟩
          go_wp2_with fail
          (try simp only [Exit.inBlock, Exit.then])
          refine ret_ref2 rfl w.heap.size (.slice none 0 0) rfl (kA.put 0 (.slice none 0 0)) rfl ?_
          unfold RdPost
          exact ⟨none, 0, 0, rfl, (fun h => by cases h), fun _ => rfl, by omega, bw.setCell (p := ⟨w.heap.size, 0, none⟩) (Nat.le_refl _) _⟩
    · have hk : k ≠ 0 := fun h => hstop (.inl h)
      obtain ⟨k, rfl⟩ : ∃ j, k = j + 1 := ⟨k - 1, by omega⟩
      have c2 : e2 = 0 := Decidable.byContradiction fun h => hstop (.inr h)
      subst c2
      clear hstop ende hend hk hok fO fA gA gO
      have hk0 : (0 : Int) < ((k + 1 : Nat) : Int) := by omega
      have hkb : ((k + 1 : Nat) : Int) ≤ 1000000 := by omega
      have hF2 : Hid (fin = (ys.map (·.x) ++ (ndR p1 0).1 :: (goN k (ndR p1 0).2.1 (ndR p1 0).2.2).1, (goN k (ndR p1 0).2.1 (ndR p1 0).2.2).2)) := Lib.hid (by rw [hF.out, goN, if_pos rfl])
      clear hF
      have hN1 := nU_any g p1 0 3 W0 hR (by omega)
      have hl1 := nU_le 3 p1 0
      obtain ⟨kd, pa, ea, ha⟩ : ∃ a b c, Hid (nU 3 p1 0 = (a, b, c)) := ⟨_, _, _, Lib.hid rfl⟩
      rw [ha.out] at hN1 hl1
      simp only [] at hN1 hl1
      obtain ⟨hkd3, hpa⟩ := hl1
      have hkd3i : (kd : Int) ≤ 3 := by omega
      have hpa6 : pa.length ≤ 1000000 := by omega
      clear hpa
      go_wp2_with fail
      refine herr.mono ?_
      rintro e W1 ⟨rfl, rfl⟩
      go_wp2_with fail
      refine hN1.mono ?_
      rintro e u4 ⟨rfl, hR, o4⟩
      have kO := kO.onl o4 hgO
      have kA := kA.onl o4 hgA
      have hNs := hNs.only o4 hg1
      have bw := bw.trans (OB (Nat.le_trans (Nat.le_trans bu1.size (Nat.le_refl _)) zw) o4)
      have zw := Nat.le_trans zw o4.size
      clear herr hN1 o4
      go_upto_region 7 with fail
      have bk := bAl (Below.refl u4.heap.size u4) (.cells #[.int .u8 (kd : Int), .int .i64 0, .slice none 0 0, .slice none 0 0] 95)
      have kX := Blk.new u4 95 #[.int .u8 (kd : Int), .int .i64 0, .slice none 0 0, .slice none 0 0]
      have zX : u4.heap.size < (u4.alloc (.cells #[.int .u8 (kd : Int), .int .i64 0, .slice none 0 0, .slice none 0 0] 95)).heap.size := by simp
      have hX1 := zw
      have hXr : (Value.slice Ak m cc).ownBlock ≠ some u4.heap.size := fun e => absurd (hNs.row.lt _ e).2 (Nat.lt_irrefl _)
      have hXO : u1.heap.size ≠ u4.heap.size := Nat.ne_of_lt kO.lt
      have hXA : w.heap.size ≠ u4.heap.size := Nat.ne_of_lt kA.lt
      have hXw : w.heap.size ≤ u4.heap.size := Nat.le_of_lt kA.lt
      have hgX : u4.heap.size ≠ g := Ne.symm (Nat.ne_of_lt hR.lt)
      have hAO : w.heap.size ≠ u1.heap.size := by omega
      have hR := hR.on bk
      have kO := kO.on bk
      have kA := kA.on bk
      have hNs := hNs.on bk
      have bw := bw.trans (bk.mono bw.size)
      have zw := Nat.le_trans zw bk.size
      generalize (u4.alloc (.cells #[.int .u8 (kd : Int), .int .i64 0, .slice none 0 0, .slice none 0 0] 95)) = u5 at bk kX zX hR kO kA hNs bw zw ⊢
      clear bk
      obtain ⟨X0, hX0⟩ : ∃ X0, X0 = u4.heap.size := ⟨_, rfl⟩
      rw [← hX0] at kX zX hX1 hXO hXA hXw hgX hXr ⊢
      clear hX0
      have x0 : u5.cell? ⟨X0, 0, none⟩ = some (.int .u8 (kd : Int)) := (kX.cell 0).trans rfl
      by_cases hkd0 : kd = 0
      · have hkr : Hid (kdR p1 0 = (kd, pa, nF ea 6)) := Lib.hid (by unfold kdR; rw [ha.out]; simp [hkd0])
        have hkdb : ((kd : Int) == 0) = true := by rw [hkd0]; rfl
        have hkd0i := Lib.hid hkd0
        have hkI : (kd : Int) ≤ 3 := by omega
        clear hkd0
        go_wp2_with fail
        refine (nF_any g pa ea 6 u5 hR).mono ?_
        rintro e u6 ⟨rfl, hR, o6⟩
        have kO := kO.onl o6 hgO
        have kA := kA.onl o6 hgA
        have hNs := hNs.only o6 hg1
        have bw := bw.trans (OB (Nat.le_trans (Nat.le_trans bu1.size (Nat.le_refl _)) zw) o6)
        have zw := Nat.le_trans zw o6.size
        have kX := kX.onl o6 hgX
        have zX := Nat.le_trans zX o6.size
        clear o6 x0 hkdb hkd0i
        generalize nF ea 6 = eb at hR hkr
        obtain ⟨stp, pb, ec, hb⟩ : ∃ a b c, Hid (nU 2147483647 pa eb = (a, b, c)) := ⟨_, _, _, Lib.hid rfl⟩
        obtain ⟨C, pc, ed, hc⟩ : ∃ a b c, Hid (liR pb ec = (a, b, c)) := ⟨_, _, _, Lib.hid rfl⟩
        obtain ⟨S, pd, ee, hd⟩ : ∃ a b c, Hid (liR pc ed = (a, b, c)) := ⟨_, _, _, Lib.hid rfl⟩
        have hnd : Hid (ndR p1 0 = (⟨kd, stp, C, S⟩, pd, ee)) := Lib.hid (by unfold ndR; rw [hkr.out]; simp only []; rw [hb.out]; simp only []; rw [hc.out]; simp only []; rw [hd.out])
        have hN2 := nU_any g pa eb 2147483647 u6 hR (by omega)
        have hl2 := nU_le 2147483647 pa eb
        rw [hb.out] at hN2 hl2
        simp only [] at hN2 hl2
        have hl3 := liR_left pb ec
        rw [hc.out] at hl3
        simp only [] at hl3
        have hl4 := liR_left pc ed
        rw [hd.out] at hl4
        simp only [] at hl4
        have hpb : pb.length ≤ 1000000 := by omega
        have hpc : pc.length ≤ 1000000 := by omega
        have hpd : pd.length ≤ 1000000 := by omega
        have hst : (stp : Int) ≤ 2147483647 := by omega
        clear hl2 hl3 hl4
        go_wp2_with fail
        refine hN2.mono ?_
        rintro e u7 ⟨rfl, hR, o7⟩
        have kO := kO.onl o7 hgO
        have kA := kA.onl o7 hgA
        have hNs := hNs.only o7 hg1
        have bw := bw.trans (OB (Nat.le_trans (Nat.le_trans bu1.size (Nat.le_refl _)) zw) o7)
        have zw := Nat.le_trans zw o7.size
        have kX := kX.onl o7 hgX
        have zX := Nat.le_trans zX o7.size
        clear o7 hN2
        have fx := kX.frozen 1
        have x1 : u7.cell? ⟨X0, 1, none⟩ = some (.int .i64 0) := (kX.cell 1).trans rfl
        go_upto_region 10 with fail
        clear fx x1
        have hR := hR.belowB ((Below.refl u1.heap.size u7).setCell (p := ⟨X0, 1, none⟩) hX1 (.int .i64 (stp : Int))) hg1
        have kO := kO.far (p := ⟨X0, 1, none⟩) hXO (.int .i64 (stp : Int))
        have kA := kA.far (p := ⟨X0, 1, none⟩) hXA (.int .i64 (stp : Int))
        have hNs := hNs.putB (i := 1) hXr kX (by decide) (.int .i64 (stp : Int))
        have bw := bw.setCell (p := ⟨X0, 1, none⟩) hXw (.int .i64 (stp : Int))
        have zw : u1.heap.size ≤ (u7.setCell ⟨X0, 1, none⟩ (.int .i64 (stp : Int))).heap.size := by rw [World.size_setCell]; exact zw
        have zX : X0 < (u7.setCell ⟨X0, 1, none⟩ (.int .i64 (stp : Int))).heap.size := by rw [World.size_setCell]; exact zX
        have kX : Blk (u7.setCell ⟨X0, 1, none⟩ (.int .i64 (stp : Int))) X0 95 #[.int .u8 (kd : Int), .int .i64 (stp : Int), .slice none 0 0, .slice none 0 0] := kX.put 1 (.int .i64 (stp : Int))
        generalize (u7.setCell ⟨X0, 1, none⟩ (.int .i64 (stp : Int))) = u8 at hR kO kA hNs bw zw zX kX ⊢
        have hL1 := rlist_walk g pb ec u8 hR hpb
        rw [hc.out] at hL1
        simp only [] at hL1
        go_wp2_with fail
        refine hL1.mono ?_
        rintro e u9 ⟨A3, n3, c3, rfl, oC, hR, o9, hn3⟩
        have hgC : g < u8.heap.size := Nat.lt_of_lt_of_le hg1 zw
        have zC := zw
        have kO := kO.onl o9 hgO
        have kA := kA.onl o9 hgA
        have hNs := hNs.only o9 hg1
        have bw := bw.trans (OB (Nat.le_trans (Nat.le_trans bu1.size (Nat.le_refl _)) zw) o9)
        have zw := Nat.le_trans zw o9.size
        have kX := kX.onl o9 hgX
        have zX := Nat.le_trans zX o9.size
        clear o9 hL1
        have fx := kX.frozen 2
        have x1 : u9.cell? ⟨X0, 2, none⟩ = some (.slice none 0 0) := (kX.cell 2).trans rfl
        go_upto_region 11 with fail
        clear fx x1
        have hR := hR.belowB ((Below.refl u1.heap.size u9).setCell (p := ⟨X0, 2, none⟩) hX1 (.slice A3 n3 c3)) hg1
        have kO := kO.far (p := ⟨X0, 2, none⟩) hXO (.slice A3 n3 c3)
        have kA := kA.far (p := ⟨X0, 2, none⟩) hXA (.slice A3 n3 c3)
        have hNs := hNs.putB (i := 2) hXr kX (by decide) (.slice A3 n3 c3)
        have bw := bw.setCell (p := ⟨X0, 2, none⟩) hXw (.slice A3 n3 c3)
        have zw : u1.heap.size ≤ (u9.setCell ⟨X0, 2, none⟩ (.slice A3 n3 c3)).heap.size := by rw [World.size_setCell]; exact zw
        have zX : X0 < (u9.setCell ⟨X0, 2, none⟩ (.slice A3 n3 c3)).heap.size := by rw [World.size_setCell]; exact zX
        have oC := ownsRow_setCell_other oC (a := ⟨X0, 2, none⟩) (own_off oC kX (by decide)) (.slice A3 n3 c3)
        have kX : Blk (u9.setCell ⟨X0, 2, none⟩ (.slice A3 n3 c3)) X0 95 #[.int .u8 (kd : Int), .int .i64 (stp : Int), .slice A3 n3 c3, .slice none 0 0] := kX.put 2 (.slice A3 n3 c3)
        generalize (u9.setCell ⟨X0, 2, none⟩ (.slice A3 n3 c3)) = u10 at hR kO kA hNs bw zw zX kX oC ⊢
        have hL2 := rlist_walk g pc ed u10 hR hpc
        rw [hd.out] at hL2
        simp only [] at hL2
        go_wp2_with fail
        refine hL2.mono ?_
        rintro e u11 ⟨A4, n4, c4, rfl, oS, hR, o11, hn4⟩
        have zS := zw
        have kO := kO.onl o11 hgO
        have kA := kA.onl o11 hgA
        have hNs := hNs.only o11 hg1
        have bw := bw.trans (OB (Nat.le_trans (Nat.le_trans bu1.size (Nat.le_refl _)) zw) o11)
        have zw := Nat.le_trans zw o11.size
        have kX := kX.onl o11 hgX
        have zX := Nat.le_trans zX o11.size
        have oC := row_only oC o11 hgC
        clear o11 hL2
        have fx := kX.frozen 3
        have x1 : u11.cell? ⟨X0, 3, none⟩ = some (.slice none 0 0) := (kX.cell 3).trans rfl
        go_upto_region 12 with fail
        clear fx x1
        have hR := hR.belowB ((Below.refl u1.heap.size u11).setCell (p := ⟨X0, 3, none⟩) hX1 (.slice A4 n4 c4)) hg1
        have kO := kO.far (p := ⟨X0, 3, none⟩) hXO (.slice A4 n4 c4)
        have kA := kA.far (p := ⟨X0, 3, none⟩) hXA (.slice A4 n4 c4)
        have hNs := hNs.putB (i := 3) hXr kX (by decide) (.slice A4 n4 c4)
        have bw := bw.setCell (p := ⟨X0, 3, none⟩) hXw (.slice A4 n4 c4)
        have zw : u1.heap.size ≤ (u11.setCell ⟨X0, 3, none⟩ (.slice A4 n4 c4)).heap.size := by rw [World.size_setCell]; exact zw
        have zX : X0 < (u11.setCell ⟨X0, 3, none⟩ (.slice A4 n4 c4)).heap.size := by rw [World.size_setCell]; exact zX
        have oC := ownsRow_setCell_other oC (a := ⟨X0, 3, none⟩) (own_off oC kX (by decide)) (.slice A4 n4 c4)
        have oS := ownsRow_setCell_other oS (a := ⟨X0, 3, none⟩) (own_off oS kX (by decide)) (.slice A4 n4 c4)
        have kX : Blk (u11.setCell ⟨X0, 3, none⟩ (.slice A4 n4 c4)) X0 95 #[.int .u8 (kd : Int), .int .i64 (stp : Int), .slice A3 n3 c3, .slice A4 n4 c4] := kX.put 3 (.slice A4 n4 c4)
        generalize (u11.setCell ⟨X0, 3, none⟩ (.slice A4 n4 c4)) = u12 at hR kO kA hNs bw zw zX kX oC oS ⊢
        have y0 : u12.cell? ⟨X0, 0, none⟩ = some (.int .u8 (kd : Int)) := (kX.cell 0).trans rfl
        have y1 : u12.cell? ⟨X0, 1, none⟩ = some (.int .i64 (stp : Int)) := (kX.cell 1).trans rfl
        have y2 : u12.cell? ⟨X0, 2, none⟩ = some (.slice A3 n3 c3) := (kX.cell 2).trans rfl
        have y3 : u12.cell? ⟨X0, 3, none⟩ = some (.slice A4 n4 c4) := (kX.cell 3).trans rfl
        have yO : u12.cell? ⟨u1.heap.size, 0, none⟩ = some (.slice Ak m cc) := (kO.cell 0).trans rfl
        have hyd : NdO u12 u1.heap.size ⟨⟨kd, stp, C, S⟩, ⟨A3, n3, c3⟩, ⟨A4, n4, c4⟩⟩ := ⟨by show kd < 256; omega, own_less oC zC, own_less oS zS, hn3, hn4⟩
        go_wp2_with (at_builtin; refine wpL_row1 95 39 _ 4 64 pnode_info Tryz.underlying39 rfl (by omega) (by omega) _ rfl (.tmp 42) (.tmp 44) rfl u12 u1.heap.size _ m _ rfl hNs.row #[.int .u8 (kd : Int), .int .i64 (stp : Int), .slice A3 n3 c3, .slice A4 n4 c4] rfl _ rfl rfl rfl (by simp [Value.oneCell']) (by omega) zw (m + 1) rfl ?_; intro A9 c9 w9 o9 g9 b9 hk9; have kO9 := kO.grown g9 (own_off hNs.row kO (by decide)); have kA9 := kA.grown g9 (own_off hNs.row kA (by decide)); have yO9 : w9.cell? ⟨u1.heap.size, 0, none⟩ = some (.slice Ak m cc) := (kO9.cell 0).trans rfl; have fO9 := kO9.frozen 0)
        have hNs9 := OwnNs.add (y := ⟨⟨kd, stp, C, S⟩, ⟨A3, n3, c3⟩, ⟨A4, n4, c4⟩⟩) hNs (by decide) hyd o9 g9
        have bw9 := bw.trans (b9.mono (Nat.le_trans bu1.size (Nat.le_refl _)))
        have zw9 := Nat.le_trans zw b9.size
        have hR9 := hR.belowB b9 hg1
        have hF3 : Hid (fin = (ys.map (·.x) ++ (⟨kd, stp, C, S⟩ : Nd) :: (goN k pd ee).1, (goN k pd ee).2)) := Lib.hid (by rw [hF2.out, hnd.out])
        go_roundw
        case rel => exact ⟨k, m + 1, c9, A9, _, pd, ee, rfl, by omega, kO9.put 0 (.slice A9 (m + 1) c9), hNs9.put (i := 0) kO9 (by decide) (by decide) (.slice A9 (m + 1) c9), hR9.belowB ((Below.refl u1.heap.size w9).setCell (p := ⟨u1.heap.size, 0, none⟩) (Nat.le_refl _) (.slice A9 (m + 1) c9)) hg1, kA9.far (p := ⟨u1.heap.size, 0, none⟩) hAO (.slice A9 (m + 1) c9), bw9.setCell (p := ⟨u1.heap.size, 0, none⟩) bu1.size (.slice A9 (m + 1) c9), by rw [World.size_setCell]; exact zw9, hpd, Lib.hid (by rw [hF3.out]; simp)⟩
        case measure => simp [intOf]
      · have hkr : Hid (kdR p1 0 = (kd, pa, ea)) := Lib.hid (by unfold kdR; rw [ha.out]; simp [hkd0])
        have hkd0i : ¬ (kd : Int) = 0 := by omega
        have hkdb : ((kd : Int) == 0) = false := beq_false_of_ne hkd0i
        obtain ⟨stp, pb, ec, hb⟩ : ∃ a b c, Hid (nU 2147483647 pa ea = (a, b, c)) := ⟨_, _, _, Lib.hid rfl⟩
        obtain ⟨C, pc, ed, hc⟩ : ∃ a b c, Hid (liR pb ec = (a, b, c)) := ⟨_, _, _, Lib.hid rfl⟩
        obtain ⟨S, pd, ee, hd⟩ : ∃ a b c, Hid (liR pc ed = (a, b, c)) := ⟨_, _, _, Lib.hid rfl⟩
        have hnd : Hid (ndR p1 0 = (⟨kd, stp, C, S⟩, pd, ee)) := Lib.hid (by unfold ndR; rw [hkr.out]; simp only []; rw [hb.out]; simp only []; rw [hc.out]; simp only []; rw [hd.out])
        have hN2 := nU_any g pa ea 2147483647 u5 hR (by omega)
        have hl2 := nU_le 2147483647 pa ea
        rw [hb.out] at hN2 hl2
        simp only [] at hN2 hl2
        have hl3 := liR_left pb ec
        rw [hc.out] at hl3
        simp only [] at hl3
        have hl4 := liR_left pc ed
        rw [hd.out] at hl4
        simp only [] at hl4
        have hpb : pb.length ≤ 1000000 := by omega
        have hpc : pc.length ≤ 1000000 := by omega
        have hpd : pd.length ≤ 1000000 := by omega
        have hst : (stp : Int) ≤ 2147483647 := by omega
        clear hl2 hl3 hl4
        go_wp2_with fail
        refine hN2.mono ?_
        rintro e u7 ⟨rfl, hR, o7⟩
        have kO := kO.onl o7 hgO
        have kA := kA.onl o7 hgA
        have hNs := hNs.only o7 hg1
        have bw := bw.trans (OB (Nat.le_trans (Nat.le_trans bu1.size (Nat.le_refl _)) zw) o7)
        have zw := Nat.le_trans zw o7.size
        have kX := kX.onl o7 hgX
        have zX := Nat.le_trans zX o7.size
        clear o7 hN2
        have fx := kX.frozen 1
        have x1 : u7.cell? ⟨X0, 1, none⟩ = some (.int .i64 0) := (kX.cell 1).trans rfl
        go_upto_region 10 with fail
        clear fx x1
        have hR := hR.belowB ((Below.refl u1.heap.size u7).setCell (p := ⟨X0, 1, none⟩) hX1 (.int .i64 (stp : Int))) hg1
        have kO := kO.far (p := ⟨X0, 1, none⟩) hXO (.int .i64 (stp : Int))
        have kA := kA.far (p := ⟨X0, 1, none⟩) hXA (.int .i64 (stp : Int))
        have hNs := hNs.putB (i := 1) hXr kX (by decide) (.int .i64 (stp : Int))
        have bw := bw.setCell (p := ⟨X0, 1, none⟩) hXw (.int .i64 (stp : Int))
        have zw : u1.heap.size ≤ (u7.setCell ⟨X0, 1, none⟩ (.int .i64 (stp : Int))).heap.size := by rw [World.size_setCell]; exact zw
        have zX : X0 < (u7.setCell ⟨X0, 1, none⟩ (.int .i64 (stp : Int))).heap.size := by rw [World.size_setCell]; exact zX
        have kX : Blk (u7.setCell ⟨X0, 1, none⟩ (.int .i64 (stp : Int))) X0 95 #[.int .u8 (kd : Int), .int .i64 (stp : Int), .slice none 0 0, .slice none 0 0] := kX.put 1 (.int .i64 (stp : Int))
        generalize (u7.setCell ⟨X0, 1, none⟩ (.int .i64 (stp : Int))) = u8 at hR kO kA hNs bw zw zX kX ⊢
        have hL1 := rlist_walk g pb ec u8 hR hpb
        rw [hc.out] at hL1
        simp only [] at hL1
        go_wp2_with fail
        refine hL1.mono ?_
        rintro e u9 ⟨A3, n3, c3, rfl, oC, hR, o9, hn3⟩
        have hgC : g < u8.heap.size := Nat.lt_of_lt_of_le hg1 zw
        have zC := zw
        have kO := kO.onl o9 hgO
        have kA := kA.onl o9 hgA
        have hNs := hNs.only o9 hg1
        have bw := bw.trans (OB (Nat.le_trans (Nat.le_trans bu1.size (Nat.le_refl _)) zw) o9)
        have zw := Nat.le_trans zw o9.size
        have kX := kX.onl o9 hgX
        have zX := Nat.le_trans zX o9.size
        clear o9 hL1
        have fx := kX.frozen 2
        have x1 : u9.cell? ⟨X0, 2, none⟩ = some (.slice none 0 0) := (kX.cell 2).trans rfl
        go_upto_region 11 with fail
        clear fx x1
        have hR := hR.belowB ((Below.refl u1.heap.size u9).setCell (p := ⟨X0, 2, none⟩) hX1 (.slice A3 n3 c3)) hg1
        have kO := kO.far (p := ⟨X0, 2, none⟩) hXO (.slice A3 n3 c3)
        have kA := kA.far (p := ⟨X0, 2, none⟩) hXA (.slice A3 n3 c3)
        have hNs := hNs.putB (i := 2) hXr kX (by decide) (.slice A3 n3 c3)
        have bw := bw.setCell (p := ⟨X0, 2, none⟩) hXw (.slice A3 n3 c3)
        have zw : u1.heap.size ≤ (u9.setCell ⟨X0, 2, none⟩ (.slice A3 n3 c3)).heap.size := by rw [World.size_setCell]; exact zw
        have zX : X0 < (u9.setCell ⟨X0, 2, none⟩ (.slice A3 n3 c3)).heap.size := by rw [World.size_setCell]; exact zX
        have oC := ownsRow_setCell_other oC (a := ⟨X0, 2, none⟩) (own_off oC kX (by decide)) (.slice A3 n3 c3)
        have kX : Blk (u9.setCell ⟨X0, 2, none⟩ (.slice A3 n3 c3)) X0 95 #[.int .u8 (kd : Int), .int .i64 (stp : Int), .slice A3 n3 c3, .slice none 0 0] := kX.put 2 (.slice A3 n3 c3)
        generalize (u9.setCell ⟨X0, 2, none⟩ (.slice A3 n3 c3)) = u10 at hR kO kA hNs bw zw zX kX oC ⊢
        have hL2 := rlist_walk g pc ed u10 hR hpc
        rw [hd.out] at hL2
        simp only [] at hL2
        go_wp2_with fail
        refine hL2.mono ?_
        rintro e u11 ⟨A4, n4, c4, rfl, oS, hR, o11, hn4⟩
        have zS := zw
        have kO := kO.onl o11 hgO
        have kA := kA.onl o11 hgA
        have hNs := hNs.only o11 hg1
        have bw := bw.trans (OB (Nat.le_trans (Nat.le_trans bu1.size (Nat.le_refl _)) zw) o11)
        have zw := Nat.le_trans zw o11.size
        have kX := kX.onl o11 hgX
        have zX := Nat.le_trans zX o11.size
        have oC := row_only oC o11 hgC
        clear o11 hL2
        have fx := kX.frozen 3
        have x1 : u11.cell? ⟨X0, 3, none⟩ = some (.slice none 0 0) := (kX.cell 3).trans rfl
        go_upto_region 12 with fail
        clear fx x1
        have hR := hR.belowB ((Below.refl u1.heap.size u11).setCell (p := ⟨X0, 3, none⟩) hX1 (.slice A4 n4 c4)) hg1
        have kO := kO.far (p := ⟨X0, 3, none⟩) hXO (.slice A4 n4 c4)
        have kA := kA.far (p := ⟨X0, 3, none⟩) hXA (.slice A4 n4 c4)
        have hNs := hNs.putB (i := 3) hXr kX (by decide) (.slice A4 n4 c4)
        have bw := bw.setCell (p := ⟨X0, 3, none⟩) hXw (.slice A4 n4 c4)
        have zw : u1.heap.size ≤ (u11.setCell ⟨X0, 3, none⟩ (.slice A4 n4 c4)).heap.size := by rw [World.size_setCell]; exact zw
        have zX : X0 < (u11.setCell ⟨X0, 3, none⟩ (.slice A4 n4 c4)).heap.size := by rw [World.size_setCell]; exact zX
        have oC := ownsRow_setCell_other oC (a := ⟨X0, 3, none⟩) (own_off oC kX (by decide)) (.slice A4 n4 c4)
        have oS := ownsRow_setCell_other oS (a := ⟨X0, 3, none⟩) (own_off oS kX (by decide)) (.slice A4 n4 c4)
        have kX : Blk (u11.setCell ⟨X0, 3, none⟩ (.slice A4 n4 c4)) X0 95 #[.int .u8 (kd : Int), .int .i64 (stp : Int), .slice A3 n3 c3, .slice A4 n4 c4] := kX.put 3 (.slice A4 n4 c4)
        generalize (u11.setCell ⟨X0, 3, none⟩ (.slice A4 n4 c4)) = u12 at hR kO kA hNs bw zw zX kX oC oS ⊢
        have y0 : u12.cell? ⟨X0, 0, none⟩ = some (.int .u8 (kd : Int)) := (kX.cell 0).trans rfl
        have y1 : u12.cell? ⟨X0, 1, none⟩ = some (.int .i64 (stp : Int)) := (kX.cell 1).trans rfl
        have y2 : u12.cell? ⟨X0, 2, none⟩ = some (.slice A3 n3 c3) := (kX.cell 2).trans rfl
        have y3 : u12.cell? ⟨X0, 3, none⟩ = some (.slice A4 n4 c4) := (kX.cell 3).trans rfl
        have yO : u12.cell? ⟨u1.heap.size, 0, none⟩ = some (.slice Ak m cc) := (kO.cell 0).trans rfl
        have hyd : NdO u12 u1.heap.size ⟨⟨kd, stp, C, S⟩, ⟨A3, n3, c3⟩, ⟨A4, n4, c4⟩⟩ := ⟨by show kd < 256; omega, own_less oC zC, own_less oS zS, hn3, hn4⟩
        go_wp2_with (at_builtin; refine wpL_row1 95 39 _ 4 64 pnode_info Tryz.underlying39 rfl (by omega) (by omega) _ rfl (.tmp 42) (.tmp 44) rfl u12 u1.heap.size _ m _ rfl hNs.row #[.int .u8 (kd : Int), .int .i64 (stp : Int), .slice A3 n3 c3, .slice A4 n4 c4] rfl _ rfl rfl rfl (by simp [Value.oneCell']) (by omega) zw (m + 1) rfl ?_; intro A9 c9 w9 o9 g9 b9 hk9; have kO9 := kO.grown g9 (own_off hNs.row kO (by decide)); have kA9 := kA.grown g9 (own_off hNs.row kA (by decide)); have yO9 : w9.cell? ⟨u1.heap.size, 0, none⟩ = some (.slice Ak m cc) := (kO9.cell 0).trans rfl; have fO9 := kO9.frozen 0)
        have hNs9 := OwnNs.add (y := ⟨⟨kd, stp, C, S⟩, ⟨A3, n3, c3⟩, ⟨A4, n4, c4⟩⟩) hNs (by decide) hyd o9 g9
        have bw9 := bw.trans (b9.mono (Nat.le_trans bu1.size (Nat.le_refl _)))
        have zw9 := Nat.le_trans zw b9.size
        have hR9 := hR.belowB b9 hg1
        have hF3 : Hid (fin = (ys.map (·.x) ++ (⟨kd, stp, C, S⟩ : Nd) :: (goN k pd ee).1, (goN k pd ee).2)) := Lib.hid (by rw [hF2.out, hnd.out])
        go_roundw
        case rel => exact ⟨k, m + 1, c9, A9, _, pd, ee, rfl, by omega, kO9.put 0 (.slice A9 (m + 1) c9), hNs9.put (i := 0) kO9 (by decide) (by decide) (.slice A9 (m + 1) c9), hR9.belowB ((Below.refl u1.heap.size w9).setCell (p := ⟨u1.heap.size, 0, none⟩) (Nat.le_refl _) (.slice A9 (m + 1) c9)) hg1, kA9.far (p := ⟨u1.heap.size, 0, none⟩) hAO (.slice A9 (m + 1) c9), bw9.setCell (p := ⟨u1.heap.size, 0, none⟩) bu1.size (.slice A9 (m + 1) c9), by rw [World.size_setCell]; exact zw9, hpd, Lib.hid (by rw [hF3.out]; simp)⟩
        case measure => simp [intOf]
end Go.Proofs.YtcnofhlgiffkjaaGreatDoor
