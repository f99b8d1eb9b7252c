/- The walk of change: it also leaves alone the blocks from lo to hi, if the nodes lie outside them. (genchh.py) -/
import Derived.Test.YtcdgmdhfaniciaaDoorChgA
import Derived.Test.YtcdgmdhfaniciaaDoorPk
import Derived.Deep.CutRange
import Derived.Deep.CutBlock
namespace Go.Proofs.YtcdgmdhfaniciaaDoor
open Go.RowKit
set_option linter.unusedVariables false
set_option linter.unusedSimpArgs false

/-- The blocks lo .. hi - 1 are as in w0. -/
def Hi (lo hi : Nat) (w0 w : World) : Prop := ∀ k, lo ≤ k → k < hi → w.heap[k]? = w0.heap[k]?
theorem Hi.below {lo hi B : Nat} {w0 w w' : World} (h : Hi lo hi w0 w) (hb : Below B w w') (hB : hi ≤ B) : Hi lo hi w0 w' := fun k h1 h2 => (hb.block k (by omega)).trans (h k h1 h2)
theorem Hi.setCell {lo hi : Nat} {w0 w : World} {p : Addr} (h : Hi lo hi w0 w) (hp : p.block < lo ∨ hi ≤ p.block) (v : Value) : Hi lo hi w0 (w.setCell p v) := by
  intro k h1 h2
  have hne : k ≠ p.block := by omega
  have h3 : (w.setCell p v).heap[k]? = w.heap[k]? := Below.heap_setCell w p v k hne
  exact h3.trans (h k h1 h2)
theorem Hi.grown {lo hi : Nat} {w0 w w' : World} {row : Option Nat} (h : Hi lo hi w0 w) (hg : w.grownBy w' row) (hr : ∀ b, row = some b → b < lo ∨ hi ≤ b) (hh : hi ≤ w.heap.size) : Hi lo hi w0 w' := fun k h1 h2 =>
  (hg.block k (by omega) (fun e => by have := hr k e.symm; omega)).trans (h k h1 h2)
theorem Hi.drew {lo hi : Nat} {w0 w : World} (h : Hi lo hi w0 w) : Hi lo hi w0 w.drew := h
def OutV (lo hi : Nat) (v : Value) : Prop := ∀ b, v.ownBlock = some b → b < lo ∨ hi ≤ b
structure OutNs (lo hi : Nat) (v : Value) (ys : List NdS) : Prop where
  row : OutV lo hi v
  nd : ∀ y ∈ ys, OutV lo hi y.C.v ∧ OutV lo hi y.S.v
theorem OutNs.set {lo hi i : Nat} {v : Value} {ys : List NdS} {y' : NdS} (h : OutNs lo hi v ys) (hC : OutV lo hi y'.C.v) (hS : OutV lo hi y'.S.v) : OutNs lo hi v (ys.set i y') :=
  ⟨h.row, fun z hz => by
    rcases List.mem_or_eq_of_mem_set hz with h1 | h1
    · exact h.nd z h1
    · rw [h1]; exact ⟨hC, hS⟩⟩
theorem OutNs.take {lo hi n c n' : Nat} {A : Option Addr} {ys : List NdS} (h : OutNs lo hi (.slice A n c) ys) (m : Nat) : OutNs lo hi (.slice A n' c) (ys.take m) :=
  ⟨fun b hb => h.row b (by cases A with | none => cases hb | some a => exact hb), fun y hy => h.nd y (List.mem_of_mem_take hy)⟩
theorem OwnNs.cellF {w : World} {base n c i g : Nat} {ys : List NdS} {y : NdS} (h : w.ownsRow base 72 4 (.slice (some ⟨g, 0, none⟩) n c) n (ys.flatMap (NdS.cs .i64))) (hy : ys[i]? = some y) : w.cell? ⟨g, i * 4 + 2, none⟩ = some y.C.v ∧ w.cell? ⟨g, i * 4 + 3, none⟩ = some y.S.v := by
  have e2 := flat_get (f := NdS.cs .i64) (m := 4) (fun _ => rfl) hy (show 2 < 4 by omega)
  have e3 := flat_get (f := NdS.cs .i64) (m := 4) (fun _ => rfl) hy (show 3 < 4 by omega)
  obtain ⟨b, o, e, _, hc⟩ := Sees.own h (by omega) (by intro h0; rw [h0] at e2; simp [NdS.cs] at e2)
  injection e with e
  injection e with e0 e1 _
  subst e0 e1
  have q2 := hc _ _ e2
  have q3 := hc _ _ e3
  rw [Nat.zero_add] at q2 q3
  exact ⟨q2, q3⟩
set_option maxHeartbeats 64000000 in
set_option maxRecDepth 100000 in
/-- change. -/
theorem change_hi (An : Option Addr) (n0 cn0 : Nat) (ys0 : List NdS) (Ac : Option Addr) (mc cc0 : Nat) (cs : List Chg) (base lo hi : Nat) (w : World) (hO : OwnNs .i64 72 w base (.slice An n0 cn0) n0 ys0) (hA : ApNs ys0) (hS : SmNs 64 ys0) (hb : base ≤ w.heap.size) (hn0 : n0 ≤ 10000)
    (hC : ChgsAt w base Ac cs) (hcl : cs.length = mc) (hcap : mc ≤ cc0) (hmax : cc0 ≤ maxLen) (hV : OutNs lo hi (.slice An n0 cn0) ys0) (hh : hi ≤ w.heap.size) :
    Calls Tryd.prog 23 #[.slice An n0 cn0, .slice Ac mc cc0] w fun e w' => ∃ A' n' c', e = .returned (.slice A' n' c') ∧ (∃ ys', ys'.map (·.x) = chgL (ys0.map (·.x)) cs ∧ OwnNs .i64 72 w' base (.slice A' n' c') n' ys' ∧ ApNs ys' ∧ SmNs 67 ys') ∧ n' ≤ 10000 ∧ Below base w w' ∧ Hi lo hi w w' := by
  unfold maxLen at hmax
  have hmb : (mc : Int) ≤ 9223372036854775807 := by omega
  have hmcc : (mc : Int) ≤ (cc0 : Int) := by omega
  obtain ⟨m, hm⟩ : ∃ m : Nat, Hid (m = min mc 3) := ⟨_, Lib.hid rfl⟩
  have hm3 : m ≤ 3 := by have := hm.out; omega
  have hmn : m ≤ mc := by have := hm.out; omega
  have hmin : min (mc : Int) 3 = (m : Int) := by have := hm.out; omega
  have hmc' : (m : Int) ≤ (cc0 : Int) := by omega
  have Hcl := Lib.hid hcl
  have HT : Hid (chgL (ys0.map (·.x)) cs = (cs.take m).foldl chg1 (ys0.map (·.x))) := Lib.hid (by
    unfold chgL
    congr 1
    have := hm.out
    by_cases h8 : mc ≤ 3
    · rw [List.take_of_length_le (by rw [Hcl.out]; exact h8), List.take_of_length_le (by rw [Hcl.out]; omega)]
    · rw [show m = 3 by omega])
  obtain ⟨l0, hl0⟩ : ∃ l, Hid (l = ys0.map (·.x)) := ⟨_, Lib.hid rfl⟩
  rw [← hl0.out] at HT ⊢
  have HY0 : Hid (ys0.map (·.x) = (cs.take 0).foldl chg1 l0) := Lib.hid (by rw [hl0.out]; rfl)
  clear hcl hmax
  go_enter Tryd.func23, Tryd.ntmps23
  go_wp2_with fail
  go_loopw [0, 14] (fun v0 v14 wr => ∃ (k n c : Nat) (A : Option Addr) (ys : List NdS), k ≤ m ∧ v14 = .int .i64 (k : Int) ∧ v0 = .slice A n c ∧ n ≤ 10000 ∧ OwnNs .i64 72 wr base (.slice A n c) n ys ∧ ApNs ys ∧ SmNs (64 + k) ys ∧ Hid (ys.map (·.x) = (cs.take k).foldl chg1 l0) ∧ Below base w wr ∧ OutNs lo hi (.slice A n c) ys ∧ Hi lo hi w wr) (fun _ v14 _ => m - (intOf v14).toNat)
  case atStart => exact ⟨0, n0, cn0, An, ys0, Nat.zero_le _, rfl, rfl, hn0, hO, hA, hS, HY0, Below.refl _ _, hV, fun _ _ _ => rfl⟩
  case round =>
    clear hO hA hS HY0 hmin
    obtain ⟨W0, rfl⟩ : ∃ W0, W0 = wr := ⟨_, rfl⟩
    obtain ⟨k, n, c, A, ys, hk, rfl, rfl, hn, hO, hA, hS, HY, hB, hU, hI⟩ := hrel
    have hh0 : hi ≤ W0.heap.size := Nat.le_trans hh hB.size
    have hb0 : base ≤ W0.heap.size := Nat.le_trans hb hB.size
    have hn' : (n : Int) ≤ 10000 := by omega
    by_cases hlt : k < m
    · have hlt' : (k : Int) < (m : Int) := by omega
      obtain ⟨⟨ca, ck, cp, cn⟩, hx⟩ : ∃ x, cs[k]? = some x := ⟨_, List.getElem?_eq_getElem (by rw [Hcl.out]; omega)⟩
      obtain ⟨⟨ia, ik, ip, i1, i2⟩, b, o, rfl, hb2', hc0, hc1, hc2, hc3⟩ := (hC.below hB) k _ hx
      simp only [] at ia ik ip i1 i2 hc0 hc1 hc2 hc3
      have HX : Hid ((cs.take (k + 1)).foldl chg1 l0 = chg1 ((cs.take k).foldl chg1 l0) ⟨ca, ck, cp, cn⟩) := Lib.hid (by rw [List.take_add_one, hx, List.foldl_append]; rfl)
      have ia' : (ca : Int) < 256 := by omega
      have ik' : (ck : Int) < 256 := by omega
      have ip' : (cp : Int) < 256 := by omega
      have bX := bAl (Below.refl W0.heap.size W0) (.cells #[.int .u8 (ca : Int), .int .u8 (ck : Int), .int .u8 (cp : Int), .int .i8 cn] 122)
      have Xk := Blk.new W0 122 #[.int .u8 (ca : Int), .int .u8 (ck : Int), .int .u8 (cp : Int), .int .i8 cn]
      clear hx
      by_cases n00 : n = 0
      · subst n00
        have hnil : ys = [] := List.eq_nil_of_length_eq_zero hO.len
        have HF : Hid (ys.map (·.x) = chgL l0 cs) := Lib.hid (by
          have h1 := HY.out
          have h2 : cs.take m = cs.take k ++ (cs.take m).drop k := by
            have h3 := List.take_append_drop k (cs.take m)
            rw [List.take_take, show min k m = k by omega] at h3
            exact h3.symm
          rw [HT.out, h2, List.foldl_append, ← h1, hnil]
          exact (chgs_nil _).symm)
        have O9 := hO.on bX
        have B9 := hB.trans (bX.mono hb0)
        have I9 := hI.below bX hh0
        clear hnil
        go_wp2_with fail
        go_ret
        exact ⟨A, 0, c, rfl, ⟨ys, HF.out, O9, hA, hS.more (by omega)⟩, by omega, B9, I9⟩
      · have hnp : 0 < n := by omega
        have n0b : ((n : Int) == 0) = false := by simpa using n00
        obtain ⟨z, hz⟩ : ∃ z : Nat, Hid (z = ca % n) := ⟨_, Lib.hid rfl⟩
        have hzn : z < n := by rw [hz.out]; exact Nat.mod_lt _ hnp
        have hzn' : (z : Int) < (n : Int) := by omega
        have hzm : (ca : Int) % (n : Int) = (z : Int) := by rw [hz.out]; simp
        obtain ⟨q, hq⟩ : ∃ q : Nat, Hid (q = ck % 6) := ⟨_, Lib.hid rfl⟩
        have hq6 : q < 6 := by rw [hq.out]; exact Nat.mod_lt _ (by omega)
        have hqm : (ck : Int) % 6 = (q : Int) := by rw [hq.out]; simp
        obtain ⟨y, hyz⟩ : ∃ y, ys[z]? = some y := ⟨_, List.getElem?_eq_getElem (by rw [hO.len]; exact hzn)⟩
        have hlen := hO.len
        have hdef : chg1 (ys.map (·.x)) ⟨ca, ck, cp, cn⟩ = if q = 0 then (ys.map (·.x)).set z { y.x with kind := cp % 5 } else if q = 1 then (ys.map (·.x)).set z { y.x with step := cn } else if q = 2 then (if y.x.ch.length = 0 then ys.map (·.x) else (ys.map (·.x)).set z { y.x with ch := y.x.ch.set (cp % y.x.ch.length) cn })
            else if q = 3 then (ys.map (·.x)).set z { y.x with ch := y.x.ch ++ [cn] } else if q = 4 then (ys.map (·.x)).set z { y.x with st := y.x.st ++ [cn] } else (ys.map (·.x)).take (n - 1) := by
          have e1 : (ys.map (·.x)).length = n := by rw [List.length_map]; exact hlen
          have e2 : (ys.map (·.x))[z]? = some y.x := by rw [List.getElem?_map, hyz]; rfl
          unfold chg1
          simp only [e1, ← hz.out, ← hq.out, e2, Option.getD_some]
          rw [if_neg n00]
        have Hd : Hid ((cs.take (k + 1)).foldl chg1 l0 = if q = 0 then (ys.map (·.x)).set z { y.x with kind := cp % 5 } else if q = 1 then (ys.map (·.x)).set z { y.x with step := cn } else if q = 2 then (if y.x.ch.length = 0 then ys.map (·.x) else (ys.map (·.x)).set z { y.x with ch := y.x.ch.set (cp % y.x.ch.length) cn })
            else if q = 3 then (ys.map (·.x)).set z { y.x with ch := y.x.ch ++ [cn] } else if q = 4 then (ys.map (·.x)).set z { y.x with st := y.x.st ++ [cn] } else (ys.map (·.x)).take (n - 1)) := Lib.hid (by rw [HX.out, ← HY.out, hdef])
        obtain ⟨g, cg, rfl, hgb, hgbk⟩ := own_blk hO.row hnp
        have hsm := hS y (List.mem_of_getElem? hyz)
        clear hdef n00
        go_upto_region 6 with fail
        generalize (W0.alloc (.cells #[.int .u8 (ca : Int), .int .u8 (ck : Int), .int .u8 (cp : Int), .int .i8 cn] 122)) = W2 at bX Xk ⊢
        have N2 := hO.on bX
        have Nb := hgbk.on bX
        have hb2 : base ≤ W2.heap.size := Nat.le_trans hb0 bX.size
        have B2 := hB.trans (bX.mono hb0)
        have I2 := hI.below bX hh0
        have hh2 : hi ≤ W2.heap.size := Nat.le_trans hh0 bX.size
        have hUy := hU.nd y (List.mem_of_getElem? hyz)
        have u1 : W2.cell? ⟨W0.heap.size, 1, none⟩ = some (.int .u8 (ck : Int)) := (Xk.cell 1).trans rfl
        have u2 : W2.cell? ⟨W0.heap.size, 2, none⟩ = some (.int .u8 (cp : Int)) := (Xk.cell 2).trans rfl
        have u3 : W2.cell? ⟨W0.heap.size, 3, none⟩ = some (.int .i8 cn) := (Xk.cell 3).trans rfl
        obtain ⟨b9, o9, e9, _, q0, q1, q2, q3⟩ := N2.get hyz
        injection e9 with e9
        injection e9 with e91 e92 _
        subst e91 e92
        simp only [Nat.zero_add] at q0 q1 q2 q3
        have hY2 := N2.nd y (List.mem_of_getElem? hyz)
        obtain ⟨⟨xk, xs, xc, xst⟩, ⟨Ay, ny, cy⟩, ⟨As, ns, css⟩⟩ := y
        obtain ⟨y8, ych, yst, ybc, ybs⟩ := hY2
        unfold Sl.v at q2 q3 ych yst
        simp only [] at q0 q1 q2 q3 y8 ych yst ybc ybs hsm Hd
        have hsm1 := hsm.1
        have hsm2 := hsm.2
        have hk3 : k < 3 := by omega
        clear hO hgbk hB bX hI
        have hcases : q = 0 ∨ q = 1 ∨ q = 2 ∨ q = 3 ∨ q = 4 ∨ q = 5 := by omega
        rcases hcases with e | e | e | e | e | e
        · rw [e] at hqm Hd
          have hqm' : (ck : Int) % 6 = 0 := hqm
          obtain ⟨c5, hc5⟩ : ∃ c5 : Nat, Hid (c5 = cp % 5) := ⟨_, Lib.hid rfl⟩
          have hc5m : (cp : Int) % 5 = (c5 : Int) := by rw [hc5.out]; simp
          have f0 := Nb.frozen (z * 4)
          have N9 := N2.poke (f := 0) (y' := ⟨⟨c5, xs, xc, xst⟩, ⟨Ay, ny, cy⟩, ⟨As, ns, css⟩⟩) (v := .int .i64 (c5 : Int)) (by decide) hyz (by omega) rfl ⟨by show c5 < 256; have := hc5.out; omega, ych, yst, ybc, ybs⟩
          have A9 := hA.same (y' := ⟨⟨c5, xs, xc, xst⟩, ⟨Ay, ny, cy⟩, ⟨As, ns, css⟩⟩) hyz rfl rfl
          have M9 := (hS.more (show 64 + k ≤ 64 + (k + 1) by omega)).set (i := z) (y := ⟨⟨c5, xs, xc, xst⟩, ⟨Ay, ny, cy⟩, ⟨As, ns, css⟩⟩) ⟨by show ny ≤ _; omega, by show ns ≤ _; omega⟩
          have Y9 : Hid ((ys.set z ⟨⟨c5, xs, xc, xst⟩, ⟨Ay, ny, cy⟩, ⟨As, ns, css⟩⟩).map (·.x) = (cs.take (k + 1)).foldl chg1 l0) := Lib.hid (by rw [Hd.out, if_pos rfl, List.map_set, hc5.out])
          have B9 := B2.setCell (p := ⟨g, z * 4, none⟩) hgb (.int .i64 (c5 : Int))
          have I9 := I2.setCell (p := ⟨g, z * 4, none⟩) (hU.row _ rfl) (.int .i64 (c5 : Int))
          clear e hqm hq
          go_wp2_with fail
          go_roundw
          case rel => exact ⟨k + 1, n, c, _, _, by omega, by go_num, rfl, hn, N9, A9, M9, Y9, B9, hU.set hUy.1 hUy.2, I9⟩
          case measure => simp [intOf]; omega
        · rw [e] at hqm Hd
          have hqm' : (ck : Int) % 6 = 1 := hqm
          have f1 := Nb.frozen (z * 4 + 1)
          have N9 := N2.poke (f := 1) (y' := ⟨⟨xk, cn, xc, xst⟩, ⟨Ay, ny, cy⟩, ⟨As, ns, css⟩⟩) (v := .int .i64 cn) (by decide) hyz (by omega) rfl ⟨y8, ych, yst, ybc, ybs⟩
          have A9 := hA.same (y' := ⟨⟨xk, cn, xc, xst⟩, ⟨Ay, ny, cy⟩, ⟨As, ns, css⟩⟩) hyz rfl rfl
          have M9 := (hS.more (show 64 + k ≤ 64 + (k + 1) by omega)).set (i := z) (y := ⟨⟨xk, cn, xc, xst⟩, ⟨Ay, ny, cy⟩, ⟨As, ns, css⟩⟩) ⟨by show ny ≤ _; omega, by show ns ≤ _; omega⟩
          have Y9 : Hid ((ys.set z ⟨⟨xk, cn, xc, xst⟩, ⟨Ay, ny, cy⟩, ⟨As, ns, css⟩⟩).map (·.x) = (cs.take (k + 1)).foldl chg1 l0) := Lib.hid (by rw [Hd.out, if_neg (by omega), if_pos rfl, List.map_set])
          have B9 := B2.setCell (p := ⟨g, z * 4 + 1, none⟩) hgb (.int .i64 cn)
          have I9 := I2.setCell (p := ⟨g, z * 4 + 1, none⟩) (hU.row _ rfl) (.int .i64 cn)
          clear e hqm hq
          go_wp2_with fail
          go_roundw
          case rel => exact ⟨k + 1, n, c, _, _, by omega, by go_num, rfl, hn, N9, A9, M9, Y9, B9, hU.set hUy.1 hUy.2, I9⟩
          case measure => simp [intOf]; omega
        · rw [e] at hqm Hd
          have hqm' : (ck : Int) % 6 = 2 := hqm
          have hxl := OwnI.len ych
          by_cases ny0 : ny = 0
          · subst ny0
            have Y9 : Hid (ys.map (·.x) = (cs.take (k + 1)).foldl chg1 l0) := Lib.hid (by rw [Hd.out, if_neg (by omega), if_neg (by omega), if_pos rfl, if_pos hxl])
            have M9 := hS.more (show 64 + k ≤ 64 + (k + 1) by omega)
            clear e hqm hq hxl
            go_wp2_with fail
            go_roundw
            case rel => exact ⟨k + 1, n, c, _, _, by omega, by go_num, rfl, hn, N2, hA, M9, Y9, B2, hU, I2⟩
            case measure => simp [intOf]; omega
          · have nyp : 0 < ny := by omega
            have nyp' : (0 : Int) < (ny : Int) := by omega
            obtain ⟨gc, cgc, rfl, hgc, hgcb⟩ := own_blk ych nyp
            obtain ⟨j, hj⟩ : ∃ j : Nat, Hid (j = cp % ny) := ⟨_, Lib.hid rfl⟩
            have hjn : j < ny := by rw [hj.out]; exact Nat.mod_lt _ nyp
            have hjn' : (j : Int) < (ny : Int) := by omega
            have hj0 : (0 : Int) ≤ (j : Int) := by omega
            have hw1 : IntKind.i64.wrap (cp : Int) = (cp : Int) := IntWalk.i64_in _ (by omega)
            have hw2 : (cp : Int).tmod (ny : Int) = (j : Int) := by rw [hj.out, Int.tmod_eq_emod_of_nonneg (by omega)]; simp
            have hw3 : IntKind.i64.wrap cn = cn := IntWalk.i64_in _ (by omega)
            have hw4 : IntKind.i64.wrap (j : Int) = (j : Int) := IntWalk.i64_in _ (by omega)
            obtain ⟨bv, ov, vv, ev, hbv, Hvv, hcvv⟩ := Sees.int (k := j) (OwnI.sees ych) (by rw [hxl]; exact hjn)
            injection ev with ev
            injection ev with ev1 ev2 _
            subst ev1 ev2
            rw [Nat.zero_add] at hcvv
            have fj := hgcb.frozen j
            have z2 := q2
            have N9 := N2.pokeC (j := j) (z := cn) hA (by decide) hyz
            have A9 := hA.same (y' := ⟨⟨xk, xs, xc.set j cn, xst⟩, ⟨some ⟨gc, 0, none⟩, ny, cy⟩, ⟨As, ns, css⟩⟩) hyz rfl rfl
            have M9 := (hS.more (show 64 + k ≤ 64 + (k + 1) by omega)).set (i := z) (y := ⟨⟨xk, xs, xc.set j cn, xst⟩, ⟨some ⟨gc, 0, none⟩, ny, cy⟩, ⟨As, ns, css⟩⟩) ⟨by show ny ≤ _; omega, by show ns ≤ _; omega⟩
            have Y9 : Hid ((ys.set z ⟨⟨xk, xs, xc.set j cn, xst⟩, ⟨some ⟨gc, 0, none⟩, ny, cy⟩, ⟨As, ns, css⟩⟩).map (·.x) = (cs.take (k + 1)).foldl chg1 l0) := Lib.hid (by rw [Hd.out, if_neg (by omega), if_neg (by omega), if_pos rfl, if_neg (by omega), List.map_set, hxl, ← hj.out])
            have B9 := B2.setCell (p := ⟨gc, j, none⟩) hgc (.int .i64 cn)
            have I9 := I2.setCell (p := ⟨gc, j, none⟩) (hUy.1 _ rfl) (.int .i64 cn)
            clear e hqm hq hxl Hvv
            go_upto_region 14 with fail
            refine wp_region_F (fun i => decide (16 ≤ i)) (fun W => W.cell? ⟨g, z * 4 + 2, none⟩ = some (.slice (some ⟨gc, 0, none⟩) ny cy) ∧ W.cell? ⟨W0.heap.size, 2, none⟩ = some (.int .u8 (cp : Int)) ∧ W.cell? ⟨W0.heap.size, 3, none⟩ = some (.int .i8 cn)) (by kernel_rfl) ⟨z2, u2, u3⟩ (fun hHeld => ?_)
            refine wpAnyF_take (i := 0) (v := ?_) rfl (by kernel_rfl) (by kernel_rfl) (by kernel_rfl) (by kernel_rfl) (fun _ _ _ h => h) hHeld (Or.inl ⟨by rfl, ?_⟩) ?_
            rotate_left
            · (intro w hSw; (try dsimp only at hSw); go_simp; try with_reducible rfl)
            try simp only [Act.put, List.setIfInBounds_toArray, List.set_cons_zero, List.set_cons_succ]
            refine wpAnyF_take (i := 1) (v := ?_) rfl (by kernel_rfl) (by kernel_rfl) (by kernel_rfl) (by kernel_rfl) (fun _ _ _ h => h) hHeld (Or.inl ⟨by rfl, ?_⟩) ?_
            rotate_left
            · (intro w hSw; (try dsimp only at hSw); go_simp; try with_reducible rfl)
            try simp only [Act.put, List.setIfInBounds_toArray, List.set_cons_zero, List.set_cons_succ]
            refine wpAnyF_take (i := 2) (v := ?_) rfl (by kernel_rfl) (by kernel_rfl) (by kernel_rfl) (by kernel_rfl) (fun _ _ _ h => h) hHeld (Or.inl ⟨by rfl, ?_⟩) ?_
            rotate_left
            · (intro w hSw; (try dsimp only at hSw); go_simp; try with_reducible rfl)
            try simp only [Act.put, List.setIfInBounds_toArray, List.set_cons_zero, List.set_cons_succ]
            refine wpAnyF_take (i := 3) (v := ?_) rfl (by kernel_rfl) (by kernel_rfl) (by kernel_rfl) (by kernel_rfl) (fun _ _ _ h => h) hHeld (Or.inl ⟨by rfl, ?_⟩) ?_
            rotate_left
            · (intro w hSw; (try dsimp only at hSw); go_simp; try with_reducible rfl)
            try simp only [Act.put, List.setIfInBounds_toArray, List.set_cons_zero, List.set_cons_succ]
            refine wpAnyF_take (i := 4) (v := ?_) rfl (by kernel_rfl) (by kernel_rfl) (by kernel_rfl) (by kernel_rfl) (fun _ _ _ h => h) hHeld (Or.inl ⟨by rfl, ?_⟩) ?_
            rotate_left
            · (intro w hSw; (try dsimp only at hSw); go_simp; try with_reducible rfl)
            try simp only [Act.put, List.setIfInBounds_toArray, List.set_cons_zero, List.set_cons_succ]
            refine wpAnyF_take (i := 5) (v := ?_) rfl (by kernel_rfl) (by kernel_rfl) (by kernel_rfl) (by kernel_rfl) (fun _ _ _ h => h) hHeld (Or.inl ⟨by rfl, ?_⟩) ?_
            rotate_left
            · (intro w hSw; (try dsimp only at hSw); go_simp; try with_reducible rfl)
            try simp only [Act.put, List.setIfInBounds_toArray, List.set_cons_zero, List.set_cons_succ]
            refine wpAnyF_take (i := 6) (v := ?_) rfl (by kernel_rfl) (by kernel_rfl) (by kernel_rfl) (by kernel_rfl) (fun _ _ _ h => h) hHeld (Or.inl ⟨by rfl, ?_⟩) ?_
            rotate_left
            · (intro w hSw; (try dsimp only at hSw); go_simp; try with_reducible rfl)
            try simp only [Act.put, List.setIfInBounds_toArray, List.set_cons_zero, List.set_cons_succ]
            refine wpAnyF_take (i := 7) (v := ?_) rfl (by kernel_rfl) (by kernel_rfl) (by kernel_rfl) (by kernel_rfl) (fun _ _ _ h => h) hHeld (Or.inl ⟨by rfl, ?_⟩) ?_
            rotate_left
            · (intro w hSw; (try dsimp only at hSw); go_simp; try with_reducible rfl)
            try simp only [Act.put, List.setIfInBounds_toArray, List.set_cons_zero, List.set_cons_succ]
            refine wpAnyF_take (i := 8) (v := ?_) rfl (by kernel_rfl) (by kernel_rfl) (by kernel_rfl) (by kernel_rfl) (fun _ _ _ h => h) hHeld (Or.inl ⟨by rfl, ?_⟩) ?_
            rotate_left
            · (intro w hSw; (try dsimp only at hSw); go_simp; try with_reducible rfl)
            try simp only [Act.put, List.setIfInBounds_toArray, List.set_cons_zero, List.set_cons_succ]
            refine wpAnyF_take (i := 9) (v := ?_) rfl (by kernel_rfl) (by kernel_rfl) (by kernel_rfl) (by kernel_rfl) (fun _ _ _ h => h) hHeld (Or.inl ⟨by rfl, ?_⟩) ?_
            rotate_left
            · (intro w hSw; (try dsimp only at hSw); go_simp; try with_reducible rfl)
            try simp only [Act.put, List.setIfInBounds_toArray, List.set_cons_zero, List.set_cons_succ]
            refine wpAnyF_take (i := 10) (v := ?_) rfl (by kernel_rfl) (by kernel_rfl) (by kernel_rfl) (by kernel_rfl) (fun _ _ _ h => h) hHeld (Or.inl ⟨by rfl, ?_⟩) ?_
            rotate_left
            · (intro w hSw; (try dsimp only at hSw); go_simp; try with_reducible rfl)
            try simp only [Act.put, List.setIfInBounds_toArray, List.set_cons_zero, List.set_cons_succ]
            refine wpAnyF_take (i := 11) (v := ?_) rfl (by kernel_rfl) (by kernel_rfl) (by kernel_rfl) (by kernel_rfl) (fun _ _ _ h => h) hHeld (Or.inl ⟨by rfl, ?_⟩) ?_
            rotate_left
            · (intro w hSw; (try dsimp only at hSw); go_simp; try with_reducible rfl)
            try simp only [Act.put, List.setIfInBounds_toArray, List.set_cons_zero, List.set_cons_succ]
            refine wpAnyF_take (i := 12) (v := ?_) rfl (by kernel_rfl) (by kernel_rfl) (by kernel_rfl) (by kernel_rfl) (fun _ _ _ h => h) hHeld (Or.inl ⟨by rfl, ?_⟩) ?_
            rotate_left
            · (intro w hSw; (try dsimp only at hSw); go_simp; try with_reducible rfl)
            try simp only [Act.put, List.setIfInBounds_toArray, List.set_cons_zero, List.set_cons_succ]
            refine wpAnyF_take (i := 13) (v := ?_) rfl (by kernel_rfl) (by kernel_rfl) (by kernel_rfl) (by kernel_rfl) (fun _ _ _ h => h) hHeld (Or.inl ⟨by rfl, ?_⟩) ?_
            rotate_left
            · (intro w hSw; (try dsimp only at hSw); go_simp; try with_reducible rfl)
            try simp only [Act.put, List.setIfInBounds_toArray, List.set_cons_zero, List.set_cons_succ]
            refine wpAnyF_take (i := 14) (v := ?_) rfl (by kernel_rfl) (by kernel_rfl) (by kernel_rfl) (by kernel_rfl) (fun _ _ _ h => h) hHeld (Or.inl ⟨by rfl, ?_⟩) ?_
            rotate_left
            · (intro w hSw; (try dsimp only at hSw); go_simp; try with_reducible rfl)
            try simp only [Act.put, List.setIfInBounds_toArray, List.set_cons_zero, List.set_cons_succ]
            refine wpAnyF_take (i := 15) (v := ?_) rfl (by kernel_rfl) (by kernel_rfl) (by kernel_rfl) (by kernel_rfl) (fun _ _ _ h => h) hHeld (Or.inl ⟨by rfl, ?_⟩) ?_
            rotate_left
            · (intro w hSw; (try dsimp only at hSw); go_simp; try with_reducible rfl)
            try simp only [Act.put, List.setIfInBounds_toArray, List.set_cons_zero, List.set_cons_succ]
            refine wpAnyF_one (i := 16) (by kernel_rfl) rfl (fun K hK => ?_)
            go_simp
            refine hK.out _ _ (Or.inl rfl) ?_
            clear hK K
            try simp only [Act.put, List.setIfInBounds_toArray, List.set_cons_zero, List.set_cons_succ]
            refine wpAnyF_one (i := 17) (by kernel_rfl) rfl (fun K hK => ?_)
            go_simp
            refine hK.out _ _ (Or.inl rfl) ?_
            clear hK K
            try simp only [Act.put, List.setIfInBounds_toArray, List.set_cons_zero, List.set_cons_succ]
            refine wpAnyF_done (by kernel_rfl) ?_ _
            go_wp2_with fail
            go_roundw
            case rel => exact ⟨k + 1, n, c, _, _, by omega, by go_num, rfl, hn, N9.on (Below.refl _ _).drew, A9, M9, Y9, B9.drew, hU.set hUy.1 hUy.2, I9.drew⟩
            case measure => simp [intOf]; omega
        · rw [e] at hqm Hd
          have hqm' : (ck : Int) % 6 = 3 := hqm
          have hw3 : IntKind.i64.wrap cn = cn := IntWalk.i64_in _ (by omega)
          have z2 := q2
          have bal : ∀ X (a : Addr), a.block < W2.heap.size → (W2.drew.alloc X).cell? a = W2.cell? a := fun X a ha => World.cell?_alloc_lt _ _ _ ha
          have zl0 : g < W2.heap.size := Nb.lt
          have ul0 : W0.heap.size < W2.heap.size := Xk.lt
          have Xb := Xk
          clear e hqm hq
          go_upto_region 16 with fail
          refine wp_region_F (fun i => decide (10 ≤ i)) (fun W => W.cell? ⟨g, z * 4 + 2, none⟩ = some (.slice Ay ny cy) ∧ W.cell? ⟨W0.heap.size, 2, none⟩ = some (.int .u8 (cp : Int)) ∧ W.cell? ⟨W0.heap.size, 3, none⟩ = some (.int .i8 cn)) (by kernel_rfl) ⟨z2, u2, u3⟩ (fun hHeld => ?_)
          refine wpAnyF_take (i := 0) (v := ?_) rfl (by kernel_rfl) (by kernel_rfl) (by kernel_rfl) (by kernel_rfl) (fun _ _ _ h => h) hHeld (Or.inl ⟨by rfl, ?_⟩) ?_
          rotate_left
          · (intro w hSw; (try dsimp only at hSw); go_simp; try with_reducible rfl)
          try simp only [Act.put, List.setIfInBounds_toArray, List.set_cons_zero, List.set_cons_succ]
          refine wpAnyF_take (i := 1) (v := ?_) rfl (by kernel_rfl) (by kernel_rfl) (by kernel_rfl) (by kernel_rfl) (fun _ _ _ h => h) hHeld (Or.inl ⟨by rfl, ?_⟩) ?_
          rotate_left
          · (intro w hSw; (try dsimp only at hSw); go_simp; try with_reducible rfl)
          try simp only [Act.put, List.setIfInBounds_toArray, List.set_cons_zero, List.set_cons_succ]
          refine wpAnyF_take (i := 2) (v := ?_) rfl (by kernel_rfl) (by kernel_rfl) (by kernel_rfl) (by kernel_rfl) (fun _ _ _ h => h) hHeld (Or.inl ⟨by rfl, ?_⟩) ?_
          rotate_left
          · (intro w hSw; (try dsimp only at hSw); go_simp; try with_reducible rfl)
          try simp only [Act.put, List.setIfInBounds_toArray, List.set_cons_zero, List.set_cons_succ]
          refine wpAnyF_take (i := 3) (v := ?_) rfl (by kernel_rfl) (by kernel_rfl) (by kernel_rfl) (by kernel_rfl) (fun _ _ _ h => h) hHeld (Or.inl ⟨by rfl, ?_⟩) ?_
          rotate_left
          · (intro w hSw; (try dsimp only at hSw); go_simp; try with_reducible rfl)
          try simp only [Act.put, List.setIfInBounds_toArray, List.set_cons_zero, List.set_cons_succ]
          refine wpAnyF_take (i := 4) (v := ?_) rfl (by kernel_rfl) (by kernel_rfl) (by kernel_rfl) (by kernel_rfl) (fun _ _ _ h => h) hHeld (Or.inl ⟨by rfl, ?_⟩) ?_
          rotate_left
          · (intro w hSw; (try dsimp only at hSw); go_simp; try with_reducible rfl)
          try simp only [Act.put, List.setIfInBounds_toArray, List.set_cons_zero, List.set_cons_succ]
          refine wpAnyF_take (i := 5) (v := ?_) rfl (by kernel_rfl) (by kernel_rfl) (by kernel_rfl) (by kernel_rfl) (fun _ _ _ h => h) hHeld (Or.inl ⟨by rfl, ?_⟩) ?_
          rotate_left
          · (intro w hSw; (try dsimp only at hSw); go_simp; try with_reducible rfl)
          try simp only [Act.put, List.setIfInBounds_toArray, List.set_cons_zero, List.set_cons_succ]
          refine wpAnyF_take (i := 6) (v := ?_) rfl (by kernel_rfl) (by kernel_rfl) (by kernel_rfl) (by kernel_rfl) (fun _ _ _ h => h) hHeld (Or.inl ⟨by rfl, ?_⟩) ?_
          rotate_left
          · (intro w hSw; (try dsimp only at hSw); go_simp; try with_reducible rfl)
          try simp only [Act.put, List.setIfInBounds_toArray, List.set_cons_zero, List.set_cons_succ]
          refine wpAnyF_take (i := 7) (v := ?_) rfl (by kernel_rfl) (by kernel_rfl) (by kernel_rfl) (by kernel_rfl) (fun _ _ _ h => h) hHeld (Or.inl ⟨by rfl, ?_⟩) ?_
          rotate_left
          · (intro w hSw; (try dsimp only at hSw); go_simp; try with_reducible rfl)
          try simp only [Act.put, List.setIfInBounds_toArray, List.set_cons_zero, List.set_cons_succ]
          refine wpAnyF_one (i := 8) (by kernel_rfl) rfl (fun K hK => ?_)
          go_simp
          refine hK.out _ _ (Or.inr ⟨(bal _ _ zl0).trans z2, (bal _ _ ul0).trans u2, (bal _ _ ul0).trans u3⟩) ?_
          clear hK K
          try simp only [Act.put, List.setIfInBounds_toArray, List.set_cons_zero, List.set_cons_succ]
          refine wpAnyF_one (i := 9) (by kernel_rfl) rfl (fun K hK => ?_)
          refine step_row1 3 33 _ 1 8 int_info Tryd.underlying33 rfl (by omega) (by omega) _ rfl (.tmp 85) (.tmp 89) rfl W2.drew base _ ny _ rfl ych #[.int .i64 cn] rfl _ rfl rfl rfl (by simp [Value.oneCell']) (by omega) hb2 (ny + 1) rfl ?_
          intro A9' c9 w9 o9 g9 b9 k9
          have g9 : W2.grownBy w9 (Value.slice Ay ny cy).ownBlock := ⟨g9.os, g9.tape, g9.output, g9.size, g9.block⟩
          have b9 : Below base W2 w9 := (Below.refl base W2).drew.trans b9
          have k9 : (Value.slice A9' (ny + 1) c9).ownBlock = (Value.slice Ay ny cy).ownBlock ∨ (Value.slice A9' (ny + 1) c9).ownBlock = some (W2.heap.size + 1) := k9
          have o9' : OwnI w9 base (.slice A9' (ny + 1) c9) (ny + 1) (xc ++ [cn]) := (by show World.ownsRow _ _ _ _ _ _ _; rw [List.map_append]; exact o9)
          have Rb9 := Nb.grown g9 (own_off ych Nb (by decide))
          have Xb9 := Xb.grown g9 (own_off ych Xb (by decide))
          have Nk := World.ownsRow.kept N2.row g9 (own_apart N2.row ych (by decide))
          have z9 : w9.cell? ⟨g, z * 4 + 2, none⟩ = some (.slice Ay ny cy) := (OwnNs.cellF Nk hyz).1
          have f9 : w9.frozen? ⟨g, z * 4 + 2, none⟩ = false := Rb9.frozen _
          have v2 : w9.cell? ⟨W0.heap.size, 2, none⟩ = some (.int .u8 (cp : Int)) := (Xb9.cell 2).trans rfl
          have v3 : w9.cell? ⟨W0.heap.size, 3, none⟩ = some (.int .i8 cn) := (Xb9.cell 3).trans rfl
          refine hK.out _ _ (Or.inr ⟨z9, v2, v3⟩) ?_
          clear hK K
          try simp only [Act.put, List.setIfInBounds_toArray, List.set_cons_zero, List.set_cons_succ]
          refine wpAnyF_one (i := 10) (by kernel_rfl) rfl (fun K hK => ?_)
          go_simp
          refine hK.out _ _ (Or.inl rfl) ?_
          clear hK K
          try simp only [Act.put, List.setIfInBounds_toArray, List.set_cons_zero, List.set_cons_succ]
          refine wpAnyF_one (i := 11) (by kernel_rfl) rfl (fun K hK => ?_)
          go_simp
          refine hK.out _ _ (Or.inl rfl) ?_
          clear hK K
          try simp only [Act.put, List.setIfInBounds_toArray, List.set_cons_zero, List.set_cons_succ]
          refine wpAnyF_one (i := 12) (by kernel_rfl) rfl (fun K hK => ?_)
          go_simp
          refine hK.out _ _ (Or.inl rfl) ?_
          clear hK K
          try simp only [Act.put, List.setIfInBounds_toArray, List.set_cons_zero, List.set_cons_succ]
          refine wpAnyF_done (by kernel_rfl) ?_ _
          have h9 := N2.growC hA (by decide) hyz (by show ny + 1 ≤ 1000000; omega) o9' g9 k9
          have N9 := h9.1
          have A9 := h9.2
          have M9 := (hS.more (show 64 + k ≤ 64 + (k + 1) by omega)).set (i := z) (y := ⟨⟨xk, xs, xc ++ [cn], xst⟩, ⟨A9', ny + 1, c9⟩, ⟨As, ns, css⟩⟩) ⟨by show ny + 1 ≤ _; omega, by show ns ≤ _; omega⟩
          have Y9 : Hid ((ys.set z ⟨⟨xk, xs, xc ++ [cn], xst⟩, ⟨A9', ny + 1, c9⟩, ⟨As, ns, css⟩⟩).map (·.x) = (cs.take (k + 1)).foldl chg1 l0) := Lib.hid (by rw [Hd.out, if_neg (by omega), if_neg (by omega), if_neg (by omega), if_pos rfl, List.map_set])
          have B9 := (B2.trans b9).setCell (p := ⟨g, z * 4 + 2, none⟩) hgb (.slice A9' (ny + 1) c9)
          have V9 : OutV lo hi (.slice A9' (ny + 1) c9) := fun b hb => by
            rcases k9 with e | e
            · rw [e] at hb; exact hUy.1 b hb
            · rw [e] at hb; injection hb with hb; omega
          have I9 := (I2.grown g9 (fun b hb => hUy.1 b hb) hh2).setCell (p := ⟨g, z * 4 + 2, none⟩) (hU.row _ rfl) (.slice A9' (ny + 1) c9)
          go_wp2_with fail
          go_roundw
          case rel => exact ⟨k + 1, n, c, _, _, by omega, by go_num, rfl, hn, N9, A9, M9, Y9, B9, hU.set V9 hUy.2, I9⟩
          case measure => simp [intOf]; omega
        · rw [e] at hqm Hd
          have hqm' : (ck : Int) % 6 = 4 := hqm
          have hw3 : IntKind.i64.wrap cn = cn := IntWalk.i64_in _ (by omega)
          have z3 := q3
          have bal : ∀ X (a : Addr), a.block < W2.heap.size → (W2.drew.alloc X).cell? a = W2.cell? a := fun X a ha => World.cell?_alloc_lt _ _ _ ha
          have zl0 : g < W2.heap.size := Nb.lt
          have ul0 : W0.heap.size < W2.heap.size := Xk.lt
          have Xb := Xk
          clear e hqm hq
          go_upto_region 18 with fail
          refine wp_region_F (fun i => decide (10 ≤ i)) (fun W => W.cell? ⟨g, z * 4 + 3, none⟩ = some (.slice As ns css) ∧ W.cell? ⟨W0.heap.size, 2, none⟩ = some (.int .u8 (cp : Int)) ∧ W.cell? ⟨W0.heap.size, 3, none⟩ = some (.int .i8 cn)) (by kernel_rfl) ⟨z3, u2, u3⟩ (fun hHeld => ?_)
          refine wpAnyF_take (i := 0) (v := ?_) rfl (by kernel_rfl) (by kernel_rfl) (by kernel_rfl) (by kernel_rfl) (fun _ _ _ h => h) hHeld (Or.inl ⟨by rfl, ?_⟩) ?_
          rotate_left
          · (intro w hSw; (try dsimp only at hSw); go_simp; try with_reducible rfl)
          try simp only [Act.put, List.setIfInBounds_toArray, List.set_cons_zero, List.set_cons_succ]
          refine wpAnyF_take (i := 1) (v := ?_) rfl (by kernel_rfl) (by kernel_rfl) (by kernel_rfl) (by kernel_rfl) (fun _ _ _ h => h) hHeld (Or.inl ⟨by rfl, ?_⟩) ?_
          rotate_left
          · (intro w hSw; (try dsimp only at hSw); go_simp; try with_reducible rfl)
          try simp only [Act.put, List.setIfInBounds_toArray, List.set_cons_zero, List.set_cons_succ]
          refine wpAnyF_take (i := 2) (v := ?_) rfl (by kernel_rfl) (by kernel_rfl) (by kernel_rfl) (by kernel_rfl) (fun _ _ _ h => h) hHeld (Or.inl ⟨by rfl, ?_⟩) ?_
          rotate_left
          · (intro w hSw; (try dsimp only at hSw); go_simp; try with_reducible rfl)
          try simp only [Act.put, List.setIfInBounds_toArray, List.set_cons_zero, List.set_cons_succ]
          refine wpAnyF_take (i := 3) (v := ?_) rfl (by kernel_rfl) (by kernel_rfl) (by kernel_rfl) (by kernel_rfl) (fun _ _ _ h => h) hHeld (Or.inl ⟨by rfl, ?_⟩) ?_
          rotate_left
          · (intro w hSw; (try dsimp only at hSw); go_simp; try with_reducible rfl)
          try simp only [Act.put, List.setIfInBounds_toArray, List.set_cons_zero, List.set_cons_succ]
          refine wpAnyF_take (i := 4) (v := ?_) rfl (by kernel_rfl) (by kernel_rfl) (by kernel_rfl) (by kernel_rfl) (fun _ _ _ h => h) hHeld (Or.inl ⟨by rfl, ?_⟩) ?_
          rotate_left
          · (intro w hSw; (try dsimp only at hSw); go_simp; try with_reducible rfl)
          try simp only [Act.put, List.setIfInBounds_toArray, List.set_cons_zero, List.set_cons_succ]
          refine wpAnyF_take (i := 5) (v := ?_) rfl (by kernel_rfl) (by kernel_rfl) (by kernel_rfl) (by kernel_rfl) (fun _ _ _ h => h) hHeld (Or.inl ⟨by rfl, ?_⟩) ?_
          rotate_left
          · (intro w hSw; (try dsimp only at hSw); go_simp; try with_reducible rfl)
          try simp only [Act.put, List.setIfInBounds_toArray, List.set_cons_zero, List.set_cons_succ]
          refine wpAnyF_take (i := 6) (v := ?_) rfl (by kernel_rfl) (by kernel_rfl) (by kernel_rfl) (by kernel_rfl) (fun _ _ _ h => h) hHeld (Or.inl ⟨by rfl, ?_⟩) ?_
          rotate_left
          · (intro w hSw; (try dsimp only at hSw); go_simp; try with_reducible rfl)
          try simp only [Act.put, List.setIfInBounds_toArray, List.set_cons_zero, List.set_cons_succ]
          refine wpAnyF_take (i := 7) (v := ?_) rfl (by kernel_rfl) (by kernel_rfl) (by kernel_rfl) (by kernel_rfl) (fun _ _ _ h => h) hHeld (Or.inl ⟨by rfl, ?_⟩) ?_
          rotate_left
          · (intro w hSw; (try dsimp only at hSw); go_simp; try with_reducible rfl)
          try simp only [Act.put, List.setIfInBounds_toArray, List.set_cons_zero, List.set_cons_succ]
          refine wpAnyF_one (i := 8) (by kernel_rfl) rfl (fun K hK => ?_)
          go_simp
          refine hK.out _ _ (Or.inr ⟨(bal _ _ zl0).trans z3, (bal _ _ ul0).trans u2, (bal _ _ ul0).trans u3⟩) ?_
          clear hK K
          try simp only [Act.put, List.setIfInBounds_toArray, List.set_cons_zero, List.set_cons_succ]
          refine wpAnyF_one (i := 9) (by kernel_rfl) rfl (fun K hK => ?_)
          refine step_row1 3 33 _ 1 8 int_info Tryd.underlying33 rfl (by omega) (by omega) _ rfl (.tmp 99) (.tmp 103) rfl W2.drew base _ ns _ rfl yst #[.int .i64 cn] rfl _ rfl rfl rfl (by simp [Value.oneCell']) (by omega) hb2 (ns + 1) rfl ?_
          intro A9' c9 w9 o9 g9 b9 k9
          have g9 : W2.grownBy w9 (Value.slice As ns css).ownBlock := ⟨g9.os, g9.tape, g9.output, g9.size, g9.block⟩
          have b9 : Below base W2 w9 := (Below.refl base W2).drew.trans b9
          have k9 : (Value.slice A9' (ns + 1) c9).ownBlock = (Value.slice As ns css).ownBlock ∨ (Value.slice A9' (ns + 1) c9).ownBlock = some (W2.heap.size + 1) := k9
          have o9' : OwnI w9 base (.slice A9' (ns + 1) c9) (ns + 1) (xst ++ [cn]) := (by show World.ownsRow _ _ _ _ _ _ _; rw [List.map_append]; exact o9)
          have Rb9 := Nb.grown g9 (own_off yst Nb (by decide))
          have Xb9 := Xb.grown g9 (own_off yst Xb (by decide))
          have Nk := World.ownsRow.kept N2.row g9 (own_apart N2.row yst (by decide))
          have z9 : w9.cell? ⟨g, z * 4 + 3, none⟩ = some (.slice As ns css) := (OwnNs.cellF Nk hyz).2
          have f9 : w9.frozen? ⟨g, z * 4 + 3, none⟩ = false := Rb9.frozen _
          have v2 : w9.cell? ⟨W0.heap.size, 2, none⟩ = some (.int .u8 (cp : Int)) := (Xb9.cell 2).trans rfl
          have v3 : w9.cell? ⟨W0.heap.size, 3, none⟩ = some (.int .i8 cn) := (Xb9.cell 3).trans rfl
          refine hK.out _ _ (Or.inr ⟨z9, v2, v3⟩) ?_
          clear hK K
          try simp only [Act.put, List.setIfInBounds_toArray, List.set_cons_zero, List.set_cons_succ]
          refine wpAnyF_one (i := 10) (by kernel_rfl) rfl (fun K hK => ?_)
          go_simp
          refine hK.out _ _ (Or.inl rfl) ?_
          clear hK K
          try simp only [Act.put, List.setIfInBounds_toArray, List.set_cons_zero, List.set_cons_succ]
          refine wpAnyF_one (i := 11) (by kernel_rfl) rfl (fun K hK => ?_)
          go_simp
          refine hK.out _ _ (Or.inl rfl) ?_
          clear hK K
          try simp only [Act.put, List.setIfInBounds_toArray, List.set_cons_zero, List.set_cons_succ]
          refine wpAnyF_one (i := 12) (by kernel_rfl) rfl (fun K hK => ?_)
          go_simp
          refine hK.out _ _ (Or.inl rfl) ?_
          clear hK K
          try simp only [Act.put, List.setIfInBounds_toArray, List.set_cons_zero, List.set_cons_succ]
          refine wpAnyF_done (by kernel_rfl) ?_ _
          have h9 := N2.growS hA (by decide) hyz (by show ns + 1 ≤ 1000000; omega) o9' g9 k9
          have N9 := h9.1
          have A9 := h9.2
          have M9 := (hS.more (show 64 + k ≤ 64 + (k + 1) by omega)).set (i := z) (y := ⟨⟨xk, xs, xc, xst ++ [cn]⟩, ⟨Ay, ny, cy⟩, ⟨A9', ns + 1, c9⟩⟩) ⟨by show ny ≤ _; omega, by show ns + 1 ≤ _; omega⟩
          have Y9 : Hid ((ys.set z ⟨⟨xk, xs, xc, xst ++ [cn]⟩, ⟨Ay, ny, cy⟩, ⟨A9', ns + 1, c9⟩⟩).map (·.x) = (cs.take (k + 1)).foldl chg1 l0) := Lib.hid (by rw [Hd.out, if_neg (by omega), if_neg (by omega), if_neg (by omega), if_neg (by omega), if_pos rfl, List.map_set])
          have B9 := (B2.trans b9).setCell (p := ⟨g, z * 4 + 3, none⟩) hgb (.slice A9' (ns + 1) c9)
          have V9 : OutV lo hi (.slice A9' (ns + 1) c9) := fun b hb => by
            rcases k9 with e | e
            · rw [e] at hb; exact hUy.2 b hb
            · rw [e] at hb; injection hb with hb; omega
          have I9 := (I2.grown g9 (fun b hb => hUy.2 b hb) hh2).setCell (p := ⟨g, z * 4 + 3, none⟩) (hU.row _ rfl) (.slice A9' (ns + 1) c9)
          go_wp2_with fail
          go_roundw
          case rel => exact ⟨k + 1, n, c, _, _, by omega, by go_num, rfl, hn, N9, A9, M9, Y9, B9, hU.set hUy.1 V9, I9⟩
          case measure => simp [intOf]; omega
        · rw [e] at hqm Hd
          have hqm' : (ck : Int) % 6 = 5 := hqm
          obtain ⟨n1, rfl⟩ : ∃ n1, n = n1 + 1 := ⟨n - 1, by omega⟩
          have hn1 : ((n1 + 1 : Nat) : Int) - 1 = (n1 : Int) := by omega
          have N9 := N2.take (show n1 ≤ n1 + 1 by omega)
          have A9 := hA.take n1
          have M9 := (hS.more (show 64 + k ≤ 64 + (k + 1) by omega)).take n1
          have Y9 : Hid ((ys.take n1).map (·.x) = (cs.take (k + 1)).foldl chg1 l0) := Lib.hid (by rw [Hd.out, if_neg (by omega), if_neg (by omega), if_neg (by omega), if_neg (by omega), if_neg (by omega), List.map_take]; rfl)
          have hcap1 := own_room N2.row
          clear e hqm hq
          go_wp2_with fail
          go_roundw
          case rel => exact ⟨k + 1, n1, c, _, _, by omega, by go_num, rfl, by omega, N9, A9, M9, Y9, B2, hU.take n1, I2⟩
          case measure => simp [intOf]; omega
    · obtain rfl : k = m := by omega
      have hlt' : ¬ (k : Int) < (k : Int) := by omega
      have HF : Hid (ys.map (·.x) = chgL l0 cs) := Lib.hid (by rw [HY.out, HT.out])
      go_wp2_with fail
      go_ret
      exact ⟨A, n, c, rfl, ⟨ys, HF.out, hO, hA, hS.more (by omega)⟩, hn, hB, hI⟩
end Go.Proofs.YtcdgmdhfaniciaaDoor
