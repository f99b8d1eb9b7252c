/- A pack of texts: Args, ArgsRaw, NdO, RegF, Nds, Raws, ArgsRs. -/
import Derived.Test.YtcdgmdhfaniciaaDoorPa
import Derived.ProofKit
import Derived.OpenShut
import Derived.ShutString
import Derived.ChangeOld
import Derived.Test.YtcdgmdhfaniciaaDoorPt
import Derived.Test.YtcdgmdhfaniciaaDoorPc
import Derived.Deep.Slices
import Derived.Lib.SmallJoins
import Derived.Test.YtcdgmdhfaniciaaDoorPg
import Derived.Test.YtcdgmdhfaniciaaDoorPj
import Derived.Deep.RegionHeld3
import Derived.Test.YtcdgmdhfaniciaaDoorRows
import Derived.Test.YtcdgmdhfaniciaaDoorPi
/- The arguments of a law, opened: a byte slice. -/
namespace Go.Proofs.YtcdgmdhfaniciaaDoor
open Go.ChangeShapes Go.WideShapes Go.ChangeAt Go.RowKit
set_option linter.unusedVariables false
set_option linter.unusedSimpArgs false

theorem own : ownKnob Tryd.prog.godebug = none := by kernel_rfl
theorem laidOut : laidOutB Tryd.prog = true := by kernel_rfl

/-- What a walk is told of a byte slice that came in. -/
structure ArgB (w : World) (A : Option Addr) (n c : Nat) (l : List UInt8) : Prop where
  sees : Sees w w.heap.size A (l.map bv)
  len : l.length = n
  cap : n ≤ c
  max : c ≤ maxLen

theorem wf_u8 {z : Int} (h : (Lit.int .u8 z).wf = true) : 0 ≤ z ∧ z ≤ 255 := by
  simp [Lit.wf, IntKind.min, IntKind.max, IntKind.signed, IntKind.bits] at h
  omega

theorem wf_u16 {z : Int} (h : (Lit.int .u16 z).wf = true) : 0 ≤ z ∧ z ≤ 65535 := by
  simp [Lit.wf, IntKind.min, IntKind.max, IntKind.signed, IntKind.bits] at h
  omega
theorem wf_u32 {z : Int} (h : (Lit.int .u32 z).wf = true) : 0 ≤ z ∧ z ≤ 4294967295 := by
  simp [Lit.wf, IntKind.min, IntKind.max, IntKind.signed, IntKind.bits] at h
  omega
theorem wf_u64 {z : Int} (h : (Lit.int .u64 z).wf = true) : 0 ≤ z ∧ z ≤ 18446744073709551615 := by
  simp [Lit.wf, IntKind.min, IntKind.max, IntKind.signed, IntKind.bits] at h
  omega
theorem wf_i16 {z : Int} (h : (Lit.int .i16 z).wf = true) : -32768 ≤ z ∧ z ≤ 32767 := by
  simp [Lit.wf, IntKind.min, IntKind.max, IntKind.signed, IntKind.bits] at h
  omega
theorem wf_i64 {z : Int} (h : (Lit.int .i64 z).wf = true) : -9223372036854775808 ≤ z ∧ z ≤ 9223372036854775807 := by
  simp [Lit.wf, IntKind.min, IntKind.max, IntKind.signed, IntKind.bits] at h
  omega

theorem argB_of {w : World} {x : Addr} {len cap : Nat} {zs : List Int} (hl : len ≤ cap) (hm : cap ≤ maxLen) (hz : zs.length = cap) (hcell : ∀ i, i < zs.length → w.cell? (x.add i) = some (.int .u8 (zs.getD i 0)))
    (hwz : ∀ n ∈ zs, (Lit.int .u8 n).wf = true) : ∃ l, ArgB w (some x) len cap l := by
  have hbv : ∀ z ∈ zs, bv (UInt8.ofNat z.toNat) = .int .u8 z := by
    intro z hz
    obtain ⟨h1, h2⟩ := wf_u8 (hwz z hz)
    unfold bv
    congr 1
    rw [UInt8.toNat_ofNat']
    omega
  have hmap : ((zs.take len).map fun z => UInt8.ofNat z.toNat).map bv = (zs.take len).map (Value.int .u8) := by
    rw [List.map_map]
    apply List.map_congr_left
    intro z hz'
    exact hbv z (List.mem_of_mem_take hz')
  refine ⟨(zs.take len).map fun z => UInt8.ofNat z.toNat, ?_, by simp; omega, hl, hm⟩
  rw [hmap]
  intro hne
  have h0 : 0 < zs.length := by
    rcases Nat.eq_zero_or_pos zs.length with h | h
    · rw [List.length_eq_zero_iff.1 h] at hne; simp at hne
    · exact h
  have hc := hcell 0 h0
  have hspot : x.spot = none := by simpa [Addr.add] using World.cell?_spot hc
  obtain ⟨b, o, s⟩ := x
  simp at hspot
  subst hspot
  refine ⟨b, o, rfl, World.block_lt_of_cell? w _ hc, fun j u hu => ?_⟩
  have hj : j < zs.length := by
    have := (List.getElem?_eq_some_iff.1 hu).1
    simp at this; omega
  have := hcell j hj
  rw [Addr.add_lit] at this
  rw [this]
  rw [List.getElem?_map, List.getElem?_take] at hu
  split at hu
  · simp [List.getElem?_eq_getElem hj] at hu
    rw [← hu]; simp [List.getD, List.getElem?_eq_getElem hj]
  · simp at hu

set_option maxRecDepth 100000 in
theorem open_bytes {H : Type} {enc : TypeId × Value → H} {W : World} {r : Reach} {base base' : Nat} {spare : Nat → Bool} (hsp : ∀ b, spare b = true) {held : Bool} {v : Value} {d : DataW H} {p : List MemPlace} (hv : Value.okWide Tryd.prog W r base 22 v)
    (h : DataW.Trod enc Tryd.prog W base' spare held 22 v d p) : ∃ A n c l, v = .slice A n c ∧ ArgB W A n c l := by
  obtain ⟨A, len, cap, rfl⟩ := okWide_slice Tryd.underlying22 hv
  refine ⟨A, len, cap, ?_⟩
  obtain ⟨fuel, hf⟩ := h
  rcases open_ints Tryd.underlying22 Tryd.underlying5 (by kernel_rfl) hf with ⟨hcs, _⟩ | ⟨x, l, c, zs, hcs, _, hl, hm, hz, _, hcell, hwz⟩
  · simp [Value.cells] at hcs
    obtain ⟨rfl, rfl, rfl⟩ := hcs
    exact ⟨[], rfl, ⟨Sees.nil _ _ _, rfl, Nat.le_refl _, Nat.zero_le _⟩⟩
  · simp [Value.cells] at hcs
    obtain ⟨rfl, rfl, rfl⟩ := hcs
    rw [hsp, if_pos rfl] at hz
    obtain ⟨l, hl'⟩ := argB_of hl hm hz hcell hwz
    exact ⟨l, rfl, hl'⟩
end Go.Proofs.YtcdgmdhfaniciaaDoor
/- Arguments opened: what stands for a problem; a change of a problem. -/
namespace Go.Proofs.YtcdgmdhfaniciaaDoor
open Go.ChangeShapes Go.WideShapes Go.ChangeAt Go.RowKit Go.Deep Go.Joins
set_option linter.unusedVariables false
set_option linter.unusedSimpArgs false

theorem bytes_of_trod1 {H : Type} {enc : TypeId × Value → H} {W : World} {base : Nat} {spare : Nat → Bool} (hsp : ∀ b, spare b = true) {held : Bool} {v : Value} {m : Nat} {y : DataW H × List MemPlace}
    (hf : DataW.trod enc Tryd.prog W base spare held m 22 [v] = some y) : ∃ A n c l, v = .slice A n c ∧ ArgB W A n c l := by
  rcases open_ints Tryd.underlying22 Tryd.underlying5 (by kernel_rfl) hf with ⟨hcs, _⟩ | ⟨x, l, c, zs, hcs, _, hl, hm, hz, _, hcell, hwz⟩
  · simp at hcs
    subst hcs
    exact ⟨none, 0, 0, [], rfl, ⟨Sees.nil _ _ _, rfl, Nat.le_refl _, Nat.zero_le _⟩⟩
  · simp at hcs
    subst hcs
    rw [hsp, if_pos rfl] at hz
    obtain ⟨l', hl'⟩ := argB_of hl hm hz hcell hwz
    exact ⟨_, _, _, l', rfl, hl'⟩
theorem trod_array2 {H : Type} {enc : TypeId × Value → H} {P : Program} {w : World} {base : Nat} {spare : Nat → Bool} {held : Bool} {t e : TypeId} {fuel : Nat} {c0 c1 : Value} {x : DataW H × List MemPlace} (ht : P.underlying t = some (.array 2 e)) (hce : P.cellsOf e = 1)
    (h : DataW.trod enc P w base spare held fuel t [c0, c1] = some x) :
    ∃ y0 y1 n, x = (.agg [y0.1, y1.1], y0.2 ++ y1.2) ∧ DataW.trod enc P w base spare held n e [c0] = some y0 ∧ DataW.trod enc P w base spare held n e [c1] = some y1 := by
  cases fuel with
  | zero => simp [DataW.trod] at h
  | succ n =>
    unfold DataW.trod at h
    rw [ht] at h
    have r3 : List.range 2 = [0, 1] := rfl
    simp [r3, hce] at h
    obtain ⟨_, h⟩ := h
    cases h0 : DataW.trod enc P w base spare held n e [c0] with
    | none => simp [h0] at h
    | some y0 =>
      cases h1 : DataW.trod enc P w base spare held n e [c1] with
      | none => simp [h0, h1] at h
      | some y1 =>
        simp [h0, h1] at h
        exact ⟨y0, y1, n, h.symm, h0, h1⟩
theorem bv_of {z : Int} (h : (Lit.int .u8 z).wf = true) : ∃ x : UInt8, (.int .u8 z : Value) = bv x := by
  obtain ⟨h1, h2⟩ := wf_u8 h
  refine ⟨UInt8.ofNat z.toNat, ?_⟩
  unfold bv
  congr 1
  rw [UInt8.toNat_ofNat']
  omega
set_option maxRecDepth 100000 in
theorem pairs_of_trod1 {H : Type} {enc : TypeId × Value → H} {W : World} {base : Nat} {spare : Nat → Bool} (hsp : ∀ b, spare b = true) {held : Bool} {v : Value} {m0 : Nat} {y : DataW H × List MemPlace}
    (hf : DataW.trod enc Tryd.prog W base spare held m0 23 [v] = some y) : ∃ (A : Option Addr) (n c : Nat) (l : List (UInt8 × UInt8)), v = .slice A n c ∧ l.length = n ∧ n ≤ c ∧ c ≤ maxLen ∧ Sees W W.heap.size A (l.flatMap pb) := by
  rcases open_slice Tryd.underlying23 hf with ⟨hcs, _⟩ | ⟨a, len', cap', m, n, D, Pl, hcs, _, hl, hm, hmm, _, hel⟩
  · simp at hcs
    subst hcs
    exact ⟨none, 0, 0, [], rfl, rfl, Nat.le_refl _, Nat.zero_le _, Sees.nil _ _ _⟩
  · simp at hcs
    subst hcs
    rw [hsp, if_pos rfl] at hmm
    subst hmm
    have c2 : Tryd.prog.cellsOf 79 = 2 := by kernel_rfl
    have c1 : Tryd.prog.cellsOf 5 = 1 := by kernel_rfl
    have hrow : ∀ i : Nat, ∃ x : UInt8 × UInt8, i < m → ∃ b o, a = ⟨b, o, none⟩ ∧ b < W.heap.size ∧ W.cell? ⟨b, o + i * 2, none⟩ = some (bv x.1) ∧ W.cell? ⟨b, o + i * 2 + 1, none⟩ = some (bv x.2) := by
      intro i
      by_cases hi : i < m
      · obtain ⟨cs', h1, h2⟩ := hel i hi
        rw [c2] at h1
        obtain ⟨_, hlen, hcell⟩ := World.cells?_some h1
        match cs', hlen with
        | [v0, v1], _ =>
          obtain ⟨y0, y1, n', _, f0, f1⟩ := trod_array2 Tryd.underlying79 c1 h2
          have e0 := hcell 0 (by omega)
          have e1 := hcell 1 (by omega)
          rw [add_add] at e0 e1
          simp at e0 e1
          obtain ⟨k, g0, _, w0⟩ := DataW.trod_int Tryd.underlying5 f0
          obtain ⟨u, g1, _, w1⟩ := DataW.trod_int Tryd.underlying5 f1
          simp at g0 g1
          subst g0 g1
          obtain ⟨x0, hx0⟩ := bv_of w0
          obtain ⟨x1, hx1⟩ := bv_of w1
          rw [hx0] at e0
          rw [hx1] at e1
          have hspot : a.spot = none := by
            obtain ⟨cs0, h10, _⟩ := hel 0 (by omega)
            rw [c2] at h10
            obtain ⟨_, hlen0, hcell0⟩ := World.cells?_some h10
            have e00 := hcell0 0 (by omega)
            obtain ⟨z0, hz0⟩ : ∃ z0, cs0[0]? = some z0 := ⟨_, List.getElem?_eq_getElem (by omega)⟩
            rw [hz0] at e00
            simpa [Addr.add] using World.cell?_spot e00
          obtain ⟨b, o, sp⟩ := a
          simp at hspot
          subst hspot
          rw [Addr.add_lit] at e0 e1
          exact ⟨(x0, x1), fun _ => ⟨b, o, rfl, World.block_lt_of_cell? W _ e0, e0, by rw [Nat.add_assoc]; exact e1⟩⟩
      · exact ⟨(0, 0), fun h => absurd h hi⟩
    refine ⟨some a, len', m, (List.range len').map (fun i => Classical.choose (hrow i)), rfl, by simp, hl, hm, ?_⟩
    intro hn
    have h0 : 0 < len' := by
      rcases Nat.eq_zero_or_pos len' with h | h
      · subst h; exact absurd rfl hn
      · exact h
    obtain ⟨b, o, ea, hb, _, _⟩ := Classical.choose_spec (hrow 0) (by omega)
    refine ⟨b, o, by rw [ea], hb, fun j u hu => ?_⟩
    have hfl := flat_len (f := pb) (m := 2) (fun _ => rfl) ((List.range len').map (fun i => Classical.choose (hrow i)))
    have hj := (List.getElem?_eq_some_iff.1 hu).1
    rw [hfl] at hj
    simp at hj
    have hi : j / 2 < len' := by omega
    have hy : ((List.range len').map (fun i => Classical.choose (hrow i)))[j / 2]? = some (Classical.choose (hrow (j / 2))) := by simp [hi]
    obtain ⟨b', o', ea', _, c0', c1'⟩ := Classical.choose_spec (hrow (j / 2)) (by omega)
    rw [ea] at ea'
    injection ea' with e1 e2 _
    subst e1 e2
    have hf := flat_get (f := pb) (m := 2) (fun _ => rfl) hy (show j % 2 < 2 by omega)
    rw [show j / 2 * 2 + j % 2 = j by omega, hu] at hf
    rcases Nat.mod_two_eq_zero_or_one j with h0 | h1
    · rw [h0] at hf
      have hf' : u = bv (Classical.choose (hrow (j / 2))).1 := by
        have : some u = some (bv (Classical.choose (hrow (j / 2))).1) := hf
        injection this
      rw [hf', ← c0']
      congr 2
      omega
    · rw [h1] at hf
      have hf' : u = bv (Classical.choose (hrow (j / 2))).2 := by
        have : some u = some (bv (Classical.choose (hrow (j / 2))).2) := hf
        injection this
      rw [hf', ← c1']
      congr 2
      omega
set_option maxRecDepth 100000 in
theorem open_raw {H : Type} {enc : TypeId × Value → H} {W : World} {r0 : Reach} {base base' : Nat} {spare : Nat → Bool} (hsp : ∀ b, spare b = true) {held : Bool} {v : Value} {d : DataW H} {p : List MemPlace} (hv : Value.okWide Tryd.prog W r0 base 25 v)
    (h : DataW.Trod enc Tryd.prog W base' spare held 25 v d p) : ∃ r R, v = RwV.v r R ∧ RwAt W W.heap.size r R := by
  obtain ⟨cs, rfl, hsz⟩ := okWide_struct Tryd.underlying25 hv
  have hC : Tryd.prog.cellsOf 25 = 6 := by kernel_rfl
  rw [hC] at hsz
  obtain ⟨cs⟩ := cs
  match cs, hsz with
  | [v0, v1, v2, v3, v4, v5], _ =>
    obtain ⟨fuel, hf⟩ := h
    obtain ⟨xs, n, _, _, hl, hlen, hf⟩ := DataW.trod_struct Tryd.underlying25 hf
    match xs, hlen with
    | [y0, y1, y2, y3, y4, y5], _ =>
      have q0 : Tryd.prog.cellsOf 5 = 1 := by kernel_rfl
      have q1 : Tryd.prog.cellsOf 22 = 1 := by kernel_rfl
      have q2 : Tryd.prog.cellsOf 23 = 1 := by kernel_rfl
      have f0 := hf 0 _ rfl
      have f1 := hf 1 _ rfl
      have f2 := hf 2 _ rfl
      have f3 := hf 3 _ rfl
      have f4 := hf 4 _ rfl
      have f5 := hf 5 _ rfl
      simp [q0, Value.cells] at f0
      simp [q1, Value.cells] at f1 f5
      simp [q2, Value.cells] at f2 f3 f4
      obtain ⟨k, g0, _, w0⟩ := DataW.trod_int Tryd.underlying5 f0
      simp at g0
      subst g0
      obtain ⟨A1, n1, c1, l1, rfl, m1⟩ := bytes_of_trod1 hsp f1
      obtain ⟨A2, n2, c2, l2, rfl, p2, _, _, s2⟩ := pairs_of_trod1 hsp f2
      obtain ⟨A3, n3, c3, l3, rfl, p3, _, _, s3⟩ := pairs_of_trod1 hsp f3
      obtain ⟨A4, n4, c4, l4, rfl, p4, _, _, s4⟩ := pairs_of_trod1 hsp f4
      obtain ⟨A5, n5, c5, l5, rfl, m5⟩ := bytes_of_trod1 hsp f5
      obtain ⟨k1, k2⟩ := wf_u8 w0
      obtain ⟨k', rfl⟩ : ∃ k' : Nat, k = (k' : Int) := ⟨k.toNat, by omega⟩
      exact ⟨⟨⟨A1, n1, c1⟩, ⟨A2, n2, c2⟩, ⟨A3, n3, c3⟩, ⟨A4, n4, c4⟩, ⟨A5, n5, c5⟩⟩, ⟨k', l1, l2, l3, l4, l5⟩, rfl, ⟨by show k' < 256; omega, m1.len, p2, p3, p4, m5.len, m1.sees, s2, s3, s4, m5.sees⟩⟩

/-- What a walk is told of a change. -/
structure OddIn (k : Nat) (z : Int) : Prop where
  kind : k < 256
  n1 : -32768 ≤ z
  n2 : z ≤ 32767
def oddV (k : Nat) (z : Int) : Value := .agg #[.int .u8 (k : Int), .int .i16 z]
set_option maxRecDepth 100000 in
theorem open_odd {H : Type} {enc : TypeId × Value → H} {W : World} {r : Reach} {base base' : Nat} {spare : Nat → Bool} {held : Bool} {v : Value} {d : DataW H} {p : List MemPlace} (hv : Value.okWide Tryd.prog W r base 28 v)
    (h : DataW.Trod enc Tryd.prog W base' spare held 28 v d p) : ∃ k z, v = oddV k z ∧ OddIn k z := by
  obtain ⟨v0, v1, y0, y1, n, rfl, _, _, h0, h1⟩ := open_agg2 Tryd.underlying28 (by kernel_rfl) (by kernel_rfl) hv h
  obtain ⟨k, e0, _, w0⟩ := DataW.trod_int Tryd.underlying5 h0
  obtain ⟨z, e1, _, w1⟩ := DataW.trod_int Tryd.underlying26 h1
  simp at e0 e1
  subst e0 e1
  obtain ⟨k1, k2⟩ := wf_u8 w0
  obtain ⟨z1, z2⟩ := wf_i16 w1
  obtain ⟨k', rfl⟩ : ∃ k' : Nat, k = (k' : Int) := ⟨k.toNat, by omega⟩
  exact ⟨k', z, rfl, by omega, z1, z2⟩
end Go.Proofs.YtcdgmdhfaniciaaDoor
/- Nodes whose lists are the call's own. -/
namespace Go.Proofs.YtcdgmdhfaniciaaDoor
open Go.RowKit
set_option linter.unusedVariables false
set_option linter.unusedSimpArgs false

theorem pnode_info : (Tryd.prog.info? 90).map (fun i => (i.zero, i.size, i.bytes)) = some (some (.agg #[.int .u8 0, .int .i64 0, .slice none 0 0, .slice none 0 0]), 4, 64) := by kernel_rfl
theorem rnode_info : (Tryd.prog.info? 72).map (fun i => (i.zero, i.size, i.bytes)) = some (some (.agg #[.int .i64 0, .int .i64 0, .slice none 0 0, .slice none 0 0]), 4, 64) := by kernel_rfl
/-- A node with its lists' slices. -/
structure NdS where
  x : Nd
  C : Sl
  S : Sl
def NdS.cs (k : IntKind) (y : NdS) : List Value := [.int k (y.x.kind : Int), .int .i64 y.x.step, y.C.v, y.S.v]
/-- Its lists are the call's own. -/
structure NdO (w : World) (base : Nat) (y : NdS) : Prop where
  k8 : y.x.kind < 256
  ch : OwnI w base y.C.v y.C.n y.x.ch
  st : OwnI w base y.S.v y.S.n y.x.st
  bc : y.C.n ≤ 1000000
  bs : y.S.n ≤ 1000000
theorem NdO.on {w w' : World} {base : Nat} {y : NdS} (h : NdO w base y) (hb : Below w.heap.size w w') : NdO w' base y := ⟨h.k8, h.ch.on hb, h.st.on hb, h.bc, h.bs⟩
theorem NdO.less {w : World} {base base' : Nat} {y : NdS} (h : NdO w base y) (hb : base' ≤ base) : NdO w base' y := ⟨h.k8, own_less h.ch hb, own_less h.st hb, h.bc, h.bs⟩
theorem NdO.at {w : World} {base : Nat} {y : NdS} (h : NdO w base y) : NdL w w.heap.size y.C y.S y.x :=
  ⟨h.k8, h.ch.sees, h.st.sees, h.ch.len, h.st.len, own_room h.ch, own_room h.st, h.bc, h.bs⟩
theorem NdO.grown {w w' : World} {base : Nat} {y : NdS} {row : Option Nat} (h : NdO w base y) (hg : w.grownBy w' row) (h1 : y.C.v.ownBlock = none ∨ y.C.v.ownBlock ≠ row) (h2 : y.S.v.ownBlock = none ∨ y.S.v.ownBlock ≠ row) : NdO w' base y :=
  ⟨h.k8, h.ch.kept hg h1, h.st.kept hg h2, h.bc, h.bs⟩
/-- A row of nodes of the call's own. -/
structure OwnNs (k : IntKind) (T : TypeId) (w : World) (base : Nat) (v : Value) (n : Nat) (ys : List NdS) : Prop where
  row : w.ownsRow base T 4 v n (ys.flatMap (NdS.cs k))
  nd : ∀ y ∈ ys, NdO w base y
theorem OwnNs.nil (k : IntKind) (T : TypeId) (w : World) (base : Nat) : OwnNs k T w base (.slice none 0 0) 0 [] := ⟨World.ownsRow_nil _ _ _ _, fun y hy => by cases hy⟩
theorem OwnNs.len {k : IntKind} {T : TypeId} {w : World} {base n : Nat} {v : Value} {ys : List NdS} (h : OwnNs k T w base v n ys) : ys.length = n := by
  have h1 := h.row.1
  rw [flat_len (f := NdS.cs k) (m := 4) (fun _ => rfl)] at h1
  omega
theorem OwnNs.on {k : IntKind} {T : TypeId} {w w' : World} {base n : Nat} {v : Value} {ys : List NdS} (h : OwnNs k T w base v n ys) (hb : Below w.heap.size w w') : OwnNs k T w' base v n ys :=
  ⟨own_on h.row hb, fun y hy => (h.nd y hy).on hb⟩
theorem OwnNs.less {k : IntKind} {T : TypeId} {w : World} {base base' n : Nat} {v : Value} {ys : List NdS} (h : OwnNs k T w base v n ys) (hb : base' ≤ base) : OwnNs k T w base' v n ys :=
  ⟨own_less h.row hb, fun y hy => (h.nd y hy).less hb⟩
/-- One more node. -/
theorem OwnNs.add {k : IntKind} {T : TypeId} {w w' : World} {base n n' c' : Nat} {v : Value} {A' : Option Addr} {ys : List NdS} {y : NdS} (h : OwnNs k T w base v n ys) (hT : 3 ≠ T) (hy : NdO w base y)
    (ho : w'.ownsRow base T 4 (.slice A' n' c') n' (ys.flatMap (NdS.cs k) ++ y.cs k)) (hg : w.grownBy w' v.ownBlock) : OwnNs k T w' base (.slice A' n' c') n' (ys ++ [y]) := by
  have keep : ∀ z, NdO w base z → NdO w' base z := fun z hz => hz.grown hg (own_apart hz.ch h.row hT) (own_apart hz.st h.row hT)
  refine ⟨by rw [flat_snoc]; exact ho, fun z hz => ?_⟩
  rcases List.mem_append.1 hz with h1 | h1
  · exact keep z (h.nd z h1)
  · obtain rfl : z = y := by simpa using h1
    exact keep z hy
theorem NdO.put {w : World} {base g t i : Nat} {y : NdS} {cs : Array Value} (h : NdO w base y) (hb : Blk w g t cs) (ht : 3 ≠ t) (u : Value) : NdO (w.setCell ⟨g, i, none⟩ u) base y :=
  ⟨h.k8, ownsRow_setCell_other h.ch (a := ⟨g, i, none⟩) (own_off h.ch hb ht) u, ownsRow_setCell_other h.st (a := ⟨g, i, none⟩) (own_off h.st hb ht) u, h.bc, h.bs⟩
/-- A store into a block of another type. -/
theorem OwnNs.put {k : IntKind} {T : TypeId} {w : World} {base n g t i : Nat} {v : Value} {ys : List NdS} {cs : Array Value} (h : OwnNs k T w base v n ys) (hb : Blk w g t cs) (hT : T ≠ t) (ht : 3 ≠ t) (u : Value) : OwnNs k T (w.setCell ⟨g, i, none⟩ u) base v n ys :=
  ⟨ownsRow_setCell_other h.row (a := ⟨g, i, none⟩) (own_off h.row hb hT) u, fun y hy => (h.nd y hy).put hb ht u⟩
theorem OwnNs.get {k : IntKind} {T : TypeId} {w : World} {base n c i : Nat} {A : Option Addr} {ys : List NdS} {y : NdS} (h : OwnNs k T w base (.slice A n c) n ys) (hy : ys[i]? = some y) :
    ∃ b o, A = some ⟨b, o, none⟩ ∧ b < w.heap.size ∧ w.cell? ⟨b, o + i * 4, none⟩ = some (.int k (y.x.kind : Int)) ∧ w.cell? ⟨b, o + i * 4 + 1, none⟩ = some (.int .i64 y.x.step) ∧ w.cell? ⟨b, o + i * 4 + 2, none⟩ = some y.C.v ∧ w.cell? ⟨b, o + i * 4 + 3, none⟩ = some y.S.v := by
  have e0 := flat_get (f := NdS.cs k) (m := 4) (fun _ => rfl) hy (show 0 < 4 by omega)
  have e1 := flat_get (f := NdS.cs k) (m := 4) (fun _ => rfl) hy (show 1 < 4 by omega)
  have e2 := flat_get (f := NdS.cs k) (m := 4) (fun _ => rfl) hy (show 2 < 4 by omega)
  have e3 := flat_get (f := NdS.cs k) (m := 4) (fun _ => rfl) hy (show 3 < 4 by omega)
  obtain ⟨b, o, e, hb, hc⟩ := Sees.own h.row (by omega) (by intro h0; rw [h0] at e0; simp [NdS.cs] at e0)
  exact ⟨b, o, e, hb, hc _ _ (by rw [show i * 4 = i * 4 + 0 from rfl, e0]; rfl), hc _ _ (by rw [e1]; rfl), hc _ _ (by rw [e2]; rfl), hc _ _ (by rw [e3]; rfl)⟩
theorem OwnNs.atR {w : World} {base n c : Nat} {A : Option Addr} {ys : List NdS} (h : OwnNs .i64 72 w base (.slice A n c) n ys) : RNodesAt w w.heap.size A (ys.map (·.x)) := fun i x hx => by
  rw [List.getElem?_map] at hx
  cases hy : ys[i]? with
  | none => rw [hy] at hx; cases hx
  | some y =>
    rw [hy] at hx
    injection hx with hx
    subst hx
    obtain ⟨b, o, e, hb, h0, h1, h2, h3⟩ := h.get hy
    exact ⟨b, o, y.C, y.S, e, hb, h0, h1, h2, h3, (h.nd y (List.mem_of_getElem? hy)).at⟩
theorem OwnNs.atP {w : World} {base n c : Nat} {A : Option Addr} {ys : List NdS} (h : OwnNs .u8 90 w base (.slice A n c) n ys) : NodesAt w w.heap.size A (ys.map (·.x)) := fun i x hx => by
  rw [List.getElem?_map] at hx
  cases hy : ys[i]? with
  | none => rw [hy] at hx; cases hx
  | some y =>
    rw [hy] at hx
    injection hx with hx
    subst hx
    obtain ⟨b, o, e, hb, h0, h1, h2, h3⟩ := h.get hy
    exact ⟨b, o, y.C, y.S, e, hb, h0, h1, h2, h3, (h.nd y (List.mem_of_getElem? hy)).at⟩
end Go.Proofs.YtcdgmdhfaniciaaDoor
/- A drawn region whose last operations wait for some loads: S need not hold behind them. -/
namespace Go.Proofs.YtcdgmdhfaniciaaDoor
set_option linter.unusedVariables false
set_option linter.unusedSimpArgs false

section
variable {P : Program} {ops : Array Oper} {Q : Exit → Act → World → Prop} {md : Region.Mode} {D : Nat → Bool} {S : World → Prop}

/-- Whatever order is picked, and S holds behind every operation but the last ones. -/
def wpAnyF (P : Program) (md : Region.Mode) (ops : Array Oper) (Q : Exit → Act → World → Prop) (D : Nat → Bool) (S : World → Prop) : Nat → Array Bool → Act → World → Prop
  | 0, listed, a, w => Region.ready md ops listed = [] ∧ Q .normal a w
  | fuel + 1, listed, a, w =>
    (Region.ready md ops listed = [] → Q .normal a w) ∧
    ∀ i ∈ Region.ready md ops listed, wpOp P ops Q i (fun a' w' => (D i = true ∨ S w') ∧ wpAnyF P md ops Q D S fuel (listed.setIfInBounds i true) a' w') a w
theorem wpAny_of_F : ∀ (fuel : Nat) (listed : Array Bool) (a : Act) (w : World), wpAnyF P md ops Q D S fuel listed a w → wpAny P md ops Q fuel listed a w
  | 0, _, _, _, h => h
  | fuel + 1, _, _, _, h => ⟨h.1, fun i hi => wpOp_mono (fun a' w' h' => wpAny_of_F fuel _ a' w' h'.2) (h.2 i hi)⟩
/-- The last ones wait for operation i. -/
def waitsB (md : Region.Mode) (ops : Array Oper) (D : Nat → Bool) (i : Nat) : Bool :=
  (List.range ops.size).all fun j => !D j || ((ops[j]?).map (·.after.any fun e => Region.binds md e && e.on == i)).getD true
theorem waits_spec {i : Nat} (h : waitsB md ops D i = true) {j : Nat} {oj : Oper} (hj : ops[j]? = some oj) (hD : D j = true) : ∃ e ∈ oj.after, Region.binds md e = true ∧ e.on = i := by
  unfold waitsB at h
  rw [List.all_eq_true] at h
  have h1 := h j (List.mem_range.2 (Array.getElem?_eq_some_iff.1 hj).1)
  rw [hD, hj] at h1
  simp only [Bool.not_true, Bool.false_or, Option.map_some, Option.getD_some] at h1
  obtain ⟨k, hk, h2⟩ := Array.any_eq_true.1 h1
  simp only [Bool.and_eq_true, beq_iff_eq] at h2
  exact ⟨oj.after[k], Array.getElem_mem hk, h2.1, h2.2⟩
theorem wpAnyF_first {i : Nat} {oi : Oper} {v : Value} (hi : ops[i]? = some oi) (hD : waitsB md ops D i = true) (hsel : ∀ (j : Nat) (o : Oper) cs b, ops[j]? = some o → o.op ≠ .select cs b)
    (hQ : ∀ c a w, Q (.panic c) (a.put oi.dst v) w → Q (.panic c) a w) :
    ∀ (fuel : Nat) (listed : Array Bool) (a : Act) (w : World),
      (∀ j oj, ops[j]? = some oj → j ≠ i → listed.getD j true = false → (∀ e ∈ oj.after, Region.binds md e = true → e.on ≠ i) → oi.apart ops oj = true) →
      i ∈ Region.ready md ops listed → YieldsIf P ops S oi v a → S w →
      wpAnyF P md ops Q D S fuel (listed.setIfInBounds i true) (a.put oi.dst v) w → wpAnyF P md ops Q D S (fuel + 1) listed a w := by
  intro fuel
  induction fuel with
  | zero =>
    intro listed a w _ hr hy hS H
    refine ⟨fun h => (by rw [h] at hr; cases hr), fun j hj => ?_⟩
    by_cases hji : j = i
    · subst hji; exact hy.wpOp hi hS ⟨.inr hS, H⟩
    · have := ready_mono hj hji
      rw [H.1] at this
      cases this
  | succ fuel ih =>
    intro listed a w hfree hr hy hS H
    refine ⟨fun h => (by rw [h] at hr; cases hr), fun j hj => ?_⟩
    by_cases hji : j = i
    · subst hji; exact hy.wpOp hi hS ⟨.inr hS, H⟩
    · have h1 := H.2 j (ready_mono hj hji)
      obtain ⟨hjun, oj, hoj, hall⟩ := mem_ready.1 hj
      have h00 := (mem_ready.1 hr).1
      have hnot : ∀ e ∈ oj.after, Region.binds md e = true → e.on ≠ i := fun e he hb heq => by
        have h1 := hall e he hb
        rw [heq] at h1
        rcases Nat.lt_or_ge i listed.size with h' | h'
        · simp [h'] at h00 h1; rw [h00] at h1; cases h1
        · simp [Array.getElem?_eq_none h'] at h1
      have hDj : ¬ D j = true := fun hd => by
        obtain ⟨e, he, hb, e1⟩ := waits_spec hD hoj hd
        exact hnot e he hb e1
      have h2 := wpOp_putIf hoj (hfree j oj hoj hji hjun hnot) (fun cs b => hsel i oi cs b hi) (fun cs b => hsel j oj cs b hoj) hQ hy h1
      have hfree' : ∀ k ok, ops[k]? = some ok → k ≠ i → (listed.setIfInBounds j true).getD k true = false →
          (∀ e ∈ ok.after, Region.binds md e = true → e.on ≠ i) → oi.apart ops ok = true := fun k ok hk hki hun hno => by
        refine hfree k ok hk hki ?_ hno
        by_cases hjk : j = k
        · subst hjk; exact hjun
        · rw [getD_set_ne true hjk] at hun; exact hun
      refine wpOp_mono (fun a' w' h3 => ?_) h2
      have hSw : S w' := h3.2.1.resolve_left hDj
      refine ⟨.inr hSw, ih (listed.setIfInBounds j true) a' w' hfree' (ready_mono hr (Ne.symm hji)) h3.1 hSw ?_⟩
      rw [Array.setIfInBounds_comm _ _ hji]
      exact h3.2.2
/-- Take number i first. -/
theorem wpAnyF_take {i : Nat} {oi : Oper} {v : Value} {fuel : Nat} {listed : Array Bool} {a : Act} {w : World} (hi : ops[i]? = some oi)
    (hr : (Region.ready md ops listed).contains i = true) (hD : waitsB md ops D i = true) (hs : Region.noSelect ops = true) (hf : Region.free md ops listed i = true)
    (hQ : ∀ c a w, Q (.panic c) (a.put oi.dst v) w → Q (.panic c) a w) (hS : S w) (hy : YieldsIf P ops S oi v a)
    (h : wpAnyF P md ops Q D S fuel (listed.setIfInBounds i true) (a.put oi.dst v) w) : wpAnyF P md ops Q D S (fuel + 1) listed a w :=
  wpAnyF_first hi hD (Region.noSelect_spec hs) hQ fuel listed a w (Region.free_spec hi hf) (by simpa using hr) hy hS h
/-- One alone may come up: the step. -/
theorem wpAnyF_one {i : Nat} {o : Oper} {fuel : Nat} {listed : Array Bool} {a : Act} {w : World} (hr : Region.ready md ops listed = [i]) (ho : ops[i]? = some o)
    (h : ∀ K' : Act → World → Prop, Shut (∀ a w, (D i = true ∨ S w) → wpAnyF P md ops Q D S fuel (listed.setIfInBounds i true) a w → K' a w) → if Region.wanted o (yielded ops a.tmps) = true then Oper.wp P o a w K' Q else K' (a.put o.dst undef) w) :
    wpAnyF P md ops Q D S (fuel + 1) listed a w := by
  refine ⟨fun h0 => (by rw [hr] at h0; cases h0), fun j hj => ?_⟩
  rw [hr] at hj
  obtain rfl : j = i := by simpa using hj
  exact wpOp_step ho fun K' hK => h K' fun a w hS hW => hK a w ⟨hS, hW⟩
/-- Two may come up. -/
theorem wpAnyF_two {i k : Nat} {o o' : Oper} {fuel : Nat} {listed : Array Bool} {a : Act} {w : World} (hr : Region.ready md ops listed = [i, k]) (ho : ops[i]? = some o) (ho' : ops[k]? = some o')
    (h : ∀ K' : Act → World → Prop, Shut (∀ a w, (D i = true ∨ S w) → wpAnyF P md ops Q D S fuel (listed.setIfInBounds i true) a w → K' a w) → if Region.wanted o (yielded ops a.tmps) = true then Oper.wp P o a w K' Q else K' (a.put o.dst undef) w)
    (h' : ∀ K' : Act → World → Prop, Shut (∀ a w, (D k = true ∨ S w) → wpAnyF P md ops Q D S fuel (listed.setIfInBounds k true) a w → K' a w) → if Region.wanted o' (yielded ops a.tmps) = true then Oper.wp P o' a w K' Q else K' (a.put o'.dst undef) w) :
    wpAnyF P md ops Q D S (fuel + 1) listed a w := by
  refine ⟨fun h0 => (by rw [hr] at h0; cases h0), fun j hj => ?_⟩
  rw [hr] at hj
  have hj' : j = i ∨ j = k := by simpa using hj
  rcases hj' with rfl | rfl
  · exact wpOp_step ho fun K' hK => h K' fun a w hS hW => hK a w ⟨hS, hW⟩
  · exact wpOp_step ho' fun K' hK => h' K' fun a w hS hW => hK a w ⟨hS, hW⟩
/-- All have come up. -/
theorem wpAnyF_done {listed : Array Bool} {a : Act} {w : World} (hr : Region.ready md ops listed = []) (h : Q .normal a w) : ∀ fuel, wpAnyF P md ops Q D S fuel listed a w
  | 0 => ⟨hr, h⟩
  | _ + 1 => ⟨fun _ => h, by rw [hr]; simp⟩
/-- The beginning. -/
theorem wp_region_F {id : Nat} {a : Act} {w : World} (D : Nat → Bool) (S : World → Prop) (hm : P.follows .mixedOrders = true) (hS : S w.drew)
    (h : S w.drew → wpAnyF P .any ops Q D S ops.size (Array.replicate ops.size false) a w.drew) : (Code.region id ops true).wp P Q a w :=
  wp_region_any hm (wpAny_of_F _ _ _ _ (h hS))
end
end Go.Proofs.YtcdgmdhfaniciaaDoor
/- Nodes: a refutation as the program has it. -/
namespace Go.Proofs.YtcdgmdhfaniciaaDoor
open Go.RowKit
set_option linter.unusedVariables false
set_option linter.unusedSimpArgs false

theorem ret_rf {fn : Func} {R : Ending → World → Prop} {a : Act} {w : World} {q : Tmp} (h : fn.results = #[.cell q 53]) (g : Nat) (v : Value) (hp : a.tmps.getD q undef = .pointer (some ⟨g, 0, none⟩))
    (hb : Blk w g 53 #[v]) (hd : a.defers = []) (hR : R (.returned (.agg #[v])) w) : bodyPost Tryd.prog fn R .ret a w :=
  bodyPost_ret (results_cell_row h _ w g _ _ _ _ hp hb Tryd.underlying53 rfl (by kernel_rfl)) hd hR
set_option maxHeartbeats 16000000 in
set_option maxRecDepth 100000 in
/-- Nodes. -/
theorem nodes41_any (An : Option Addr) (n cn : Nat) (l : List Nd) (w : World) (h : RNodesAt w w.heap.size An l) (hn : l.length = n) (hb : n ≤ 1000000) :
    Calls Tryd.prog 19 #[.slice An n cn] w fun e w' => ∃ A' c', e = .returned (.agg #[.slice A' n c']) ∧ (∃ ys : List NdS, ys.map (·.x) = l ∧ OwnNs .u8 90 w' w.heap.size (.slice A' n c') n ys) ∧ Below w.heap.size w w' := by
  have Hn := Lib.hid hn
  have hnb : (n : Int) ≤ 1000000 := by omega
  clear hn
  go_enter Tryd.func19, Tryd.ntmps19
  go_wp2_with fail
  have b1 : Below w.heap.size w ((w.alloc (.cells #[.slice none 0 0] 53)).alloc (.cells #[.slice none 0 0] 53)) := bAl (bAl (Below.refl _ _) _) _
  have k0 := (Blk.new w 53 #[.slice none 0 0]).alloc (.cells #[.slice none 0 0] 53)
  have k1 := Blk.new (w.alloc (.cells #[.slice none 0 0] 53)) 53 #[.slice none 0 0]
  rw [World.size_alloc] at k1
  generalize ((w.alloc (.cells #[.slice none 0 0] 53)).alloc (.cells #[.slice none 0 0] 53)) = W1 at b1 k0 k1 ⊢
  go_loopw [8] (fun v8 wr => ∃ (k c' : Nat) (A' : Option Addr) (ys : List NdS), k ≤ n ∧ v8 = .int .i64 k ∧ Hid (ys.map (·.x) = l.take k) ∧ OwnNs .u8 90 wr w.heap.size (.slice A' k c') k ys ∧ Below w.heap.size w wr ∧ Blk wr w.heap.size 53 #[.slice none 0 0] ∧ Blk wr (w.heap.size + 1) 53 #[.slice A' k c']) (fun v8 _ => n - (intOf v8).toNat)
  case atStart => exact ⟨0, 0, none, [], Nat.zero_le _, rfl, Lib.hid rfl, OwnNs.nil _ _ _ _, b1, k0, k1⟩
  case round =>
    clear b1 k0 k1
    obtain ⟨k, c', A', ys, hk, rfl, HY, hO, hB, hk0, hk1⟩ := hrel
    by_cases hlt : k < n
    · have hlt' : (k : Int) < (n : Int) := by omega
      obtain ⟨x, hx⟩ : ∃ x, l[k]? = some x := ⟨_, List.getElem?_eq_getElem (by rw [Hn.out]; exact hlt)⟩
      obtain ⟨b, o, ⟨Ac, nc, cc⟩, ⟨As, ns, cs⟩, rfl, hb2, hc0, hc1, hc2, hc3, hN⟩ := (h.below hB) k x hx
      have HT : Hid (l.take (k + 1) = l.take k ++ [x]) := Lib.hid (by rw [List.take_add_one, hx]; rfl)
      unfold Sl.v at hc2 hc3
      simp only [] at hc2 hc3
      have hk8 := hN.k8
      obtain ⟨kd, stp, ch, sp⟩ := x
      simp only [] at hc0 hc1 hk8
      have hwr : IntKind.u8.wrap (kd : Int) = (kd : Int) := by rw [IntKind.wrap_u8]; omega
      have hz0 : w.heap.size ≤ wr.heap.size := hB.size
      have hbL : Below wr.heap.size wr (wr.alloc (.cells #[.int .i64 (kd : Int), .int .i64 stp, .slice Ac nc cc, .slice As ns cs] 72)) := bAl (Below.refl _ _) _
      have bX := Blk.new wr 72 #[.int .i64 (kd : Int), .int .i64 stp, .slice Ac nc cc, .slice As ns cs]
      have hO1 := hO.on hbL
      have hk01 := hk0.on hbL
      have hk11 := hk1.on hbL
      have hB1 := hB.trans (hbL.mono hz0)
      have hz1 : wr.heap.size + 1 ≤ (wr.alloc (.cells #[.int .i64 (kd : Int), .int .i64 stp, .slice Ac nc cc, .slice As ns cs] 72)).heap.size := by simp
      have hcl1 := fun W (hW : Below wr.heap.size wr W) => cloneI_any Ac nc cc ch W ((hN.ch.below (hW.mono hz0)).more (Nat.le_trans hz0 hW.size)) hN.lc (by have := hN.bc; simp only [] at this; omega)
      have hcl2 := fun W (hW : Below wr.heap.size wr W) => cloneI_any As ns cs sp W ((hN.st.below (hW.mono hz0)).more (Nat.le_trans hz0 hW.size)) hN.ls (by have := hN.bs; simp only [] at this; omega)
      have hnc := hN.bc
      have hns := hN.bs
      simp only [] at hnc hns
      have hkb : k ≤ 1000000 := by omega
      clear hx hN
      go_wp2_with fail
      generalize (wr.alloc (.cells #[.int .i64 (kd : Int), .int .i64 stp, .slice Ac nc cc, .slice As ns cs] 72)) = W2 at hbL bX hO1 hk01 hk11 hB1 hz1 ⊢
      have sX : ∀ W, Blk W wr.heap.size 72 #[.int .i64 (kd : Int), .int .i64 stp, .slice Ac nc cc, .slice As ns cs] → W.cell? ⟨wr.heap.size, 0, none⟩ = some (.int .i64 (kd : Int)) ∧ W.cell? ⟨wr.heap.size, 1, none⟩ = some (.int .i64 stp) ∧ W.cell? ⟨wr.heap.size, 2, none⟩ = some (.slice Ac nc cc) ∧ W.cell? ⟨wr.heap.size, 3, none⟩ = some (.slice As ns cs) := fun W hX => ⟨(hX.cell 0).trans rfl, (hX.cell 1).trans rfl, (hX.cell 2).trans rfl, (hX.cell 3).trans rfl⟩
      have sB : ∀ W, Below W2.heap.size W2 W → _ := fun W hW => sX W (bX.on hW)
      have sO : ∀ W, Below W2.heap.size W2 W → W.cell? ⟨w.heap.size + 1, 0, none⟩ = some (.slice A' k c') := fun W hW => ((hk11.on hW).cell 0).trans rfl
      have qq : Below W2.heap.size W2 W2.drew := (Below.refl _ _).drew
      have y2 := sO _ (Below.refl _ _)
      have hne : wr.heap.size ≠ w.heap.size + 1 := by have := hk1.lt; omega
      have sS : ∀ W, Below W2.heap.size W2 W → (fun W => W.cell? ⟨w.heap.size + 1, 0, none⟩ = some (.slice A' k c') ∧ W.cell? ⟨wr.heap.size, 0, none⟩ = some (.int .i64 (kd : Int)) ∧ W.cell? ⟨wr.heap.size, 1, none⟩ = some (.int .i64 stp) ∧ W.cell? ⟨wr.heap.size, 2, none⟩ = some (.slice Ac nc cc) ∧ W.cell? ⟨wr.heap.size, 3, none⟩ = some (.slice As ns cs)) W := fun W hW => ⟨sO W hW, sB W hW⟩
      refine wp_region_F (fun i => decide (16 ≤ i)) (fun W => W.cell? ⟨w.heap.size + 1, 0, none⟩ = some (.slice A' k c') ∧ W.cell? ⟨wr.heap.size, 0, none⟩ = some (.int .i64 (kd : Int)) ∧ W.cell? ⟨wr.heap.size, 1, none⟩ = some (.int .i64 stp) ∧ W.cell? ⟨wr.heap.size, 2, none⟩ = some (.slice Ac nc cc) ∧ W.cell? ⟨wr.heap.size, 3, none⟩ = some (.slice As ns cs)) (by kernel_rfl) (sS _ qq) (fun hHeld => ?_)
      refine wpAnyF_take (i := 0) (v := ?_) rfl (by kernel_rfl) (by kernel_rfl) (by kernel_rfl) (by kernel_rfl) (fun _ _ _ h => h) hHeld (Or.inl ⟨by rfl, ?_⟩) ?_
      rotate_left
      · (intro w hSw; (try dsimp only at hSw); go_simp; try with_reducible rfl)
      try simp only [Act.put, List.setIfInBounds_toArray, List.set_cons_zero, List.set_cons_succ]
      refine wpAnyF_take (i := 1) (v := ?_) rfl (by kernel_rfl) (by kernel_rfl) (by kernel_rfl) (by kernel_rfl) (fun _ _ _ h => h) hHeld (Or.inl ⟨by rfl, ?_⟩) ?_
      rotate_left
      · (intro w hSw; (try dsimp only at hSw); go_simp; try with_reducible rfl)
      try simp only [Act.put, List.setIfInBounds_toArray, List.set_cons_zero, List.set_cons_succ]
      refine wpAnyF_take (i := 2) (v := ?_) rfl (by kernel_rfl) (by kernel_rfl) (by kernel_rfl) (by kernel_rfl) (fun _ _ _ h => h) hHeld (Or.inl ⟨by rfl, ?_⟩) ?_
      rotate_left
      · (intro w hSw; (try dsimp only at hSw); go_simp; try with_reducible rfl)
      try simp only [Act.put, List.setIfInBounds_toArray, List.set_cons_zero, List.set_cons_succ]
      refine wpAnyF_take (i := 3) (v := ?_) rfl (by kernel_rfl) (by kernel_rfl) (by kernel_rfl) (by kernel_rfl) (fun _ _ _ h => h) hHeld (Or.inl ⟨by rfl, ?_⟩) ?_
      rotate_left
      · (intro w hSw; (try dsimp only at hSw); go_simp; try with_reducible rfl)
      try simp only [Act.put, List.setIfInBounds_toArray, List.set_cons_zero, List.set_cons_succ]
      refine wpAnyF_take (i := 4) (v := ?_) rfl (by kernel_rfl) (by kernel_rfl) (by kernel_rfl) (by kernel_rfl) (fun _ _ _ h => h) hHeld (Or.inl ⟨by rfl, ?_⟩) ?_
      rotate_left
      · (intro w hSw; (try dsimp only at hSw); go_simp; try with_reducible rfl)
      try simp only [Act.put, List.setIfInBounds_toArray, List.set_cons_zero, List.set_cons_succ]
      refine wpAnyF_take (i := 5) (v := ?_) rfl (by kernel_rfl) (by kernel_rfl) (by kernel_rfl) (by kernel_rfl) (fun _ _ _ h => h) hHeld (Or.inl ⟨by rfl, ?_⟩) ?_
      rotate_left
      · (intro w hSw; (try dsimp only at hSw); go_simp; try with_reducible rfl)
      try simp only [Act.put, List.setIfInBounds_toArray, List.set_cons_zero, List.set_cons_succ]
      refine wpAnyF_take (i := 6) (v := ?_) rfl (by kernel_rfl) (by kernel_rfl) (by kernel_rfl) (by kernel_rfl) (fun _ _ _ h => h) hHeld (Or.inl ⟨by rfl, ?_⟩) ?_
      rotate_left
      · (intro w hSw; (try dsimp only at hSw); go_simp; try with_reducible rfl)
      try simp only [Act.put, List.setIfInBounds_toArray, List.set_cons_zero, List.set_cons_succ]
      refine wpAnyF_take (i := 7) (v := ?_) rfl (by kernel_rfl) (by kernel_rfl) (by kernel_rfl) (by kernel_rfl) (fun _ _ _ h => h) hHeld (Or.inl ⟨by rfl, ?_⟩) ?_
      rotate_left
      · (intro w hSw; (try dsimp only at hSw); go_simp; try with_reducible rfl)
      try simp only [Act.put, List.setIfInBounds_toArray, List.set_cons_zero, List.set_cons_succ]
      refine wpAnyF_take (i := 8) (v := ?_) rfl (by kernel_rfl) (by kernel_rfl) (by kernel_rfl) (by kernel_rfl) (fun _ _ _ h => h) hHeld (Or.inl ⟨by rfl, ?_⟩) ?_
      rotate_left
      · (intro w hSw; (try dsimp only at hSw); go_simp; try with_reducible rfl)
      try simp only [Act.put, List.setIfInBounds_toArray, List.set_cons_zero, List.set_cons_succ]
      refine wpAnyF_take (i := 10) (v := ?_) rfl (by kernel_rfl) (by kernel_rfl) (by kernel_rfl) (by kernel_rfl) (fun _ _ _ h => h) hHeld (Or.inl ⟨by rfl, ?_⟩) ?_
      rotate_left
      · (intro w hSw; (try dsimp only at hSw); go_simp; try with_reducible rfl)
      try simp only [Act.put, List.setIfInBounds_toArray, List.set_cons_zero, List.set_cons_succ]
      refine wpAnyF_take (i := 11) (v := ?_) rfl (by kernel_rfl) (by kernel_rfl) (by kernel_rfl) (by kernel_rfl) (fun _ _ _ h => h) hHeld (Or.inl ⟨by rfl, ?_⟩) ?_
      rotate_left
      · (intro w hSw; (try dsimp only at hSw); go_simp; try with_reducible rfl)
      try simp only [Act.put, List.setIfInBounds_toArray, List.set_cons_zero, List.set_cons_succ]
      refine wpAnyF_one (i := 9) (by kernel_rfl) rfl (fun K hK => ?_)
      go_simp
      go_at_call 36
      refine (hcl1 _ (hbL.trans (qq.mono hbL.size))).mono ?_
      rintro e u3 ⟨A3, c3, rfl, o3, bu3⟩
      have q3 : Below W2.heap.size W2 u3 := qq.trans (bu3.mono qq.size)
      replace hHeld := sS _ q3
      simp only []
      refine hK.out _ _ (Or.inr hHeld) ?_
      clear hK K
      try simp only [Act.put, List.setIfInBounds_toArray, List.set_cons_zero, List.set_cons_succ]
      refine wpAnyF_one (i := 12) (by kernel_rfl) rfl (fun K hK => ?_)
      go_simp
      go_at_call 36
      refine (hcl2 _ (hbL.trans (q3.mono hbL.size))).mono ?_
      rintro e u4 ⟨A4, c4, rfl, o4, bu4⟩
      have q4 : Below W2.heap.size W2 u4 := q3.trans (bu4.mono q3.size)
      replace hHeld := sS _ q4
      simp only []
      refine hK.out _ _ (Or.inr hHeld) ?_
      clear hK K
      try simp only [Act.put, List.setIfInBounds_toArray, List.set_cons_zero, List.set_cons_succ]
      refine wpAnyF_take (i := 13) (v := ?_) rfl (by kernel_rfl) (by kernel_rfl) (by kernel_rfl) (by kernel_rfl) (fun _ _ _ h => h) hHeld (Or.inl ⟨by rfl, ?_⟩) ?_
      rotate_left
      · (intro w hSw; (try dsimp only at hSw); go_simp; try with_reducible rfl)
      try simp only [Act.put, List.setIfInBounds_toArray, List.set_cons_zero, List.set_cons_succ]
      refine wpAnyF_one (i := 14) (by kernel_rfl) rfl (fun K hK => ?_)
      go_simp
      refine hK.out _ _ (Or.inr (sS _ (q4.alloc q4.size _))) ?_
      clear hK K
      try simp only [Act.put, List.setIfInBounds_toArray, List.set_cons_zero, List.set_cons_succ]
      refine wpAnyF_one (i := 15) (by kernel_rfl) rfl (fun K hK => ?_)
      refine step_row1 90 51 _ 4 64 pnode_info Tryd.underlying51 rfl (by omega) (by omega) _ rfl (.tmp 13) (.tmp 26) rfl u4 w.heap.size _ k _ rfl (hO1.on q4).row #[.int .u8 (kd : Int), .int .i64 stp, .slice A3 nc c3, .slice A4 ns c4] rfl _ rfl rfl rfl (by simp [Value.oneCell']) (by omega) (Nat.le_trans hz0 (Nat.le_trans (by omega) q4.size)) (k + 1) rfl ?_
      intro A9 c9 u9 o9 g9 b9 _
      have K5 := (hk11.on q4).grown g9 (own_off (hO1.on q4).row (hk11.on q4) (by decide))
      have X5 := (bX.on q4).grown g9 (own_off (hO1.on q4).row (bX.on q4) (by decide))
      have y9 : u9.cell? ⟨w.heap.size + 1, 0, none⟩ = some (.slice A' k c') := (K5.cell 0).trans rfl
      have f9 := K5.frozen 0
      refine hK.out _ _ (Or.inr ⟨y9, sX _ X5⟩) ?_
      clear hK K
      try simp only [Act.put, List.setIfInBounds_toArray, List.set_cons_zero, List.set_cons_succ]
      refine wpAnyF_one (i := 16) (by kernel_rfl) rfl (fun K hK => ?_)
      go_simp
      refine hK.out _ _ (Or.inl rfl) ?_
      clear hK K
      try simp only [Act.put, List.setIfInBounds_toArray, List.set_cons_zero, List.set_cons_succ]
      refine wpAnyF_one (i := 17) (by kernel_rfl) rfl (fun K hK => ?_)
      go_simp
      refine hK.out _ _ (Or.inl rfl) ?_
      clear hK K
      try simp only [Act.put, List.setIfInBounds_toArray, List.set_cons_zero, List.set_cons_succ]
      refine wpAnyF_done (by kernel_rfl) ?_ _
      all_goals (
        have hk4 := hk01.on q4
        have hk5 := hk11.on q4
        have O4 := hO1.on q4
        have O9 := OwnNs.add (y := ⟨⟨kd, stp, ch, sp⟩, ⟨A3, nc, c3⟩, ⟨A4, ns, c4⟩⟩) O4 (by decide) ⟨hk8, own_less (OwnI.on o3 bu4) (Nat.le_trans hz0 hbL.size), own_less o4 (Nat.le_trans (Nat.le_trans hz0 hbL.size) q3.size), hnc, hns⟩ o9 g9
        have K9 := hk4.grown g9 (own_off O4.row hk4 (by decide))
        have B9 := (hB1.trans (q4.mono hB1.size)).trans b9
        go_wp2_with fail
        go_roundw
        case rel =>
          refine ⟨k + 1, c9, A9, _, by omega, by go_num, Lib.hid ?_, O9.put K5 (by decide) (by decide) _, B9.setCell (p := ⟨w.heap.size + 1, 0, none⟩) (Nat.le_succ _) _, K9.far (p := ⟨w.heap.size + 1, 0, none⟩) (by simp) _, by simpa using K5.put 0 (.slice A9 (k + 1) c9)⟩
          rw [HT.out, List.map_append, HY.out]
          rfl
        case measure => simp [intOf]; omega)
    · obtain rfl : k = n := by omega
      have hlt' : ¬ (k : Int) < (k : Int) := by omega
      have hT : l.take k = l := List.take_of_length_le (by rw [Hn.out]; exact Nat.le_refl _)
      rw [hT] at HY
      have r0 : wr.cell? ⟨w.heap.size + 1, 0, none⟩ = some (.slice A' k c') := (hk1.cell 0).trans rfl
      have r1 : wr.cell? ⟨w.heap.size, 0, none⟩ = some (.slice none 0 0) := (hk0.cell 0).trans rfl
      have f1 := hk0.frozen 0
      clear hT
      go_wp2_with fail
      refine ret_rf rfl w.heap.size (.slice A' k c') rfl (by simpa using hk0.put 0 (.slice A' k c')) rfl ?_
      exact ⟨A', c', rfl, ⟨ys, HY.out, hO.put hk0 (by decide) (by decide) _⟩, hB.setCell (p := ⟨w.heap.size, 0, none⟩) (Nat.le_refl _) _⟩
end Go.Proofs.YtcdgmdhfaniciaaDoor
/- nodes: at most eight nodes in any form. -/
namespace Go.Proofs.YtcdgmdhfaniciaaDoor
open Go.RowKit
set_option linter.unusedVariables false
set_option linter.unusedSimpArgs false

/-- A node in any form. -/
structure Rn where
  kind : Int
  step : Int
  ch : List Int
  st : List Int
def i8v (z : Int) : Value := .int .i8 z
/-- int8 numbers. -/
def I8 (l : List Int) : Prop := ∀ z ∈ l, -128 ≤ z ∧ z ≤ 127
structure RnL (w : World) (B : Nat) (C S : Sl) (x : Rn) : Prop where
  k1 : -128 ≤ x.kind
  k2 : x.kind ≤ 127
  s1 : -128 ≤ x.step
  s2 : x.step ≤ 127
  ch : Sees w B C.a (x.ch.map i8v)
  st : Sees w B S.a (x.st.map i8v)
  lc : x.ch.length = C.n
  ls : x.st.length = S.n
  cc : C.n ≤ C.c
  cs : S.n ≤ S.c
  mc : C.c ≤ maxLen
  ms : S.c ≤ maxLen
  ic : I8 x.ch
  is : I8 x.st
theorem RnL.below {w w' : World} {B : Nat} {C S : Sl} {x : Rn} (h : RnL w B C S x) (hb : Below B w w') : RnL w' B C S x :=
  ⟨h.k1, h.k2, h.s1, h.s2, h.ch.below hb, h.st.below hb, h.lc, h.ls, h.cc, h.cs, h.mc, h.ms, h.ic, h.is⟩
def RawsAt (w : World) (B : Nat) (A : Option Addr) (l : List Rn) : Prop :=
  ∀ (i : Nat) (x : Rn), l[i]? = some x → ∃ b o C S, A = some ⟨b, o, none⟩ ∧ b < B ∧ w.cell? ⟨b, o + i * 4, none⟩ = some (.int .i8 x.kind) ∧ w.cell? ⟨b, o + i * 4 + 1, none⟩ = some (.int .i8 x.step) ∧
    w.cell? ⟨b, o + i * 4 + 2, none⟩ = some (Sl.v C) ∧ w.cell? ⟨b, o + i * 4 + 3, none⟩ = some (Sl.v S) ∧ RnL w B C S x
theorem RawsAt.below {w w' : World} {B : Nat} {A : Option Addr} {l : List Rn} (h : RawsAt w B A l) (hb : Below B w w') : RawsAt w' B A l := fun i x hi => by
  obtain ⟨b, o, C, S, e, h1, h2, h3, h4, h5, h6⟩ := h i x hi
  exact ⟨b, o, C, S, e, h1, (hb.cell (p := ⟨b, o + i * 4, none⟩) h1).trans h2, (hb.cell (p := ⟨b, o + i * 4 + 1, none⟩) h1).trans h3, (hb.cell (p := ⟨b, o + i * 4 + 2, none⟩) h1).trans h4, (hb.cell (p := ⟨b, o + i * 4 + 3, none⟩) h1).trans h5, h6.below hb⟩
theorem RnL.more {w : World} {B B' : Nat} {C S : Sl} {x : Rn} (h : RnL w B C S x) (hb : B ≤ B') : RnL w B' C S x :=
  ⟨h.k1, h.k2, h.s1, h.s2, h.ch.more hb, h.st.more hb, h.lc, h.ls, h.cc, h.cs, h.mc, h.ms, h.ic, h.is⟩
theorem RawsAt.more {w : World} {B B' : Nat} {A : Option Addr} {l : List Rn} (h : RawsAt w B A l) (hb : B ≤ B') : RawsAt w B' A l := fun i x hi => by
  obtain ⟨b, o, C, S, e, h1, h2, h3, h4, h5, h6⟩ := h i x hi
  exact ⟨b, o, C, S, e, by omega, h2, h3, h4, h5, h6.more hb⟩
theorem RawsAt.on {w w' : World} {A : Option Addr} {l : List Rn} (h : RawsAt w w.heap.size A l) (hb : Below w.heap.size w w') : RawsAt w' w'.heap.size A l := (h.below hb).more hb.size
theorem Sees.i8 {w : World} {B : Nat} {A : Option Addr} {l : List Int} {k : Nat} (h : Sees w B A (l.map i8v)) (hk : k < l.length) :
    ∃ b o z, A = some ⟨b, o, none⟩ ∧ b < B ∧ Hid (l[k]? = some z) ∧ w.cell? ⟨b, o + k, none⟩ = some (.int .i8 z) := by
  obtain ⟨b, o, e, hb, hc⟩ := h.at_ (k := k) (by simpa using hk)
  exact ⟨b, o, l[k], e, hb, Lib.hid (List.getElem?_eq_getElem hk), by rw [hc, List.getElem_map]; rfl⟩
def mkNd (x : Rn) : Nd := ⟨(max x.kind 0).toNat, x.step, x.ch.take 5, x.st.take 5⟩
def nodesL (l : List Rn) : List Nd := (l.take 8).map mkNd

/-- append of one number, and where it lies. -/
theorem wpL_appI1k (w : World) {ops : Array Oper} {rest : List Oper} {o : Oper} {a : Act} {Q : Exit → Act → World → Prop} (hgd : o.guard = none) (s x : Operand)
    (ho : o.op = .call { callee := .builtin .append, args := #[s, x], argTypes := #[33, 33] })
    (w0 : World) (base : Nat) (v : Value) (n : Nat) (l : List Int) (hs : a.eval s = v) (hown : OwnI w0 base v n l) (z : Int) (hw : w = w0.alloc (.cells #[.int .i64 z] 3)) (g : Nat) (hg : g = w0.heap.size)
    (hx : a.eval x = .slice (some ⟨g, 0, none⟩) 1 1) (hbytes : n + 1 ≤ 1000000000) (hbase : base ≤ w0.heap.size) (n' : Nat) (hn' : n + 1 = n')
    (h : ∀ A' c' w', OwnI w' base (.slice A' n' c') n' (l ++ [z]) → w0.grownBy w' v.ownBlock → Below base w0 w' → ((Value.slice A' n' c').ownBlock = v.ownBlock ∨ (Value.slice A' n' c').ownBlock = some (w0.heap.size + 1)) →
      wpList Tryd.prog ops Q rest (a.put o.dst (.slice A' n' c')) w') : wpList Tryd.prog ops Q (o :: rest) a w := by
  have hown' : w0.ownsRow base 3 1 v n (l.map iv) := hown
  refine wpL_row1 3 33 _ 1 8 int_info Tryd.underlying33 rfl (by omega) (by omega) w hgd s x ho w0 base v n _ hs hown' #[.int .i64 z] hw g hg hx rfl (by simp [Value.oneCell']) hbytes hbase n' hn' ?_
  intro A' c' w' h1 h2 h3 h4
  exact h A' c' w' (by show World.ownsRow _ _ _ _ _ _ _; rw [List.map_append]; exact h1) h2 h3 h4
theorem own_ap {w : World} {base e s n x : Nat} {v v' v9 : Value} {xs : List Value} (h : w.ownsRow base e s v n xs) (hap : v.ownBlock = none ∨ v.ownBlock ≠ v'.ownBlock) (hk : v9.ownBlock = v'.ownBlock ∨ v9.ownBlock = some x) (hx : w.heap.size ≤ x) : v.ownBlock = none ∨ v.ownBlock ≠ v9.ownBlock := by
  rcases hk with h1 | h1
  · rw [h1]; exact hap
  · rw [h1]
    cases hv : v.ownBlock with
    | none => exact .inl rfl
    | some g =>
      right
      have := (h.lt _ hv).2
      intro e
      injection e with e
      omega
set_option maxHeartbeats 16000000 in
set_option maxRecDepth 100000 in
/-- nodes. -/
theorem raws_any (An : Option Addr) (n cn : Nat) (l : List Rn) (w : World) (h : RawsAt w w.heap.size An l) (hn : l.length = n) (hcap : n ≤ cn) (hmax : cn ≤ maxLen) :
    Calls Tryd.prog 22 #[.slice An n cn] w fun e w' => ∃ A' n' c', e = .returned (.slice A' n' c') ∧ (∃ ys : List NdS, ys.map (·.x) = nodesL l ∧ OwnNs .i64 72 w' w.heap.size (.slice A' n' c') n' ys) ∧ n' ≤ 8 ∧ Below w.heap.size w w' := by
  have Hn := Lib.hid hn
  unfold maxLen at hmax
  have hnb : (n : Int) ≤ 9223372036854775807 := by omega
  have hnc : (n : Int) ≤ (cn : Int) := by omega
  obtain ⟨m, hm⟩ : ∃ m : Nat, Hid (m = min n 8) := ⟨_, Lib.hid rfl⟩
  have hm8 : m ≤ 8 := by have := hm.out; omega
  have hmn : m ≤ n := by have := hm.out; omega
  have hmin : min (n : Int) 8 = (m : Int) := by have := hm.out; omega
  have hm8' : (m : Int) ≤ 8 := by omega
  have hmc : (m : Int) ≤ (cn : Int) := by omega
  have HT : Hid (nodesL l = (l.take m).map mkNd) := Lib.hid (by
    unfold nodesL
    congr 1
    have := hm.out
    by_cases h8 : n ≤ 8
    · rw [List.take_of_length_le (by rw [Hn.out]; exact h8), List.take_of_length_le (by rw [Hn.out]; omega)]
    · rw [show m = 8 by omega])
  clear hn hmax
  go_enter Tryd.func22, Tryd.ntmps22
  go_wp2_with fail
  go_loopw [3, 17] (fun v3 v17 wr => ∃ (k c' : Nat) (A' : Option Addr) (ys : List NdS), k ≤ m ∧ v17 = .int .i64 k ∧ v3 = .slice A' k c' ∧ Hid (ys.map (·.x) = (l.take k).map mkNd) ∧ OwnNs .i64 72 wr w.heap.size (.slice A' k c') k ys ∧ Below w.heap.size w wr) (fun _ v17 _ => m - (intOf v17).toNat)
  case atStart => exact ⟨0, 0, none, [], Nat.zero_le _, rfl, rfl, Lib.hid rfl, OwnNs.nil _ _ _ _, Below.refl _ _⟩
  case round =>
    clear hmin
    obtain ⟨W0, rfl⟩ : ∃ W0, W0 = wr := ⟨_, rfl⟩
    obtain ⟨k, c', A', ys, hk, rfl, rfl, HY, hO, hB⟩ := hrel
    by_cases hlt : k < m
    · have hlt' : (k : Int) < (m : Int) := by omega
      obtain ⟨x, hx⟩ : ∃ x, l[k]? = some x := ⟨_, List.getElem?_eq_getElem (by rw [Hn.out]; omega)⟩
      have HX : Hid (l.take (k + 1) = l.take k ++ [x]) := Lib.hid (by rw [List.take_add_one, hx]; rfl)
      obtain ⟨b, o, ⟨Ac, nc, cc⟩, ⟨As, ns, cs⟩, rfl, hb2, hc0, hc1, hc2, hc3, hN⟩ := (h.below hB) k x hx
      obtain ⟨k1, k2, s1, s2, hch, hst, hlc, hls, hcc, hcs, hmc1, hms1, hic, his⟩ := hN
      obtain ⟨kd, stp, ch, sp⟩ := x
      unfold Sl.v at hc2 hc3
      simp only [] at k1 k2 s1 s2 hc0 hc1 hc2 hc3 hch hst hlc hls hcc hcs hmc1 hms1 hic his
      unfold maxLen at hmc1 hms1
      obtain ⟨K, hK⟩ : ∃ K : Nat, Hid (K = (max kd 0).toNat) := ⟨_, Lib.hid rfl⟩
      have hmaxk : max kd 0 = (K : Int) := by have := hK.out; omega
      have hK8 : K < 256 := by have := hK.out; omega
      obtain ⟨mc, hmc'⟩ : ∃ m : Nat, Hid (m = min nc 5) := ⟨_, Lib.hid rfl⟩
      obtain ⟨ms, hms'⟩ : ∃ m : Nat, Hid (m = min ns 5) := ⟨_, Lib.hid rfl⟩
      have hminc : min (nc : Int) 5 = (mc : Int) := by have := hmc'.out; omega
      have hmins : min (ns : Int) 5 = (ms : Int) := by have := hms'.out; omega
      have e1 : (nc : Int) ≤ 9223372036854775807 := by omega
      have e2 : (ns : Int) ≤ 9223372036854775807 := by omega
      have e3 : (mc : Int) ≤ (cc : Int) := by have := hmc'.out; omega
      have e4 : (ms : Int) ≤ (cs : Int) := by have := hms'.out; omega
      have e5 : mc ≤ 5 := by have := hmc'.out; omega
      have e6 : ms ≤ 5 := by have := hms'.out; omega
      have e7 : mc ≤ nc := by have := hmc'.out; omega
      have e8 : ms ≤ ns := by have := hms'.out; omega
      have HC : Hid (ch.take 5 = ch.take mc) := Lib.hid (by
        have := hmc'.out
        by_cases h8 : nc ≤ 5
        · rw [List.take_of_length_le (by rw [hlc]; exact h8), List.take_of_length_le (by rw [hlc]; omega)]
        · rw [show mc = 5 by omega])
      have HS : Hid (sp.take 5 = sp.take ms) := Lib.hid (by
        have := hms'.out
        by_cases h8 : ns ≤ 5
        · rw [List.take_of_length_le (by rw [hls]; exact h8), List.take_of_length_le (by rw [hls]; omega)]
        · rw [show ms = 5 by omega])
      have HNd : Hid (mkNd ⟨kd, stp, ch, sp⟩ = ⟨K, stp, ch.take mc, sp.take ms⟩) := Lib.hid (by unfold mkNd; simp only []; rw [← HC.out, ← HS.out, ← hK.out])
      have Hlc := Lib.hid hlc
      have Hls := Lib.hid hls
      have hz0 : w.heap.size ≤ W0.heap.size := hB.size
      have hbL : Below W0.heap.size W0 ((W0.alloc (.cells #[.int .i8 kd, .int .i8 stp, .slice Ac nc cc, .slice As ns cs] 120)).alloc (.cells #[.int .i64 (K : Int), .int .i64 stp, .slice none 0 0, .slice none 0 0] 72)) := bAl (bAl (Below.refl _ _) _) _
      have bX := (Blk.new W0 120 #[.int .i8 kd, .int .i8 stp, .slice Ac nc cc, .slice As ns cs]).alloc (.cells #[.int .i64 (K : Int), .int .i64 stp, .slice none 0 0, .slice none 0 0] 72)
      have bY := Blk.new (W0.alloc (.cells #[.int .i8 kd, .int .i8 stp, .slice Ac nc cc, .slice As ns cs] 120)) 72 #[.int .i64 (K : Int), .int .i64 stp, .slice none 0 0, .slice none 0 0]
      rw [World.size_alloc] at bY
      clear hx hlc hls
      go_wp2_with fail
      generalize ((W0.alloc (.cells #[.int .i8 kd, .int .i8 stp, .slice Ac nc cc, .slice As ns cs] 120)).alloc (.cells #[.int .i64 (K : Int), .int .i64 stp, .slice none 0 0, .slice none 0 0] 72)) = W2 at hbL bX bY ⊢
      go_loopw [37] (fun v37 wq => ∃ (j cj : Nat) (Aj : Option Addr), j ≤ mc ∧ v37 = .int .i64 j ∧ OwnI wq W0.heap.size (.slice Aj j cj) j (ch.take j) ∧ Below W0.heap.size W0 wq ∧ Blk wq W0.heap.size 120 #[.int .i8 kd, .int .i8 stp, .slice Ac nc cc, .slice As ns cs] ∧ Blk wq (W0.heap.size + 1) 72 #[.int .i64 (K : Int), .int .i64 stp, .slice Aj j cj, .slice none 0 0]) (fun v37 _ => mc - (intOf v37).toNat)
      case atStart => exact ⟨0, 0, none, Nat.zero_le _, rfl, OwnI.nil _ _, hbL, bX, bY⟩
      case round =>
        clear hbL bX bY
        obtain ⟨j, cj, Aj, hj, rfl, hI, hQ, bX, bY⟩ := hrel
        by_cases hltj : j < mc
        · have hltj' : (j : Int) < (mc : Int) := by omega
          obtain ⟨b9, o9, z, rfl, hb9, Hz, hcz⟩ := Sees.i8 (k := j) ((hch.below (hQ.mono hz0))) (by rw [Hlc.out]; omega)
          obtain ⟨hz1, hz2⟩ := hic z (List.mem_of_getElem? Hz.out)
          have HT2 : Hid (ch.take (j + 1) = ch.take j ++ [z]) := Lib.hid (by rw [List.take_add_one, Hz.out]; rfl)
          have y2 : wr.cell? ⟨W0.heap.size + 1, 2, none⟩ = some (.slice Aj j cj) := (bY.cell 2).trans rfl
          have f2 := bY.frozen 2
          have hj5 : j ≤ 5 := by omega
          go_wp2_with (at_builtin; refine wpL_appI1 _ rfl (.tmp 42) (.tmp 45) rfl wr W0.heap.size _ j _ rfl hI z rfl _ rfl rfl (by omega) hQ.size (j + 1) rfl ?_; intro A9 c9 w9 o9 g9 b9; have bY9 := bY.grown g9 (own_off hI bY (by decide)); have bX9 := bX.grown g9 (own_off hI bX (by decide)); have y9 : w9.cell? ⟨W0.heap.size + 1, 2, none⟩ = some (.slice Aj j cj) := (bY9.cell 2).trans rfl; have f9 := bY9.frozen 2)
          go_roundw
          case rel =>
            refine ⟨j + 1, c9, A9, by omega, by go_num, ?_, (hQ.trans b9).setCell (p := ⟨W0.heap.size + 1, 2, none⟩) (Nat.le_succ _) _, bX9.far (p := ⟨W0.heap.size + 1, 2, none⟩) (by simp) _, by simpa using bY9.put 2 (.slice A9 (j + 1) c9)⟩
            rw [HT2.out]
            exact ownsRow_setCell_other o9 (a := ⟨W0.heap.size + 1, 2, none⟩) (own_off o9 bY9 (by decide)) _
          case measure => simp [intOf]; omega
        · have hltj' : ¬ (j : Int) < (mc : Int) := by omega
          obtain rfl : j = mc := by omega
          have x3 : wr.cell? ⟨W0.heap.size, 3, none⟩ = some (.slice As ns cs) := (bX.cell 3).trans rfl
          go_wp2_with fail
          go_loopw [57] (fun v57 wq => ∃ (i ci : Nat) (Ai : Option Addr), i ≤ ms ∧ v57 = .int .i64 i ∧ OwnI wq W0.heap.size (.slice Ai i ci) i (sp.take i) ∧ OwnI wq W0.heap.size (.slice Aj j cj) j (ch.take j) ∧ ((Value.slice Aj j cj).ownBlock = none ∨ (Value.slice Aj j cj).ownBlock ≠ (Value.slice Ai i ci).ownBlock) ∧ Below W0.heap.size W0 wq ∧ Blk wq W0.heap.size 120 #[.int .i8 kd, .int .i8 stp, .slice Ac nc cc, .slice As ns cs] ∧ Blk wq (W0.heap.size + 1) 72 #[.int .i64 (K : Int), .int .i64 stp, .slice Aj j cj, .slice Ai i ci]) (fun v57 _ => ms - (intOf v57).toNat)
          case atStart => exact ⟨0, 0, none, Nat.zero_le _, rfl, OwnI.nil _ _, hI, by cases Aj <;> simp [Value.ownBlock], hQ, bX, bY⟩
          case round =>
            clear hI hQ bX bY x3
            obtain ⟨i, ci, Ai, hi, rfl, hI2, hI, hap, hQ, bX, bY⟩ := hrel
            by_cases hlti : i < ms
            · have hlti' : (i : Int) < (ms : Int) := by omega
              obtain ⟨b9, o9, z, rfl, hb9, Hz, hcz⟩ := Sees.i8 (k := i) ((hst.below (hQ.mono hz0))) (by rw [Hls.out]; omega)
              obtain ⟨hz1, hz2⟩ := his z (List.mem_of_getElem? Hz.out)
              have HT2 : Hid (sp.take (i + 1) = sp.take i ++ [z]) := Lib.hid (by rw [List.take_add_one, Hz.out]; rfl)
              have y2 : wr.cell? ⟨W0.heap.size + 1, 3, none⟩ = some (.slice Ai i ci) := (bY.cell 3).trans rfl
              have f2 := bY.frozen 3
              have hj5 : i ≤ 5 := by omega
              go_wp2_with (at_builtin; refine wpL_appI1k _ rfl (.tmp 62) (.tmp 65) rfl wr W0.heap.size _ i _ rfl hI2 z rfl _ rfl rfl (by omega) hQ.size (i + 1) rfl ?_; intro A9 c9 w9 o9 g9 b9 k9; have bY9 := bY.grown g9 (own_off hI2 bY (by decide)); have bX9 := bX.grown g9 (own_off hI2 bX (by decide)); have y9 : w9.cell? ⟨W0.heap.size + 1, 3, none⟩ = some (.slice Ai i ci) := (bY9.cell 3).trans rfl; have f9 := bY9.frozen 3)
              go_roundw
              case rel =>
                refine ⟨i + 1, c9, A9, by omega, by go_num, ?_, ?_, own_ap hI hap k9 (Nat.le_succ _), (hQ.trans b9).setCell (p := ⟨W0.heap.size + 1, 3, none⟩) (Nat.le_succ _) _, bX9.far (p := ⟨W0.heap.size + 1, 3, none⟩) (by simp) _, by simpa using bY9.put 3 (.slice A9 (i + 1) c9)⟩
                · rw [HT2.out]
                  exact ownsRow_setCell_other o9 (a := ⟨W0.heap.size + 1, 3, none⟩) (own_off o9 bY9 (by decide)) _
                · have h9 := hI.kept g9 hap
                  exact ownsRow_setCell_other h9 (a := ⟨W0.heap.size + 1, 3, none⟩) (own_off h9 bY9 (by decide)) _
              case measure => simp [intOf]; omega
            · have hlti' : ¬ (i : Int) < (ms : Int) := by omega
              obtain rfl : i = ms := by omega
              have q0 : wr.cell? ⟨W0.heap.size + 1, 0, none⟩ = some (.int .i64 (K : Int)) := (bY.cell 0).trans rfl
              have q1 : wr.cell? ⟨W0.heap.size + 1, 1, none⟩ = some (.int .i64 stp) := (bY.cell 1).trans rfl
              have q2 : wr.cell? ⟨W0.heap.size + 1, 2, none⟩ = some (.slice Aj j cj) := (bY.cell 2).trans rfl
              have q3 : wr.cell? ⟨W0.heap.size + 1, 3, none⟩ = some (.slice Ai i ci) := (bY.cell 3).trans rfl
              have O2 := hO.on hQ
              have hkm : k ≤ 8 := by omega
              have B2 := hB.trans (hQ.mono hz0)
              go_wp2_with (at_builtin; refine wpL_row1 72 55 _ 4 64 rnode_info Tryd.underlying55 rfl (by omega) (by omega) _ rfl (.tmp 69) (.tmp 71) rfl wr w.heap.size _ k _ rfl O2.row #[.int .i64 (K : Int), .int .i64 stp, .slice Aj j cj, .slice Ai i ci] rfl _ rfl rfl rfl (by simp [Value.oneCell']) (by omega) B2.size (k + 1) rfl ?_; intro A9 c9 w9 o9 g9 b9 _)
              have O9 := OwnNs.add (y := ⟨⟨K, stp, ch.take j, sp.take i⟩, ⟨Aj, j, cj⟩, ⟨Ai, i, ci⟩⟩) O2 (by decide) ⟨hK8, own_less hI hz0, own_less hI2 hz0, by show j ≤ 1000000; omega, by show i ≤ 1000000; omega⟩ o9 g9
              go_roundw
              case rel =>
                refine ⟨k + 1, c9, A9, _, by omega, by go_num, rfl, Lib.hid ?_, O9, B2.trans b9⟩
                rw [HX.out, List.map_append, List.map_append, HY.out]
                congr 1
                simp only [List.map_cons, List.map_nil, HNd.out]
              case measure => simp [intOf]; omega
    · obtain rfl : k = m := by omega
      have hlt' : ¬ (k : Int) < (k : Int) := by omega
      rw [← HT.out] at HY
      go_wp2_with fail
      go_ret
      exact ⟨A', k, c', rfl, ⟨ys, HY.out, hO⟩, hm8, hB⟩
end Go.Proofs.YtcdgmdhfaniciaaDoor
/- Arguments opened: nodes in any form; int8 numbers; changes. -/
namespace Go.Proofs.YtcdgmdhfaniciaaDoor
open Go.ChangeShapes Go.WideShapes Go.ChangeAt Go.RowKit Go.Deep Go.Joins
set_option linter.unusedVariables false
set_option linter.unusedSimpArgs false

theorem wf_i8 {z : Int} (h : (Lit.int .i8 z).wf = true) : -128 ≤ z ∧ z ≤ 127 := by
  simp [Lit.wf, IntKind.min, IntKind.max, IntKind.signed, IntKind.bits] at h
  omega
/-- What a walk is told of int8 numbers. -/
structure ArgI8 (w : World) (A : Option Addr) (n c : Nat) (l : List Int) : Prop where
  sees : Sees w w.heap.size A (l.map i8v)
  len : l.length = n
  cap : n ≤ c
  max : c ≤ maxLen
  rng : I8 l
structure ArgRaws (w : World) (A : Option Addr) (n c : Nat) (l : List Rn) : Prop where
  mem : RawsAt w w.heap.size A l
  len : l.length = n
  cap : n ≤ c
  max : c ≤ maxLen
/-- A change of a node. -/
structure Chg where
  at_ : Nat
  kind : Nat
  place : Nat
  n : Int
structure ChgIn (x : Chg) : Prop where
  a : x.at_ < 256
  k : x.kind < 256
  p : x.place < 256
  n1 : -128 ≤ x.n
  n2 : x.n ≤ 127
def ChgsAt (w : World) (B : Nat) (A : Option Addr) (l : List Chg) : Prop :=
  ∀ (i : Nat) (x : Chg), l[i]? = some x → ChgIn x ∧ ∃ b o, A = some ⟨b, o, none⟩ ∧ b < B ∧ w.cell? ⟨b, o + i * 4, none⟩ = some (.int .u8 (x.at_ : Int)) ∧ w.cell? ⟨b, o + i * 4 + 1, none⟩ = some (.int .u8 (x.kind : Int)) ∧
    w.cell? ⟨b, o + i * 4 + 2, none⟩ = some (.int .u8 (x.place : Int)) ∧ w.cell? ⟨b, o + i * 4 + 3, none⟩ = some (.int .i8 x.n)
theorem ChgsAt.below {w w' : World} {B : Nat} {A : Option Addr} {l : List Chg} (h : ChgsAt w B A l) (hb : Below B w w') : ChgsAt w' B A l := fun i x hi => by
  obtain ⟨hx, b, o, e, h1, h2, h3, h4, h5⟩ := h i x hi
  exact ⟨hx, b, o, e, h1, (hb.cell (p := ⟨b, o + i * 4, none⟩) h1).trans h2, (hb.cell (p := ⟨b, o + i * 4 + 1, none⟩) h1).trans h3, (hb.cell (p := ⟨b, o + i * 4 + 2, none⟩) h1).trans h4, (hb.cell (p := ⟨b, o + i * 4 + 3, none⟩) h1).trans h5⟩
theorem ChgsAt.more {w : World} {B B' : Nat} {A : Option Addr} {l : List Chg} (h : ChgsAt w B A l) (hb : B ≤ B') : ChgsAt w B' A l := fun i x hi => by
  obtain ⟨hx, b, o, e, h1, h2⟩ := h i x hi
  exact ⟨hx, b, o, e, by omega, h2⟩
theorem ChgsAt.on {w w' : World} {A : Option Addr} {l : List Chg} (h : ChgsAt w w.heap.size A l) (hb : Below w.heap.size w w') : ChgsAt w' w'.heap.size A l := (h.below hb).more hb.size
structure ArgChgs (w : World) (A : Option Addr) (n c : Nat) (l : List Chg) : Prop where
  mem : ChgsAt w w.heap.size A l
  len : l.length = n
  cap : n ≤ c
  max : c ≤ maxLen

theorem argI_of {w : World} {x : Addr} {len cap : Nat} {zs : List Int} (hl : len ≤ cap) (hm : cap ≤ maxLen) (hz : zs.length = cap) (hcell : ∀ i, i < zs.length → w.cell? (x.add i) = some (.int .i8 (zs.getD i 0)))
    (hwz : ∀ n ∈ zs, (Lit.int .i8 n).wf = true) : ∃ l, ArgI8 w (some x) len cap l := by
  refine ⟨zs.take len, ?_, by simp; omega, hl, hm, fun z hz' => wf_i8 (hwz z (List.mem_of_mem_take hz'))⟩
  intro hne
  have h0 : 0 < zs.length := by
    rcases Nat.eq_zero_or_pos zs.length with h | h
    · rw [List.length_eq_zero_iff.1 h] at hne; simp at hne
    · exact h
  have hc := hcell 0 h0
  have hspot : x.spot = none := by simpa [Addr.add] using World.cell?_spot hc
  obtain ⟨b, o, s⟩ := x
  simp at hspot
  subst hspot
  refine ⟨b, o, rfl, World.block_lt_of_cell? w _ hc, fun j u hu => ?_⟩
  have hj : j < zs.length := by
    have := (List.getElem?_eq_some_iff.1 hu).1
    simp at this; omega
  have := hcell j hj
  rw [Addr.add_lit] at this
  rw [this]
  rw [List.getElem?_map, List.getElem?_take] at hu
  split at hu
  · simp [List.getElem?_eq_getElem hj] at hu
    rw [← hu]; simp [List.getD, List.getElem?_eq_getElem hj, i8v]
  · simp at hu
theorem i8s_of_trod1 {H : Type} {enc : TypeId × Value → H} {W : World} {base : Nat} {spare : Nat → Bool} (hsp : ∀ b, spare b = true) {held : Bool} {v : Value} {m : Nat} {y : DataW H × List MemPlace}
    (hf : DataW.trod enc Tryd.prog W base spare held m 69 [v] = some y) : ∃ A n c l, v = .slice A n c ∧ ArgI8 W A n c l := by
  rcases open_ints Tryd.underlying69 Tryd.underlying70 (by kernel_rfl) hf with ⟨hcs, _⟩ | ⟨x, l, c, zs, hcs, _, hl, hm, hz, _, hcell, hwz⟩
  · simp at hcs
    subst hcs
    exact ⟨none, 0, 0, [], rfl, ⟨Sees.nil _ _ _, rfl, Nat.le_refl _, Nat.zero_le _, fun z hz => by cases hz⟩⟩
  · simp at hcs
    subst hcs
    rw [hsp, if_pos rfl] at hz
    obtain ⟨l', hl'⟩ := argI_of hl hm hz hcell hwz
    exact ⟨_, _, _, l', rfl, hl'⟩
set_option maxRecDepth 100000 in
theorem open_i8s {H : Type} {enc : TypeId × Value → H} {W : World} {r : Reach} {base base' : Nat} {spare : Nat → Bool} (hsp : ∀ b, spare b = true) {held : Bool} {v : Value} {d : DataW H} {p : List MemPlace} (hv : Value.okWide Tryd.prog W r base 69 v)
    (h : DataW.Trod enc Tryd.prog W base' spare held 69 v d p) : ∃ A n c l, v = .slice A n c ∧ ArgI8 W A n c l := by
  obtain ⟨A, len, cap, rfl⟩ := okWide_slice Tryd.underlying69 hv
  obtain ⟨fuel, hf⟩ := h
  exact i8s_of_trod1 hsp hf
theorem cells4 {W : World} {base : Nat} {a : Addr} {i : Nat} {v0 v1 v2 v3 : Value} (h : W.cells? base (a.add (i * 4)) 4 = some [v0, v1, v2, v3]) (hs : a.spot = none) :
    ∃ b o, a = ⟨b, o, none⟩ ∧ b < W.heap.size ∧ W.cell? ⟨b, o + i * 4, none⟩ = some v0 ∧ W.cell? ⟨b, o + i * 4 + 1, none⟩ = some v1 ∧ W.cell? ⟨b, o + i * 4 + 2, none⟩ = some v2 ∧ W.cell? ⟨b, o + i * 4 + 3, none⟩ = some v3 := by
  obtain ⟨_, hlen, hcell⟩ := World.cells?_some h
  have e0 := hcell 0 (by omega)
  have e1 := hcell 1 (by omega)
  have e2 := hcell 2 (by omega)
  have e3 := hcell 3 (by omega)
  rw [add_add] at e0 e1 e2 e3
  simp at e0 e1 e2 e3
  obtain ⟨b, o, sp⟩ := a
  simp at hs
  subst hs
  rw [Addr.add_lit] at e0 e1 e2 e3
  exact ⟨b, o, rfl, World.block_lt_of_cell? W _ e0, e0, by rw [Nat.add_assoc]; exact e1, by rw [Nat.add_assoc]; exact e2, by rw [Nat.add_assoc]; exact e3⟩
theorem spot4 {W : World} {base : Nat} {a : Addr} {cs : List Value} (h : W.cells? base a 4 = some cs) : a.spot = none := by
  obtain ⟨_, hlen, hcell⟩ := World.cells?_some h
  have e0 := hcell 0 (by omega)
  obtain ⟨z0, hz0⟩ : ∃ z0, cs[0]? = some z0 := ⟨_, List.getElem?_eq_getElem (by omega)⟩
  rw [hz0] at e0
  simpa [Addr.add] using World.cell?_spot e0
set_option maxRecDepth 100000 in
theorem raws_of_trod1 {H : Type} {enc : TypeId × Value → H} {W : World} {base : Nat} {spare : Nat → Bool} (hsp : ∀ b, spare b = true) {held : Bool} {v : Value} {m0 : Nat} {y : DataW H × List MemPlace}
    (hf : DataW.trod enc Tryd.prog W base spare held m0 60 [v] = some y) : ∃ A n c l, v = .slice A n c ∧ ArgRaws W A n c l := by
  rcases open_slice Tryd.underlying60 hf with ⟨hcs, _⟩ | ⟨a, len', cap', m, n, D, Pl, hcs, _, hl, hm, hmm, _, hel⟩
  · simp at hcs
    subst hcs
    exact ⟨none, 0, 0, [], rfl, fun i x hi => by simp at hi, rfl, Nat.le_refl _, Nat.zero_le _⟩
  · simp at hcs
    subst hcs
    rw [hsp, if_pos rfl] at hmm
    subst hmm
    have c4 : Tryd.prog.cellsOf 120 = 4 := by kernel_rfl
    have q0 : Tryd.prog.cellsOf 70 = 1 := by kernel_rfl
    have q1 : Tryd.prog.cellsOf 69 = 1 := by kernel_rfl
    have hrow : ∀ i : Nat, ∃ x : Rn, i < m → ∃ b o C S, a = ⟨b, o, none⟩ ∧ b < W.heap.size ∧ W.cell? ⟨b, o + i * 4, none⟩ = some (.int .i8 x.kind) ∧ W.cell? ⟨b, o + i * 4 + 1, none⟩ = some (.int .i8 x.step) ∧ W.cell? ⟨b, o + i * 4 + 2, none⟩ = some (Sl.v C) ∧ W.cell? ⟨b, o + i * 4 + 3, none⟩ = some (Sl.v S) ∧ RnL W W.heap.size C S x := by
      intro i
      by_cases hi : i < m
      · obtain ⟨cs', h1, h2⟩ := hel i hi
        have hs : a.spot = none := by
          obtain ⟨cs0, h10, _⟩ := hel 0 (by omega)
          rw [c4] at h10
          have := spot4 h10
          simpa [Addr.add] using this
        rw [c4] at h1
        obtain ⟨_, hlen, _⟩ := World.cells?_some h1
        match cs', hlen with
        | [v0, v1, v2, v3], _ =>
          obtain ⟨b, o, ea, hb, e0, e1, e2, e3⟩ := cells4 h1 hs
          obtain ⟨xs, n', _, _, _, hlen2, hf2⟩ := DataW.trod_struct Tryd.underlying120 h2
          match xs, hlen2 with
          | [y0, y1, y2, y3], _ =>
            have f0 := hf2 0 _ rfl
            have f1 := hf2 1 _ rfl
            have f2 := hf2 2 _ rfl
            have f3 := hf2 3 _ rfl
            simp [q0] at f0 f1
            simp [q0, q1] at f2 f3
            obtain ⟨k, g0, _, w0⟩ := DataW.trod_int Tryd.underlying70 f0
            obtain ⟨u, g1, _, w1⟩ := DataW.trod_int Tryd.underlying70 f1
            simp at g0 g1
            subst g0 g1
            obtain ⟨A2, n2, c2, l2, rfl, m2⟩ := i8s_of_trod1 hsp f2
            obtain ⟨A3, n3, c3, l3, rfl, m3⟩ := i8s_of_trod1 hsp f3
            obtain ⟨k1, k2⟩ := wf_i8 w0
            obtain ⟨s1, s2⟩ := wf_i8 w1
            exact ⟨⟨k, u, l2, l3⟩, fun _ => ⟨b, o, ⟨A2, n2, c2⟩, ⟨A3, n3, c3⟩, ea, hb, e0, e1, e2, e3, k1, k2, s1, s2, m2.sees, m3.sees, m2.len, m3.len, m2.cap, m3.cap, m2.max, m3.max, m2.rng, m3.rng⟩⟩
      · exact ⟨⟨0, 0, [], []⟩, fun h => absurd h hi⟩
    refine ⟨some a, len', m, (List.range len').map (fun i => Classical.choose (hrow i)), rfl, fun i x hi => ?_, by simp, hl, hm⟩
    have hil : i < len' := by
      have := (List.getElem?_eq_some_iff.1 hi).1
      simpa using this
    rw [List.getElem?_map, List.getElem?_range hil] at hi
    injection hi with hi
    subst hi
    obtain ⟨b, o, C, S, ea, rest⟩ := Classical.choose_spec (hrow i) (by omega)
    exact ⟨b, o, C, S, by rw [ea], rest⟩
set_option maxRecDepth 100000 in
theorem open_raws {H : Type} {enc : TypeId × Value → H} {W : World} {r : Reach} {base base' : Nat} {spare : Nat → Bool} (hsp : ∀ b, spare b = true) {held : Bool} {v : Value} {d : DataW H} {p : List MemPlace} (hv : Value.okWide Tryd.prog W r base 60 v)
    (h : DataW.Trod enc Tryd.prog W base' spare held 60 v d p) : ∃ A n c l, v = .slice A n c ∧ ArgRaws W A n c l := by
  obtain ⟨A, len, cap, rfl⟩ := okWide_slice Tryd.underlying60 hv
  obtain ⟨fuel, hf⟩ := h
  exact raws_of_trod1 hsp hf
set_option maxRecDepth 100000 in
theorem chgs_of_trod1 {H : Type} {enc : TypeId × Value → H} {W : World} {base : Nat} {spare : Nat → Bool} (hsp : ∀ b, spare b = true) {held : Bool} {v : Value} {m0 : Nat} {y : DataW H × List MemPlace}
    (hf : DataW.trod enc Tryd.prog W base spare held m0 63 [v] = some y) : ∃ A n c l, v = .slice A n c ∧ ArgChgs W A n c l := by
  rcases open_slice Tryd.underlying63 hf with ⟨hcs, _⟩ | ⟨a, len', cap', m, n, D, Pl, hcs, _, hl, hm, hmm, _, hel⟩
  · simp at hcs
    subst hcs
    exact ⟨none, 0, 0, [], rfl, fun i x hi => by simp at hi, rfl, Nat.le_refl _, Nat.zero_le _⟩
  · simp at hcs
    subst hcs
    rw [hsp, if_pos rfl] at hmm
    subst hmm
    have c4 : Tryd.prog.cellsOf 122 = 4 := by kernel_rfl
    have q0 : Tryd.prog.cellsOf 5 = 1 := by kernel_rfl
    have q1 : Tryd.prog.cellsOf 70 = 1 := by kernel_rfl
    have hrow : ∀ i : Nat, ∃ x : Chg, i < m → ChgIn x ∧ ∃ b o, a = ⟨b, o, none⟩ ∧ b < W.heap.size ∧ W.cell? ⟨b, o + i * 4, none⟩ = some (.int .u8 (x.at_ : Int)) ∧ W.cell? ⟨b, o + i * 4 + 1, none⟩ = some (.int .u8 (x.kind : Int)) ∧
        W.cell? ⟨b, o + i * 4 + 2, none⟩ = some (.int .u8 (x.place : Int)) ∧ W.cell? ⟨b, o + i * 4 + 3, none⟩ = some (.int .i8 x.n) := by
      intro i
      by_cases hi : i < m
      · obtain ⟨cs', h1, h2⟩ := hel i hi
        have hs : a.spot = none := by
          obtain ⟨cs0, h10, _⟩ := hel 0 (by omega)
          rw [c4] at h10
          have := spot4 h10
          simpa [Addr.add] using this
        rw [c4] at h1
        obtain ⟨_, hlen, _⟩ := World.cells?_some h1
        match cs', hlen with
        | [v0, v1, v2, v3], _ =>
          obtain ⟨b, o, ea, hb, e0, e1, e2, e3⟩ := cells4 h1 hs
          obtain ⟨xs, n', _, _, _, hlen2, hf2⟩ := DataW.trod_struct Tryd.underlying122 h2
          match xs, hlen2 with
          | [y0, y1, y2, y3], _ =>
            have f0 := hf2 0 _ rfl
            have f1 := hf2 1 _ rfl
            have f2 := hf2 2 _ rfl
            have f3 := hf2 3 _ rfl
            simp [q0] at f0 f1 f2
            simp [q0, q1] at f3
            obtain ⟨z0, g0, _, w0⟩ := DataW.trod_int Tryd.underlying5 f0
            obtain ⟨z1, g1, _, w1⟩ := DataW.trod_int Tryd.underlying5 f1
            obtain ⟨z2, g2, _, w2⟩ := DataW.trod_int Tryd.underlying5 f2
            obtain ⟨z3, g3, _, w3⟩ := DataW.trod_int Tryd.underlying70 f3
            simp at g0 g1 g2 g3
            subst g0 g1 g2 g3
            obtain ⟨a1, a2⟩ := wf_u8 w0
            obtain ⟨b1, b2⟩ := wf_u8 w1
            obtain ⟨d1, d2⟩ := wf_u8 w2
            obtain ⟨s1, s2⟩ := wf_i8 w3
            obtain ⟨t0, rfl⟩ : ∃ k' : Nat, z0 = (k' : Int) := ⟨z0.toNat, by omega⟩
            obtain ⟨t1, rfl⟩ : ∃ k' : Nat, z1 = (k' : Int) := ⟨z1.toNat, by omega⟩
            obtain ⟨t2, rfl⟩ : ∃ k' : Nat, z2 = (k' : Int) := ⟨z2.toNat, by omega⟩
            exact ⟨⟨t0, t1, t2, z3⟩, fun _ => ⟨⟨by show t0 < 256; omega, by show t1 < 256; omega, by show t2 < 256; omega, s1, s2⟩, b, o, ea, hb, e0, e1, e2, e3⟩⟩
      · exact ⟨⟨0, 0, 0, 0⟩, fun h => absurd h hi⟩
    refine ⟨some a, len', m, (List.range len').map (fun i => Classical.choose (hrow i)), rfl, fun i x hi => ?_, by simp, hl, hm⟩
    have hil : i < len' := by
      have := (List.getElem?_eq_some_iff.1 hi).1
      simpa using this
    rw [List.getElem?_map, List.getElem?_range hil] at hi
    injection hi with hi
    subst hi
    obtain ⟨hx, b, o, ea, rest⟩ := Classical.choose_spec (hrow i) (by omega)
    exact ⟨hx, b, o, by rw [ea], rest⟩
set_option maxRecDepth 100000 in
theorem open_chgs {H : Type} {enc : TypeId × Value → H} {W : World} {r : Reach} {base base' : Nat} {spare : Nat → Bool} (hsp : ∀ b, spare b = true) {held : Bool} {v : Value} {d : DataW H} {p : List MemPlace} (hv : Value.okWide Tryd.prog W r base 63 v)
    (h : DataW.Trod enc Tryd.prog W base' spare held 63 v d p) : ∃ A n c l, v = .slice A n c ∧ ArgChgs W A n c l := by
  obtain ⟨A, len, cap, rfl⟩ := okWide_slice Tryd.underlying63 hv
  obtain ⟨fuel, hf⟩ := h
  exact chgs_of_trod1 hsp hf
end Go.Proofs.YtcdgmdhfaniciaaDoor
