/- A pack of texts: Args, ArgsRaw, NdO, RegF, Nds, Raws, ArgsRs. -/
import Derived.Test.YtcnofhlgiffkjaaGreatDoorPa
import Derived.ProofKit
import Derived.OpenShut
import Derived.ShutString
import Derived.ChangeOld
import Derived.Test.YtcnofhlgiffkjaaGreatDoorPt
import Derived.Test.YtcnofhlgiffkjaaGreatDoorPc
import Derived.Deep.Slices
import Derived.Lib.SmallJoins
import Derived.Test.YtcnofhlgiffkjaaGreatDoorPg
import Derived.Test.YtcnofhlgiffkjaaGreatDoorPj
import Derived.Deep.RegionHeld3
import Derived.Test.YtcnofhlgiffkjaaGreatDoorRows
import Derived.Test.YtcnofhlgiffkjaaGreatDoorPi
/- The arguments of a law, opened: a byte slice. -/
namespace Go.Proofs.YtcnofhlgiffkjaaGreatDoor
open Go.ChangeShapes Go.WideShapes Go.ChangeAt Go.RowKit
set_option linter.unusedVariables false
set_option linter.unusedSimpArgs false

theorem own : ownKnob Tryz.prog.godebug = none := by kernel_rfl
theorem laidOut : laidOutB Tryz.prog = true := by kernel_rfl

/-- What a walk is told of a byte slice that came in. -/
structure ArgB (w : World) (A : Option Addr) (n c : Nat) (l : List UInt8) : Prop where
  sees : Sees w w.heap.size A (l.map bv)
  len : l.length = n
  cap : n ≤ c
  max : c ≤ maxLen

theorem wf_u8 {z : Int} (h : (Lit.int .u8 z).wf = true) : 0 ≤ z ∧ z ≤ 255 := by
  simp [Lit.wf, IntKind.min, IntKind.max, IntKind.signed, IntKind.bits] at h
  omega

theorem wf_u16 {z : Int} (h : (Lit.int .u16 z).wf = true) : 0 ≤ z ∧ z ≤ 65535 := by
  simp [Lit.wf, IntKind.min, IntKind.max, IntKind.signed, IntKind.bits] at h
  omega
theorem wf_u32 {z : Int} (h : (Lit.int .u32 z).wf = true) : 0 ≤ z ∧ z ≤ 4294967295 := by
  simp [Lit.wf, IntKind.min, IntKind.max, IntKind.signed, IntKind.bits] at h
  omega
theorem wf_u64 {z : Int} (h : (Lit.int .u64 z).wf = true) : 0 ≤ z ∧ z ≤ 18446744073709551615 := by
  simp [Lit.wf, IntKind.min, IntKind.max, IntKind.signed, IntKind.bits] at h
  omega
theorem wf_i16 {z : Int} (h : (Lit.int .i16 z).wf = true) : -32768 ≤ z ∧ z ≤ 32767 := by
  simp [Lit.wf, IntKind.min, IntKind.max, IntKind.signed, IntKind.bits] at h
  omega
theorem wf_i64 {z : Int} (h : (Lit.int .i64 z).wf = true) : -9223372036854775808 ≤ z ∧ z ≤ 9223372036854775807 := by
  simp [Lit.wf, IntKind.min, IntKind.max, IntKind.signed, IntKind.bits] at h
  omega

theorem argB_of {w : World} {x : Addr} {len cap : Nat} {zs : List Int} (hl : len ≤ cap) (hm : cap ≤ maxLen) (hz : zs.length = cap) (hcell : ∀ i, i < zs.length → w.cell? (x.add i) = some (.int .u8 (zs.getD i 0)))
    (hwz : ∀ n ∈ zs, (Lit.int .u8 n).wf = true) : ∃ l, ArgB w (some x) len cap l := by
  have hbv : ∀ z ∈ zs, bv (UInt8.ofNat z.toNat) = .int .u8 z := by
    intro z hz
    obtain ⟨h1, h2⟩ := wf_u8 (hwz z hz)
    unfold bv
    congr 1
    rw [UInt8.toNat_ofNat']
    omega
  have hmap : ((zs.take len).map fun z => UInt8.ofNat z.toNat).map bv = (zs.take len).map (Value.int .u8) := by
    rw [List.map_map]
    apply List.map_congr_left
    intro z hz'
    exact hbv z (List.mem_of_mem_take hz')
  refine ⟨(zs.take len).map fun z => UInt8.ofNat z.toNat, ?_, by simp; omega, hl, hm⟩
  rw [hmap]
  intro hne
  have h0 : 0 < zs.length := by
    rcases Nat.eq_zero_or_pos zs.length with h | h
    · rw [List.length_eq_zero_iff.1 h] at hne; simp at hne
    · exact h
  have hc := hcell 0 h0
  have hspot : x.spot = none := by simpa [Addr.add] using World.cell?_spot hc
  obtain ⟨b, o, s⟩ := x
  simp at hspot
  subst hspot
  refine ⟨b, o, rfl, World.block_lt_of_cell? w _ hc, fun j u hu => ?_⟩
  have hj : j < zs.length := by
    have := (List.getElem?_eq_some_iff.1 hu).1
    simp at this; omega
  have := hcell j hj
  rw [Addr.add_lit] at this
  rw [this]
  rw [List.getElem?_map, List.getElem?_take] at hu
  split at hu
  · simp [List.getElem?_eq_getElem hj] at hu
    rw [← hu]; simp [List.getD, List.getElem?_eq_getElem hj]
  · simp at hu

set_option maxRecDepth 100000 in
theorem open_bytes {H : Type} {enc : TypeId × Value → H} {W : World} {r : Reach} {base base' : Nat} {spare : Nat → Bool} (hsp : ∀ b, spare b = true) {held : Bool} {v : Value} {d : DataW H} {p : List MemPlace} (hv : Value.okWide Tryz.prog W r base 22 v)
    (h : DataW.Trod enc Tryz.prog W base' spare held 22 v d p) : ∃ A n c l, v = .slice A n c ∧ ArgB W A n c l := by
  obtain ⟨A, len, cap, rfl⟩ := okWide_slice Tryz.underlying22 hv
  refine ⟨A, len, cap, ?_⟩
  obtain ⟨fuel, hf⟩ := h
  rcases open_ints Tryz.underlying22 Tryz.underlying5 (by kernel_rfl) hf with ⟨hcs, _⟩ | ⟨x, l, c, zs, hcs, _, hl, hm, hz, _, hcell, hwz⟩
  · simp [Value.cells] at hcs
    obtain ⟨rfl, rfl, rfl⟩ := hcs
    exact ⟨[], rfl, ⟨Sees.nil _ _ _, rfl, Nat.le_refl _, Nat.zero_le _⟩⟩
  · simp [Value.cells] at hcs
    obtain ⟨rfl, rfl, rfl⟩ := hcs
    rw [hsp, if_pos rfl] at hz
    obtain ⟨l, hl'⟩ := argB_of hl hm hz hcell hwz
    exact ⟨l, rfl, hl'⟩
end Go.Proofs.YtcnofhlgiffkjaaGreatDoor
/- Arguments opened: what stands for a problem; a change of a problem. -/
namespace Go.Proofs.YtcnofhlgiffkjaaGreatDoor
open Go.ChangeShapes Go.WideShapes Go.ChangeAt Go.RowKit Go.Deep Go.Joins
set_option linter.unusedVariables false
set_option linter.unusedSimpArgs false

theorem bytes_of_trod1 {H : Type} {enc : TypeId × Value → H} {W : World} {base : Nat} {spare : Nat → Bool} (hsp : ∀ b, spare b = true) {held : Bool} {v : Value} {m : Nat} {y : DataW H × List MemPlace}
    (hf : DataW.trod enc Tryz.prog W base spare held m 22 [v] = some y) : ∃ A n c l, v = .slice A n c ∧ ArgB W A n c l := by
  rcases open_ints Tryz.underlying22 Tryz.underlying5 (by kernel_rfl) hf with ⟨hcs, _⟩ | ⟨x, l, c, zs, hcs, _, hl, hm, hz, _, hcell, hwz⟩
  · simp at hcs
    subst hcs
    exact ⟨none, 0, 0, [], rfl, ⟨Sees.nil _ _ _, rfl, Nat.le_refl _, Nat.zero_le _⟩⟩
  · simp at hcs
    subst hcs
    rw [hsp, if_pos rfl] at hz
    obtain ⟨l', hl'⟩ := argB_of hl hm hz hcell hwz
    exact ⟨_, _, _, l', rfl, hl'⟩
theorem trod_array2 {H : Type} {enc : TypeId × Value → H} {P : Program} {w : World} {base : Nat} {spare : Nat → Bool} {held : Bool} {t e : TypeId} {fuel : Nat} {c0 c1 : Value} {x : DataW H × List MemPlace} (ht : P.underlying t = some (.array 2 e)) (hce : P.cellsOf e = 1)
    (h : DataW.trod enc P w base spare held fuel t [c0, c1] = some x) :
    ∃ y0 y1 n, x = (.agg [y0.1, y1.1], y0.2 ++ y1.2) ∧ DataW.trod enc P w base spare held n e [c0] = some y0 ∧ DataW.trod enc P w base spare held n e [c1] = some y1 := by
  cases fuel with
  | zero => simp [DataW.trod] at h
  | succ n =>
    unfold DataW.trod at h
    rw [ht] at h
    have r3 : List.range 2 = [0, 1] := rfl
    simp [r3, hce] at h
    obtain ⟨_, h⟩ := h
    cases h0 : DataW.trod enc P w base spare held n e [c0] with
    | none => simp [h0] at h
    | some y0 =>
      cases h1 : DataW.trod enc P w base spare held n e [c1] with
      | none => simp [h0, h1] at h
      | some y1 =>
        simp [h0, h1] at h
        exact ⟨y0, y1, n, h.symm, h0, h1⟩
theorem bv_of {z : Int} (h : (Lit.int .u8 z).wf = true) : ∃ x : UInt8, (.int .u8 z : Value) = bv x := by
  obtain ⟨h1, h2⟩ := wf_u8 h
  refine ⟨UInt8.ofNat z.toNat, ?_⟩
  unfold bv
  congr 1
  rw [UInt8.toNat_ofNat']
  omega
set_option maxRecDepth 100000 in
theorem pairs_of_trod1 {H : Type} {enc : TypeId × Value → H} {W : World} {base : Nat} {spare : Nat → Bool} (hsp : ∀ b, spare b = true) {held : Bool} {v : Value} {m0 : Nat} {y : DataW H × List MemPlace}
    (hf : DataW.trod enc Tryz.prog W base spare held m0 23 [v] = some y) : ∃ (A : Option Addr) (n c : Nat) (l : List (UInt8 × UInt8)), v = .slice A n c ∧ l.length = n ∧ n ≤ c ∧ c ≤ maxLen ∧ Sees W W.heap.size A (l.flatMap pb) := by
  rcases open_slice Tryz.underlying23 hf with ⟨hcs, _⟩ | ⟨a, len', cap', m, n, D, Pl, hcs, _, hl, hm, hmm, _, hel⟩
  · simp at hcs
    subst hcs
    exact ⟨none, 0, 0, [], rfl, rfl, Nat.le_refl _, Nat.zero_le _, Sees.nil _ _ _⟩
  · simp at hcs
    subst hcs
    rw [hsp, if_pos rfl] at hmm
    subst hmm
    have c2 : Tryz.prog.cellsOf 73 = 2 := by kernel_rfl
    have c1 : Tryz.prog.cellsOf 5 = 1 := by kernel_rfl
    have hrow : ∀ i : Nat, ∃ x : UInt8 × UInt8, i < m → ∃ b o, a = ⟨b, o, none⟩ ∧ b < W.heap.size ∧ W.cell? ⟨b, o + i * 2, none⟩ = some (bv x.1) ∧ W.cell? ⟨b, o + i * 2 + 1, none⟩ = some (bv x.2) := by
      intro i
      by_cases hi : i < m
      · obtain ⟨cs', h1, h2⟩ := hel i hi
        rw [c2] at h1
        obtain ⟨_, hlen, hcell⟩ := World.cells?_some h1
        match cs', hlen with
        | [v0, v1], _ =>
          obtain ⟨y0, y1, n', _, f0, f1⟩ := trod_array2 Tryz.underlying73 c1 h2
          have e0 := hcell 0 (by omega)
          have e1 := hcell 1 (by omega)
          rw [add_add] at e0 e1
          simp at e0 e1
          obtain ⟨k, g0, _, w0⟩ := DataW.trod_int Tryz.underlying5 f0
          obtain ⟨u, g1, _, w1⟩ := DataW.trod_int Tryz.underlying5 f1
          simp at g0 g1
          subst g0 g1
          obtain ⟨x0, hx0⟩ := bv_of w0
          obtain ⟨x1, hx1⟩ := bv_of w1
          rw [hx0] at e0
          rw [hx1] at e1
          have hspot : a.spot = none := by
            obtain ⟨cs0, h10, _⟩ := hel 0 (by omega)
            rw [c2] at h10
            obtain ⟨_, hlen0, hcell0⟩ := World.cells?_some h10
            have e00 := hcell0 0 (by omega)
            obtain ⟨z0, hz0⟩ : ∃ z0, cs0[0]? = some z0 := ⟨_, List.getElem?_eq_getElem (by omega)⟩
            rw [hz0] at e00
            simpa [Addr.add] using World.cell?_spot e00
          obtain ⟨b, o, sp⟩ := a
          simp at hspot
          subst hspot
          rw [Addr.add_lit] at e0 e1
          exact ⟨(x0, x1), fun _ => ⟨b, o, rfl, World.block_lt_of_cell? W _ e0, e0, by rw [Nat.add_assoc]; exact e1⟩⟩
      · exact ⟨(0, 0), fun h => absurd h hi⟩
    refine ⟨some a, len', m, (List.range len').map (fun i => Classical.choose (hrow i)), rfl, by simp, hl, hm, ?_⟩
    intro hn
    have h0 : 0 < len' := by
      rcases Nat.eq_zero_or_pos len' with h | h
      · subst h; exact absurd rfl hn
      · exact h
    obtain ⟨b, o, ea, hb, _, _⟩ := Classical.choose_spec (hrow 0) (by omega)
    refine ⟨b, o, by rw [ea], hb, fun j u hu => ?_⟩
    have hfl := flat_len (f := pb) (m := 2) (fun _ => rfl) ((List.range len').map (fun i => Classical.choose (hrow i)))
    have hj := (List.getElem?_eq_some_iff.1 hu).1
    rw [hfl] at hj
    simp at hj
    have hi : j / 2 < len' := by omega
    have hy : ((List.range len').map (fun i => Classical.choose (hrow i)))[j / 2]? = some (Classical.choose (hrow (j / 2))) := by simp [hi]
    obtain ⟨b', o', ea', _, c0', c1'⟩ := Classical.choose_spec (hrow (j / 2)) (by omega)
    rw [ea] at ea'
    injection ea' with e1 e2 _
    subst e1 e2
    have hf := flat_get (f := pb) (m := 2) (fun _ => rfl) hy (show j % 2 < 2 by omega)
    rw [show j / 2 * 2 + j % 2 = j by omega, hu] at hf
    rcases Nat.mod_two_eq_zero_or_one j with h0 | h1
    · rw [h0] at hf
      have hf' : u = bv (Classical.choose (hrow (j / 2))).1 := by
        have : some u = some (bv (Classical.choose (hrow (j / 2))).1) := hf
        injection this
      rw [hf', ← c0']
      congr 2
      omega
    · rw [h1] at hf
      have hf' : u = bv (Classical.choose (hrow (j / 2))).2 := by
        have : some u = some (bv (Classical.choose (hrow (j / 2))).2) := hf
        injection this
      rw [hf', ← c1']
      congr 2
      omega
set_option maxRecDepth 100000 in
theorem open_raw {H : Type} {enc : TypeId × Value → H} {W : World} {r0 : Reach} {base base' : Nat} {spare : Nat → Bool} (hsp : ∀ b, spare b = true) {held : Bool} {v : Value} {d : DataW H} {p : List MemPlace} (hv : Value.okWide Tryz.prog W r0 base 25 v)
    (h : DataW.Trod enc Tryz.prog W base' spare held 25 v d p) : ∃ r R, v = RwV.v r R ∧ RwAt W W.heap.size r R := by
  obtain ⟨cs, rfl, hsz⟩ := okWide_struct Tryz.underlying25 hv
  have hC : Tryz.prog.cellsOf 25 = 6 := by kernel_rfl
  rw [hC] at hsz
  obtain ⟨cs⟩ := cs
  match cs, hsz with
  | [v0, v1, v2, v3, v4, v5], _ =>
    obtain ⟨fuel, hf⟩ := h
    obtain ⟨xs, n, _, _, hl, hlen, hf⟩ := DataW.trod_struct Tryz.underlying25 hf
    match xs, hlen with
    | [y0, y1, y2, y3, y4, y5], _ =>
      have q0 : Tryz.prog.cellsOf 5 = 1 := by kernel_rfl
      have q1 : Tryz.prog.cellsOf 22 = 1 := by kernel_rfl
      have q2 : Tryz.prog.cellsOf 23 = 1 := by kernel_rfl
      have f0 := hf 0 _ rfl
      have f1 := hf 1 _ rfl
      have f2 := hf 2 _ rfl
      have f3 := hf 3 _ rfl
      have f4 := hf 4 _ rfl
      have f5 := hf 5 _ rfl
      simp [q0, Value.cells] at f0
      simp [q1, Value.cells] at f1 f5
      simp [q2, Value.cells] at f2 f3 f4
      obtain ⟨k, g0, _, w0⟩ := DataW.trod_int Tryz.underlying5 f0
      simp at g0
      subst g0
      obtain ⟨A1, n1, c1, l1, rfl, m1⟩ := bytes_of_trod1 hsp f1
      obtain ⟨A2, n2, c2, l2, rfl, p2, _, _, s2⟩ := pairs_of_trod1 hsp f2
      obtain ⟨A3, n3, c3, l3, rfl, p3, _, _, s3⟩ := pairs_of_trod1 hsp f3
      obtain ⟨A4, n4, c4, l4, rfl, p4, _, _, s4⟩ := pairs_of_trod1 hsp f4
      obtain ⟨A5, n5, c5, l5, rfl, m5⟩ := bytes_of_trod1 hsp f5
      obtain ⟨k1, k2⟩ := wf_u8 w0
      obtain ⟨k', rfl⟩ : ∃ k' : Nat, k = (k' : Int) := ⟨k.toNat, by omega⟩
      exact ⟨⟨⟨A1, n1, c1⟩, ⟨A2, n2, c2⟩, ⟨A3, n3, c3⟩, ⟨A4, n4, c4⟩, ⟨A5, n5, c5⟩⟩, ⟨k', l1, l2, l3, l4, l5⟩, rfl, ⟨by show k' < 256; omega, m1.len, p2, p3, p4, m5.len, m1.sees, s2, s3, s4, m5.sees⟩⟩

/-- What a walk is told of a change. -/
structure OddIn (k : Nat) (z : Int) : Prop where
  kind : k < 256
  n1 : -32768 ≤ z
  n2 : z ≤ 32767
def oddV (k : Nat) (z : Int) : Value := .agg #[.int .u8 (k : Int), .int .i16 z]
end Go.Proofs.YtcnofhlgiffkjaaGreatDoor
/- Nodes whose lists are the call's own. -/
namespace Go.Proofs.YtcnofhlgiffkjaaGreatDoor
open Go.RowKit
set_option linter.unusedVariables false
set_option linter.unusedSimpArgs false

theorem pnode_info : (Tryz.prog.info? 95).map (fun i => (i.zero, i.size, i.bytes)) = some (some (.agg #[.int .u8 0, .int .i64 0, .slice none 0 0, .slice none 0 0]), 4, 64) := by kernel_rfl
/-- A node with its lists' slices. -/
structure NdS where
  x : Nd
  C : Sl
  S : Sl
def NdS.cs (k : IntKind) (y : NdS) : List Value := [.int k (y.x.kind : Int), .int .i64 y.x.step, y.C.v, y.S.v]
/-- Its lists are the call's own. -/
structure NdO (w : World) (base : Nat) (y : NdS) : Prop where
  k8 : y.x.kind < 256
  ch : OwnI w base y.C.v y.C.n y.x.ch
  st : OwnI w base y.S.v y.S.n y.x.st
  bc : y.C.n ≤ 1000000
  bs : y.S.n ≤ 1000000
theorem NdO.on {w w' : World} {base : Nat} {y : NdS} (h : NdO w base y) (hb : Below w.heap.size w w') : NdO w' base y := ⟨h.k8, h.ch.on hb, h.st.on hb, h.bc, h.bs⟩
theorem NdO.less {w : World} {base base' : Nat} {y : NdS} (h : NdO w base y) (hb : base' ≤ base) : NdO w base' y := ⟨h.k8, own_less h.ch hb, own_less h.st hb, h.bc, h.bs⟩
theorem NdO.at {w : World} {base : Nat} {y : NdS} (h : NdO w base y) : NdL w w.heap.size y.C y.S y.x :=
  ⟨h.k8, h.ch.sees, h.st.sees, h.ch.len, h.st.len, own_room h.ch, own_room h.st, h.bc, h.bs⟩
theorem NdO.grown {w w' : World} {base : Nat} {y : NdS} {row : Option Nat} (h : NdO w base y) (hg : w.grownBy w' row) (h1 : y.C.v.ownBlock = none ∨ y.C.v.ownBlock ≠ row) (h2 : y.S.v.ownBlock = none ∨ y.S.v.ownBlock ≠ row) : NdO w' base y :=
  ⟨h.k8, h.ch.kept hg h1, h.st.kept hg h2, h.bc, h.bs⟩
/-- A row of nodes of the call's own. -/
structure OwnNs (k : IntKind) (T : TypeId) (w : World) (base : Nat) (v : Value) (n : Nat) (ys : List NdS) : Prop where
  row : w.ownsRow base T 4 v n (ys.flatMap (NdS.cs k))
  nd : ∀ y ∈ ys, NdO w base y
theorem OwnNs.nil (k : IntKind) (T : TypeId) (w : World) (base : Nat) : OwnNs k T w base (.slice none 0 0) 0 [] := ⟨World.ownsRow_nil _ _ _ _, fun y hy => by cases hy⟩
theorem OwnNs.len {k : IntKind} {T : TypeId} {w : World} {base n : Nat} {v : Value} {ys : List NdS} (h : OwnNs k T w base v n ys) : ys.length = n := by
  have h1 := h.row.1
  rw [flat_len (f := NdS.cs k) (m := 4) (fun _ => rfl)] at h1
  omega
theorem OwnNs.on {k : IntKind} {T : TypeId} {w w' : World} {base n : Nat} {v : Value} {ys : List NdS} (h : OwnNs k T w base v n ys) (hb : Below w.heap.size w w') : OwnNs k T w' base v n ys :=
  ⟨own_on h.row hb, fun y hy => (h.nd y hy).on hb⟩
theorem OwnNs.less {k : IntKind} {T : TypeId} {w : World} {base base' n : Nat} {v : Value} {ys : List NdS} (h : OwnNs k T w base v n ys) (hb : base' ≤ base) : OwnNs k T w base' v n ys :=
  ⟨own_less h.row hb, fun y hy => (h.nd y hy).less hb⟩
/-- One more node. -/
theorem OwnNs.add {k : IntKind} {T : TypeId} {w w' : World} {base n n' c' : Nat} {v : Value} {A' : Option Addr} {ys : List NdS} {y : NdS} (h : OwnNs k T w base v n ys) (hT : 3 ≠ T) (hy : NdO w base y)
    (ho : w'.ownsRow base T 4 (.slice A' n' c') n' (ys.flatMap (NdS.cs k) ++ y.cs k)) (hg : w.grownBy w' v.ownBlock) : OwnNs k T w' base (.slice A' n' c') n' (ys ++ [y]) := by
  have keep : ∀ z, NdO w base z → NdO w' base z := fun z hz => hz.grown hg (own_apart hz.ch h.row hT) (own_apart hz.st h.row hT)
  refine ⟨by rw [flat_snoc]; exact ho, fun z hz => ?_⟩
  rcases List.mem_append.1 hz with h1 | h1
  · exact keep z (h.nd z h1)
  · obtain rfl : z = y := by simpa using h1
    exact keep z hy
theorem NdO.put {w : World} {base g t i : Nat} {y : NdS} {cs : Array Value} (h : NdO w base y) (hb : Blk w g t cs) (ht : 3 ≠ t) (u : Value) : NdO (w.setCell ⟨g, i, none⟩ u) base y :=
  ⟨h.k8, ownsRow_setCell_other h.ch (a := ⟨g, i, none⟩) (own_off h.ch hb ht) u, ownsRow_setCell_other h.st (a := ⟨g, i, none⟩) (own_off h.st hb ht) u, h.bc, h.bs⟩
/-- A store into a block of another type. -/
theorem OwnNs.put {k : IntKind} {T : TypeId} {w : World} {base n g t i : Nat} {v : Value} {ys : List NdS} {cs : Array Value} (h : OwnNs k T w base v n ys) (hb : Blk w g t cs) (hT : T ≠ t) (ht : 3 ≠ t) (u : Value) : OwnNs k T (w.setCell ⟨g, i, none⟩ u) base v n ys :=
  ⟨ownsRow_setCell_other h.row (a := ⟨g, i, none⟩) (own_off h.row hb hT) u, fun y hy => (h.nd y hy).put hb ht u⟩
theorem OwnNs.get {k : IntKind} {T : TypeId} {w : World} {base n c i : Nat} {A : Option Addr} {ys : List NdS} {y : NdS} (h : OwnNs k T w base (.slice A n c) n ys) (hy : ys[i]? = some y) :
    ∃ b o, A = some ⟨b, o, none⟩ ∧ b < w.heap.size ∧ w.cell? ⟨b, o + i * 4, none⟩ = some (.int k (y.x.kind : Int)) ∧ w.cell? ⟨b, o + i * 4 + 1, none⟩ = some (.int .i64 y.x.step) ∧ w.cell? ⟨b, o + i * 4 + 2, none⟩ = some y.C.v ∧ w.cell? ⟨b, o + i * 4 + 3, none⟩ = some y.S.v := by
  have e0 := flat_get (f := NdS.cs k) (m := 4) (fun _ => rfl) hy (show 0 < 4 by omega)
  have e1 := flat_get (f := NdS.cs k) (m := 4) (fun _ => rfl) hy (show 1 < 4 by omega)
  have e2 := flat_get (f := NdS.cs k) (m := 4) (fun _ => rfl) hy (show 2 < 4 by omega)
  have e3 := flat_get (f := NdS.cs k) (m := 4) (fun _ => rfl) hy (show 3 < 4 by omega)
  obtain ⟨b, o, e, hb, hc⟩ := Sees.own h.row (by omega) (by intro h0; rw [h0] at e0; simp [NdS.cs] at e0)
  exact ⟨b, o, e, hb, hc _ _ (by rw [show i * 4 = i * 4 + 0 from rfl, e0]; rfl), hc _ _ (by rw [e1]; rfl), hc _ _ (by rw [e2]; rfl), hc _ _ (by rw [e3]; rfl)⟩
theorem OwnNs.atP {w : World} {base n c : Nat} {A : Option Addr} {ys : List NdS} (h : OwnNs .u8 95 w base (.slice A n c) n ys) : NodesAt w w.heap.size A (ys.map (·.x)) := fun i x hx => by
  rw [List.getElem?_map] at hx
  cases hy : ys[i]? with
  | none => rw [hy] at hx; cases hx
  | some y =>
    rw [hy] at hx
    injection hx with hx
    subst hx
    obtain ⟨b, o, e, hb, h0, h1, h2, h3⟩ := h.get hy
    exact ⟨b, o, y.C, y.S, e, hb, h0, h1, h2, h3, (h.nd y (List.mem_of_getElem? hy)).at⟩
end Go.Proofs.YtcnofhlgiffkjaaGreatDoor
/- A drawn region whose last operations wait for some loads: S need not hold behind them. -/
namespace Go.Proofs.YtcnofhlgiffkjaaGreatDoor
set_option linter.unusedVariables false
set_option linter.unusedSimpArgs false

section
variable {P : Program} {ops : Array Oper} {Q : Exit → Act → World → Prop} {md : Region.Mode} {D : Nat → Bool} {S : World → Prop}

/-- Whatever order is picked, and S holds behind every operation but the last ones. -/
def wpAnyF (P : Program) (md : Region.Mode) (ops : Array Oper) (Q : Exit → Act → World → Prop) (D : Nat → Bool) (S : World → Prop) : Nat → Array Bool → Act → World → Prop
  | 0, listed, a, w => Region.ready md ops listed = [] ∧ Q .normal a w
  | fuel + 1, listed, a, w =>
    (Region.ready md ops listed = [] → Q .normal a w) ∧
    ∀ i ∈ Region.ready md ops listed, wpOp P ops Q i (fun a' w' => (D i = true ∨ S w') ∧ wpAnyF P md ops Q D S fuel (listed.setIfInBounds i true) a' w') a w
theorem wpAny_of_F : ∀ (fuel : Nat) (listed : Array Bool) (a : Act) (w : World), wpAnyF P md ops Q D S fuel listed a w → wpAny P md ops Q fuel listed a w
  | 0, _, _, _, h => h
  | fuel + 1, _, _, _, h => ⟨h.1, fun i hi => wpOp_mono (fun a' w' h' => wpAny_of_F fuel _ a' w' h'.2) (h.2 i hi)⟩
/-- The last ones wait for operation i. -/
def waitsB (md : Region.Mode) (ops : Array Oper) (D : Nat → Bool) (i : Nat) : Bool :=
  (List.range ops.size).all fun j => !D j || ((ops[j]?).map (·.after.any fun e => Region.binds md e && e.on == i)).getD true
theorem waits_spec {i : Nat} (h : waitsB md ops D i = true) {j : Nat} {oj : Oper} (hj : ops[j]? = some oj) (hD : D j = true) : ∃ e ∈ oj.after, Region.binds md e = true ∧ e.on = i := by
  unfold waitsB at h
  rw [List.all_eq_true] at h
  have h1 := h j (List.mem_range.2 (Array.getElem?_eq_some_iff.1 hj).1)
  rw [hD, hj] at h1
  simp only [Bool.not_true, Bool.false_or, Option.map_some, Option.getD_some] at h1
  obtain ⟨k, hk, h2⟩ := Array.any_eq_true.1 h1
  simp only [Bool.and_eq_true, beq_iff_eq] at h2
  exact ⟨oj.after[k], Array.getElem_mem hk, h2.1, h2.2⟩
theorem wpAnyF_first {i : Nat} {oi : Oper} {v : Value} (hi : ops[i]? = some oi) (hD : waitsB md ops D i = true) (hsel : ∀ (j : Nat) (o : Oper) cs b, ops[j]? = some o → o.op ≠ .select cs b)
    (hQ : ∀ c a w, Q (.panic c) (a.put oi.dst v) w → Q (.panic c) a w) :
    ∀ (fuel : Nat) (listed : Array Bool) (a : Act) (w : World),
      (∀ j oj, ops[j]? = some oj → j ≠ i → listed.getD j true = false → (∀ e ∈ oj.after, Region.binds md e = true → e.on ≠ i) → oi.apart ops oj = true) →
      i ∈ Region.ready md ops listed → YieldsIf P ops S oi v a → S w →
      wpAnyF P md ops Q D S fuel (listed.setIfInBounds i true) (a.put oi.dst v) w → wpAnyF P md ops Q D S (fuel + 1) listed a w := by
  intro fuel
  induction fuel with
  | zero =>
    intro listed a w _ hr hy hS H
    refine ⟨fun h => (by rw [h] at hr; cases hr), fun j hj => ?_⟩
    by_cases hji : j = i
    · subst hji; exact hy.wpOp hi hS ⟨.inr hS, H⟩
    · have := ready_mono hj hji
      rw [H.1] at this
      cases this
  | succ fuel ih =>
    intro listed a w hfree hr hy hS H
    refine ⟨fun h => (by rw [h] at hr; cases hr), fun j hj => ?_⟩
    by_cases hji : j = i
    · subst hji; exact hy.wpOp hi hS ⟨.inr hS, H⟩
    · have h1 := H.2 j (ready_mono hj hji)
      obtain ⟨hjun, oj, hoj, hall⟩ := mem_ready.1 hj
      have h00 := (mem_ready.1 hr).1
      have hnot : ∀ e ∈ oj.after, Region.binds md e = true → e.on ≠ i := fun e he hb heq => by
        have h1 := hall e he hb
        rw [heq] at h1
        rcases Nat.lt_or_ge i listed.size with h' | h'
        · simp [h'] at h00 h1; rw [h00] at h1; cases h1
        · simp [Array.getElem?_eq_none h'] at h1
      have hDj : ¬ D j = true := fun hd => by
        obtain ⟨e, he, hb, e1⟩ := waits_spec hD hoj hd
        exact hnot e he hb e1
      have h2 := wpOp_putIf hoj (hfree j oj hoj hji hjun hnot) (fun cs b => hsel i oi cs b hi) (fun cs b => hsel j oj cs b hoj) hQ hy h1
      have hfree' : ∀ k ok, ops[k]? = some ok → k ≠ i → (listed.setIfInBounds j true).getD k true = false →
          (∀ e ∈ ok.after, Region.binds md e = true → e.on ≠ i) → oi.apart ops ok = true := fun k ok hk hki hun hno => by
        refine hfree k ok hk hki ?_ hno
        by_cases hjk : j = k
        · subst hjk; exact hjun
        · rw [getD_set_ne true hjk] at hun; exact hun
      refine wpOp_mono (fun a' w' h3 => ?_) h2
      have hSw : S w' := h3.2.1.resolve_left hDj
      refine ⟨.inr hSw, ih (listed.setIfInBounds j true) a' w' hfree' (ready_mono hr (Ne.symm hji)) h3.1 hSw ?_⟩
      rw [Array.setIfInBounds_comm _ _ hji]
      exact h3.2.2
/-- Take number i first. -/
theorem wpAnyF_take {i : Nat} {oi : Oper} {v : Value} {fuel : Nat} {listed : Array Bool} {a : Act} {w : World} (hi : ops[i]? = some oi)
    (hr : (Region.ready md ops listed).contains i = true) (hD : waitsB md ops D i = true) (hs : Region.noSelect ops = true) (hf : Region.free md ops listed i = true)
    (hQ : ∀ c a w, Q (.panic c) (a.put oi.dst v) w → Q (.panic c) a w) (hS : S w) (hy : YieldsIf P ops S oi v a)
    (h : wpAnyF P md ops Q D S fuel (listed.setIfInBounds i true) (a.put oi.dst v) w) : wpAnyF P md ops Q D S (fuel + 1) listed a w :=
  wpAnyF_first hi hD (Region.noSelect_spec hs) hQ fuel listed a w (Region.free_spec hi hf) (by simpa using hr) hy hS h
/-- One alone may come up: the step. -/
theorem wpAnyF_one {i : Nat} {o : Oper} {fuel : Nat} {listed : Array Bool} {a : Act} {w : World} (hr : Region.ready md ops listed = [i]) (ho : ops[i]? = some o)
    (h : ∀ K' : Act → World → Prop, Shut (∀ a w, (D i = true ∨ S w) → wpAnyF P md ops Q D S fuel (listed.setIfInBounds i true) a w → K' a w) → if Region.wanted o (yielded ops a.tmps) = true then Oper.wp P o a w K' Q else K' (a.put o.dst undef) w) :
    wpAnyF P md ops Q D S (fuel + 1) listed a w := by
  refine ⟨fun h0 => (by rw [hr] at h0; cases h0), fun j hj => ?_⟩
  rw [hr] at hj
  obtain rfl : j = i := by simpa using hj
  exact wpOp_step ho fun K' hK => h K' fun a w hS hW => hK a w ⟨hS, hW⟩
/-- Two may come up. -/
theorem wpAnyF_two {i k : Nat} {o o' : Oper} {fuel : Nat} {listed : Array Bool} {a : Act} {w : World} (hr : Region.ready md ops listed = [i, k]) (ho : ops[i]? = some o) (ho' : ops[k]? = some o')
    (h : ∀ K' : Act → World → Prop, Shut (∀ a w, (D i = true ∨ S w) → wpAnyF P md ops Q D S fuel (listed.setIfInBounds i true) a w → K' a w) → if Region.wanted o (yielded ops a.tmps) = true then Oper.wp P o a w K' Q else K' (a.put o.dst undef) w)
    (h' : ∀ K' : Act → World → Prop, Shut (∀ a w, (D k = true ∨ S w) → wpAnyF P md ops Q D S fuel (listed.setIfInBounds k true) a w → K' a w) → if Region.wanted o' (yielded ops a.tmps) = true then Oper.wp P o' a w K' Q else K' (a.put o'.dst undef) w) :
    wpAnyF P md ops Q D S (fuel + 1) listed a w := by
  refine ⟨fun h0 => (by rw [hr] at h0; cases h0), fun j hj => ?_⟩
  rw [hr] at hj
  have hj' : j = i ∨ j = k := by simpa using hj
  rcases hj' with rfl | rfl
  · exact wpOp_step ho fun K' hK => h K' fun a w hS hW => hK a w ⟨hS, hW⟩
  · exact wpOp_step ho' fun K' hK => h' K' fun a w hS hW => hK a w ⟨hS, hW⟩
/-- All have come up. -/
theorem wpAnyF_done {listed : Array Bool} {a : Act} {w : World} (hr : Region.ready md ops listed = []) (h : Q .normal a w) : ∀ fuel, wpAnyF P md ops Q D S fuel listed a w
  | 0 => ⟨hr, h⟩
  | _ + 1 => ⟨fun _ => h, by rw [hr]; simp⟩
/-- The beginning. -/
theorem wp_region_F {id : Nat} {a : Act} {w : World} (D : Nat → Bool) (S : World → Prop) (hm : P.follows .mixedOrders = true) (hS : S w.drew)
    (h : S w.drew → wpAnyF P .any ops Q D S ops.size (Array.replicate ops.size false) a w.drew) : (Code.region id ops true).wp P Q a w :=
  wp_region_any hm (wpAny_of_F _ _ _ _ (h hS))
end
end Go.Proofs.YtcnofhlgiffkjaaGreatDoor
/- Nodes: a refutation as the program has it. -/
namespace Go.Proofs.YtcnofhlgiffkjaaGreatDoor
open Go.RowKit
set_option linter.unusedVariables false
set_option linter.unusedSimpArgs false

theorem ret_rf {fn : Func} {R : Ending → World → Prop} {a : Act} {w : World} {q : Tmp} (h : fn.results = #[.cell q 41]) (g : Nat) (v : Value) (hp : a.tmps.getD q undef = .pointer (some ⟨g, 0, none⟩))
    (hb : Blk w g 41 #[v]) (hd : a.defers = []) (hR : R (.returned (.agg #[v])) w) : bodyPost Tryz.prog fn R .ret a w :=
  bodyPost_ret (results_cell_row h _ w g _ _ _ _ hp hb Tryz.underlying41 rfl (by kernel_rfl)) hd hR
end Go.Proofs.YtcnofhlgiffkjaaGreatDoor
/- nodes: at most eight nodes in any form. -/
namespace Go.Proofs.YtcnofhlgiffkjaaGreatDoor
open Go.RowKit
set_option linter.unusedVariables false
set_option linter.unusedSimpArgs false

/-- A node in any form. -/
structure Rn where
  kind : Int
  step : Int
  ch : List Int
  st : List Int
def i8v (z : Int) : Value := .int .i8 z
/-- int8 numbers. -/
def I8 (l : List Int) : Prop := ∀ z ∈ l, -128 ≤ z ∧ z ≤ 127
structure RnL (w : World) (B : Nat) (C S : Sl) (x : Rn) : Prop where
  k1 : -128 ≤ x.kind
  k2 : x.kind ≤ 127
  s1 : -128 ≤ x.step
  s2 : x.step ≤ 127
  ch : Sees w B C.a (x.ch.map i8v)
  st : Sees w B S.a (x.st.map i8v)
  lc : x.ch.length = C.n
  ls : x.st.length = S.n
  cc : C.n ≤ C.c
  cs : S.n ≤ S.c
  mc : C.c ≤ maxLen
  ms : S.c ≤ maxLen
  ic : I8 x.ch
  is : I8 x.st
theorem RnL.below {w w' : World} {B : Nat} {C S : Sl} {x : Rn} (h : RnL w B C S x) (hb : Below B w w') : RnL w' B C S x :=
  ⟨h.k1, h.k2, h.s1, h.s2, h.ch.below hb, h.st.below hb, h.lc, h.ls, h.cc, h.cs, h.mc, h.ms, h.ic, h.is⟩
def RawsAt (w : World) (B : Nat) (A : Option Addr) (l : List Rn) : Prop :=
  ∀ (i : Nat) (x : Rn), l[i]? = some x → ∃ b o C S, A = some ⟨b, o, none⟩ ∧ b < B ∧ w.cell? ⟨b, o + i * 4, none⟩ = some (.int .i8 x.kind) ∧ w.cell? ⟨b, o + i * 4 + 1, none⟩ = some (.int .i8 x.step) ∧
    w.cell? ⟨b, o + i * 4 + 2, none⟩ = some (Sl.v C) ∧ w.cell? ⟨b, o + i * 4 + 3, none⟩ = some (Sl.v S) ∧ RnL w B C S x
theorem RawsAt.below {w w' : World} {B : Nat} {A : Option Addr} {l : List Rn} (h : RawsAt w B A l) (hb : Below B w w') : RawsAt w' B A l := fun i x hi => by
  obtain ⟨b, o, C, S, e, h1, h2, h3, h4, h5, h6⟩ := h i x hi
  exact ⟨b, o, C, S, e, h1, (hb.cell (p := ⟨b, o + i * 4, none⟩) h1).trans h2, (hb.cell (p := ⟨b, o + i * 4 + 1, none⟩) h1).trans h3, (hb.cell (p := ⟨b, o + i * 4 + 2, none⟩) h1).trans h4, (hb.cell (p := ⟨b, o + i * 4 + 3, none⟩) h1).trans h5, h6.below hb⟩
theorem RnL.more {w : World} {B B' : Nat} {C S : Sl} {x : Rn} (h : RnL w B C S x) (hb : B ≤ B') : RnL w B' C S x :=
  ⟨h.k1, h.k2, h.s1, h.s2, h.ch.more hb, h.st.more hb, h.lc, h.ls, h.cc, h.cs, h.mc, h.ms, h.ic, h.is⟩
theorem RawsAt.more {w : World} {B B' : Nat} {A : Option Addr} {l : List Rn} (h : RawsAt w B A l) (hb : B ≤ B') : RawsAt w B' A l := fun i x hi => by
  obtain ⟨b, o, C, S, e, h1, h2, h3, h4, h5, h6⟩ := h i x hi
  exact ⟨b, o, C, S, e, by omega, h2, h3, h4, h5, h6.more hb⟩
theorem RawsAt.on {w w' : World} {A : Option Addr} {l : List Rn} (h : RawsAt w w.heap.size A l) (hb : Below w.heap.size w w') : RawsAt w' w'.heap.size A l := (h.below hb).more hb.size
theorem Sees.i8 {w : World} {B : Nat} {A : Option Addr} {l : List Int} {k : Nat} (h : Sees w B A (l.map i8v)) (hk : k < l.length) :
    ∃ b o z, A = some ⟨b, o, none⟩ ∧ b < B ∧ Hid (l[k]? = some z) ∧ w.cell? ⟨b, o + k, none⟩ = some (.int .i8 z) := by
  obtain ⟨b, o, e, hb, hc⟩ := h.at_ (k := k) (by simpa using hk)
  exact ⟨b, o, l[k], e, hb, Lib.hid (List.getElem?_eq_getElem hk), by rw [hc, List.getElem_map]; rfl⟩
def mkNd (x : Rn) : Nd := ⟨(max x.kind 0).toNat, x.step, x.ch.take 5, x.st.take 5⟩
def nodesL (l : List Rn) : List Nd := (l.take 8).map mkNd

/-- append of one number, and where it lies. -/
theorem wpL_appI1k (w : World) {ops : Array Oper} {rest : List Oper} {o : Oper} {a : Act} {Q : Exit → Act → World → Prop} (hgd : o.guard = none) (s x : Operand)
    (ho : o.op = .call { callee := .builtin .append, args := #[s, x], argTypes := #[30, 30] })
    (w0 : World) (base : Nat) (v : Value) (n : Nat) (l : List Int) (hs : a.eval s = v) (hown : OwnI w0 base v n l) (z : Int) (hw : w = w0.alloc (.cells #[.int .i64 z] 3)) (g : Nat) (hg : g = w0.heap.size)
    (hx : a.eval x = .slice (some ⟨g, 0, none⟩) 1 1) (hbytes : n + 1 ≤ 1000000000) (hbase : base ≤ w0.heap.size) (n' : Nat) (hn' : n + 1 = n')
    (h : ∀ A' c' w', OwnI w' base (.slice A' n' c') n' (l ++ [z]) → w0.grownBy w' v.ownBlock → Below base w0 w' → ((Value.slice A' n' c').ownBlock = v.ownBlock ∨ (Value.slice A' n' c').ownBlock = some (w0.heap.size + 1)) →
      wpList Tryz.prog ops Q rest (a.put o.dst (.slice A' n' c')) w') : wpList Tryz.prog ops Q (o :: rest) a w := by
  have hown' : w0.ownsRow base 3 1 v n (l.map iv) := hown
  refine wpL_row1 3 30 _ 1 8 int_info Tryz.underlying30 rfl (by omega) (by omega) w hgd s x ho w0 base v n _ hs hown' #[.int .i64 z] hw g hg hx rfl (by simp [Value.oneCell']) hbytes hbase n' hn' ?_
  intro A' c' w' h1 h2 h3 h4
  exact h A' c' w' (by show World.ownsRow _ _ _ _ _ _ _; rw [List.map_append]; exact h1) h2 h3 h4
theorem own_ap {w : World} {base e s n x : Nat} {v v' v9 : Value} {xs : List Value} (h : w.ownsRow base e s v n xs) (hap : v.ownBlock = none ∨ v.ownBlock ≠ v'.ownBlock) (hk : v9.ownBlock = v'.ownBlock ∨ v9.ownBlock = some x) (hx : w.heap.size ≤ x) : v.ownBlock = none ∨ v.ownBlock ≠ v9.ownBlock := by
  rcases hk with h1 | h1
  · rw [h1]; exact hap
  · rw [h1]
    cases hv : v.ownBlock with
    | none => exact .inl rfl
    | some g =>
      right
      have := (h.lt _ hv).2
      intro e
      injection e with e
      omega
end Go.Proofs.YtcnofhlgiffkjaaGreatDoor
/- Arguments opened: nodes in any form; int8 numbers; changes. -/
namespace Go.Proofs.YtcnofhlgiffkjaaGreatDoor
open Go.ChangeShapes Go.WideShapes Go.ChangeAt Go.RowKit Go.Deep Go.Joins
set_option linter.unusedVariables false
set_option linter.unusedSimpArgs false

theorem wf_i8 {z : Int} (h : (Lit.int .i8 z).wf = true) : -128 ≤ z ∧ z ≤ 127 := by
  simp [Lit.wf, IntKind.min, IntKind.max, IntKind.signed, IntKind.bits] at h
  omega
/-- What a walk is told of int8 numbers. -/
structure ArgI8 (w : World) (A : Option Addr) (n c : Nat) (l : List Int) : Prop where
  sees : Sees w w.heap.size A (l.map i8v)
  len : l.length = n
  cap : n ≤ c
  max : c ≤ maxLen
  rng : I8 l
structure ArgRaws (w : World) (A : Option Addr) (n c : Nat) (l : List Rn) : Prop where
  mem : RawsAt w w.heap.size A l
  len : l.length = n
  cap : n ≤ c
  max : c ≤ maxLen
/-- A change of a node. -/
structure Chg where
  at_ : Nat
  kind : Nat
  place : Nat
  n : Int
structure ChgIn (x : Chg) : Prop where
  a : x.at_ < 256
  k : x.kind < 256
  p : x.place < 256
  n1 : -128 ≤ x.n
  n2 : x.n ≤ 127
def ChgsAt (w : World) (B : Nat) (A : Option Addr) (l : List Chg) : Prop :=
  ∀ (i : Nat) (x : Chg), l[i]? = some x → ChgIn x ∧ ∃ b o, A = some ⟨b, o, none⟩ ∧ b < B ∧ w.cell? ⟨b, o + i * 4, none⟩ = some (.int .u8 (x.at_ : Int)) ∧ w.cell? ⟨b, o + i * 4 + 1, none⟩ = some (.int .u8 (x.kind : Int)) ∧
    w.cell? ⟨b, o + i * 4 + 2, none⟩ = some (.int .u8 (x.place : Int)) ∧ w.cell? ⟨b, o + i * 4 + 3, none⟩ = some (.int .i8 x.n)
theorem ChgsAt.below {w w' : World} {B : Nat} {A : Option Addr} {l : List Chg} (h : ChgsAt w B A l) (hb : Below B w w') : ChgsAt w' B A l := fun i x hi => by
  obtain ⟨hx, b, o, e, h1, h2, h3, h4, h5⟩ := h i x hi
  exact ⟨hx, b, o, e, h1, (hb.cell (p := ⟨b, o + i * 4, none⟩) h1).trans h2, (hb.cell (p := ⟨b, o + i * 4 + 1, none⟩) h1).trans h3, (hb.cell (p := ⟨b, o + i * 4 + 2, none⟩) h1).trans h4, (hb.cell (p := ⟨b, o + i * 4 + 3, none⟩) h1).trans h5⟩
theorem ChgsAt.more {w : World} {B B' : Nat} {A : Option Addr} {l : List Chg} (h : ChgsAt w B A l) (hb : B ≤ B') : ChgsAt w B' A l := fun i x hi => by
  obtain ⟨hx, b, o, e, h1, h2⟩ := h i x hi
  exact ⟨hx, b, o, e, by omega, h2⟩
theorem ChgsAt.on {w w' : World} {A : Option Addr} {l : List Chg} (h : ChgsAt w w.heap.size A l) (hb : Below w.heap.size w w') : ChgsAt w' w'.heap.size A l := (h.below hb).more hb.size
structure ArgChgs (w : World) (A : Option Addr) (n c : Nat) (l : List Chg) : Prop where
  mem : ChgsAt w w.heap.size A l
  len : l.length = n
  cap : n ≤ c
  max : c ≤ maxLen

theorem argI_of {w : World} {x : Addr} {len cap : Nat} {zs : List Int} (hl : len ≤ cap) (hm : cap ≤ maxLen) (hz : zs.length = cap) (hcell : ∀ i, i < zs.length → w.cell? (x.add i) = some (.int .i8 (zs.getD i 0)))
    (hwz : ∀ n ∈ zs, (Lit.int .i8 n).wf = true) : ∃ l, ArgI8 w (some x) len cap l := by
  refine ⟨zs.take len, ?_, by simp; omega, hl, hm, fun z hz' => wf_i8 (hwz z (List.mem_of_mem_take hz'))⟩
  intro hne
  have h0 : 0 < zs.length := by
    rcases Nat.eq_zero_or_pos zs.length with h | h
    · rw [List.length_eq_zero_iff.1 h] at hne; simp at hne
    · exact h
  have hc := hcell 0 h0
  have hspot : x.spot = none := by simpa [Addr.add] using World.cell?_spot hc
  obtain ⟨b, o, s⟩ := x
  simp at hspot
  subst hspot
  refine ⟨b, o, rfl, World.block_lt_of_cell? w _ hc, fun j u hu => ?_⟩
  have hj : j < zs.length := by
    have := (List.getElem?_eq_some_iff.1 hu).1
    simp at this; omega
  have := hcell j hj
  rw [Addr.add_lit] at this
  rw [this]
  rw [List.getElem?_map, List.getElem?_take] at hu
  split at hu
  · simp [List.getElem?_eq_getElem hj] at hu
    rw [← hu]; simp [List.getD, List.getElem?_eq_getElem hj, i8v]
  · simp at hu
theorem cells4 {W : World} {base : Nat} {a : Addr} {i : Nat} {v0 v1 v2 v3 : Value} (h : W.cells? base (a.add (i * 4)) 4 = some [v0, v1, v2, v3]) (hs : a.spot = none) :
    ∃ b o, a = ⟨b, o, none⟩ ∧ b < W.heap.size ∧ W.cell? ⟨b, o + i * 4, none⟩ = some v0 ∧ W.cell? ⟨b, o + i * 4 + 1, none⟩ = some v1 ∧ W.cell? ⟨b, o + i * 4 + 2, none⟩ = some v2 ∧ W.cell? ⟨b, o + i * 4 + 3, none⟩ = some v3 := by
  obtain ⟨_, hlen, hcell⟩ := World.cells?_some h
  have e0 := hcell 0 (by omega)
  have e1 := hcell 1 (by omega)
  have e2 := hcell 2 (by omega)
  have e3 := hcell 3 (by omega)
  rw [add_add] at e0 e1 e2 e3
  simp at e0 e1 e2 e3
  obtain ⟨b, o, sp⟩ := a
  simp at hs
  subst hs
  rw [Addr.add_lit] at e0 e1 e2 e3
  exact ⟨b, o, rfl, World.block_lt_of_cell? W _ e0, e0, by rw [Nat.add_assoc]; exact e1, by rw [Nat.add_assoc]; exact e2, by rw [Nat.add_assoc]; exact e3⟩
theorem spot4 {W : World} {base : Nat} {a : Addr} {cs : List Value} (h : W.cells? base a 4 = some cs) : a.spot = none := by
  obtain ⟨_, hlen, hcell⟩ := World.cells?_some h
  have e0 := hcell 0 (by omega)
  obtain ⟨z0, hz0⟩ : ∃ z0, cs[0]? = some z0 := ⟨_, List.getElem?_eq_getElem (by omega)⟩
  rw [hz0] at e0
  simpa [Addr.add] using World.cell?_spot e0
end Go.Proofs.YtcnofhlgiffkjaaGreatDoor
