/- The arguments of a law, opened: a byte slice. -/
import Derived.Test.YtfbdfpnmopgkoaaDoorMem
import Derived.ProofKit
import Derived.OpenShut
import Derived.ShutString
import Derived.ChangeOld
namespace Go.Proofs.YtfbdfpnmopgkoaaDoor
open Go.ChangeShapes Go.WideShapes Go.ChangeAt Go.RowKit
set_option linter.unusedVariables false
set_option linter.unusedSimpArgs false

theorem own : ownKnob Tryd.prog.godebug = none := by kernel_rfl
theorem laidOut : laidOutB Tryd.prog = true := by kernel_rfl

/-- What a walk is told of a byte slice that came in. -/
structure ArgB (w : World) (A : Option Addr) (n c : Nat) (l : List UInt8) : Prop where
  sees : Sees w w.heap.size A (l.map bv)
  len : l.length = n
  cap : n ≤ c
  max : c ≤ maxLen

theorem wf_u8 {z : Int} (h : (Lit.int .u8 z).wf = true) : 0 ≤ z ∧ z ≤ 255 := by
  simp [Lit.wf, IntKind.min, IntKind.max, IntKind.signed, IntKind.bits] at h
  omega

theorem wf_u16 {z : Int} (h : (Lit.int .u16 z).wf = true) : 0 ≤ z ∧ z ≤ 65535 := by
  simp [Lit.wf, IntKind.min, IntKind.max, IntKind.signed, IntKind.bits] at h
  omega
theorem wf_u32 {z : Int} (h : (Lit.int .u32 z).wf = true) : 0 ≤ z ∧ z ≤ 4294967295 := by
  simp [Lit.wf, IntKind.min, IntKind.max, IntKind.signed, IntKind.bits] at h
  omega
theorem wf_u64 {z : Int} (h : (Lit.int .u64 z).wf = true) : 0 ≤ z ∧ z ≤ 18446744073709551615 := by
  simp [Lit.wf, IntKind.min, IntKind.max, IntKind.signed, IntKind.bits] at h
  omega
theorem wf_i16 {z : Int} (h : (Lit.int .i16 z).wf = true) : -32768 ≤ z ∧ z ≤ 32767 := by
  simp [Lit.wf, IntKind.min, IntKind.max, IntKind.signed, IntKind.bits] at h
  omega
theorem wf_i64 {z : Int} (h : (Lit.int .i64 z).wf = true) : -9223372036854775808 ≤ z ∧ z ≤ 9223372036854775807 := by
  simp [Lit.wf, IntKind.min, IntKind.max, IntKind.signed, IntKind.bits] at h
  omega

theorem argB_of {w : World} {x : Addr} {len cap : Nat} {zs : List Int} (hl : len ≤ cap) (hm : cap ≤ maxLen) (hz : zs.length = cap) (hcell : ∀ i, i < zs.length → w.cell? (x.add i) = some (.int .u8 (zs.getD i 0)))
    (hwz : ∀ n ∈ zs, (Lit.int .u8 n).wf = true) : ∃ l, ArgB w (some x) len cap l := by
  have hbv : ∀ z ∈ zs, bv (UInt8.ofNat z.toNat) = .int .u8 z := by
    intro z hz
    obtain ⟨h1, h2⟩ := wf_u8 (hwz z hz)
    unfold bv
    congr 1
    rw [UInt8.toNat_ofNat']
    omega
  have hmap : ((zs.take len).map fun z => UInt8.ofNat z.toNat).map bv = (zs.take len).map (Value.int .u8) := by
    rw [List.map_map]
    apply List.map_congr_left
    intro z hz'
    exact hbv z (List.mem_of_mem_take hz')
  refine ⟨(zs.take len).map fun z => UInt8.ofNat z.toNat, ?_, by simp; omega, hl, hm⟩
  rw [hmap]
  intro hne
  have h0 : 0 < zs.length := by
    rcases Nat.eq_zero_or_pos zs.length with h | h
    · rw [List.length_eq_zero_iff.1 h] at hne; simp at hne
    · exact h
  have hc := hcell 0 h0
  have hspot : x.spot = none := by simpa [Addr.add] using World.cell?_spot hc
  obtain ⟨b, o, s⟩ := x
  simp at hspot
  subst hspot
  refine ⟨b, o, rfl, World.block_lt_of_cell? w _ hc, fun j u hu => ?_⟩
  have hj : j < zs.length := by
    have := (List.getElem?_eq_some_iff.1 hu).1
    simp at this; omega
  have := hcell j hj
  rw [Addr.add_lit] at this
  rw [this]
  rw [List.getElem?_map, List.getElem?_take] at hu
  split at hu
  · simp [List.getElem?_eq_getElem hj] at hu
    rw [← hu]; simp [List.getD, List.getElem?_eq_getElem hj]
  · simp at hu

set_option maxRecDepth 100000 in
theorem open_bytes {H : Type} {enc : TypeId × Value → H} {W : World} {r : Reach} {base base' : Nat} {spare : Nat → Bool} (hsp : ∀ b, spare b = true) {held : Bool} {v : Value} {d : DataW H} {p : List MemPlace} (hv : Value.okWide Tryd.prog W r base 22 v)
    (h : DataW.Trod enc Tryd.prog W base' spare held 22 v d p) : ∃ A n c l, v = .slice A n c ∧ ArgB W A n c l := by
  obtain ⟨A, len, cap, rfl⟩ := okWide_slice Tryd.underlying22 hv
  refine ⟨A, len, cap, ?_⟩
  obtain ⟨fuel, hf⟩ := h
  rcases open_ints Tryd.underlying22 Tryd.underlying5 (by kernel_rfl) hf with ⟨hcs, _⟩ | ⟨x, l, c, zs, hcs, _, hl, hm, hz, _, hcell, hwz⟩
  · simp [Value.cells] at hcs
    obtain ⟨rfl, rfl, rfl⟩ := hcs
    exact ⟨[], rfl, ⟨Sees.nil _ _ _, rfl, Nat.le_refl _, Nat.zero_le _⟩⟩
  · simp [Value.cells] at hcs
    obtain ⟨rfl, rfl, rfl⟩ := hcs
    rw [hsp, if_pos rfl] at hz
    obtain ⟨l, hl'⟩ := argB_of hl hm hz hcell hwz
    exact ⟨l, rfl, hl'⟩
end Go.Proofs.YtfbdfpnmopgkoaaDoor
