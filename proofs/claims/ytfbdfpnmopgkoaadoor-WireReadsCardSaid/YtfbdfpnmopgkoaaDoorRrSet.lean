/- The method Set of the reference's reader, no error yet. -/
import Derived.Test.YtfbdfpnmopgkoaaDoorRrdK
import Derived.Test.YtfbdfpnmopgkoaaDoorMembs
import Derived.Test.YtfbdfpnmopgkoaaDoorWireF
namespace Go.Proofs.YtfbdfpnmopgkoaaDoor
open Go.RowKit
set_option linter.unusedVariables false
set_option linter.unusedSimpArgs false

theorem rdB_le {most : Int} (h0 : 0 ≤ most) (p : List UInt8) : ((rdB most p).1.length : Int) ≤ most := by
  unfold rdB
  split
  · simpa using h0
  · split
    · simpa using h0
    · split
      · simpa using h0
      · split
        · simpa using h0
        · rename_i h _
          show (((p.drop (num p).2).take (num p).1).length : Int) ≤ most
          rw [List.length_take]
          omega
theorem bval_lt (l : List UInt8) : bval l < 2 ^ (8 * l.length) := by
  have := vl_lt 8 (l.map UInt8.toNat) (bytes_lt l)
  rw [List.length_map] at this
  exact this
theorem bval_ne {l : List UInt8} (h : l.getLast? ≠ some 0) (hl : l ≠ []) : bval l ≠ 0 := by
  intro e
  have h1 := dg_bval h
  rw [e, dg_zero] at h1
  exact hl (List.map_eq_nil_iff.1 h1.symm)

set_option maxHeartbeats 4000000 in
set_option maxRecDepth 100000 in
/-- Set. -/
theorem rrSet_any (B g : Nat) (p : List UInt8) (most : Int) (w : World) (h : RrAt w B g p 0) :
    Calls Tryd.prog 42 #[.pointer (some ⟨g, 0, none⟩), .int .i64 most] w fun e w' => ∃ A n c, e = .returned (.slice A n c) ∧ OwnI w' w.heap.size (.slice A n c) n (memZ (rdS most p).1) ∧ RrAt w' B g (rdS most p).2.1 (rdS most p).2.2 ∧ Only w w' g := by
  have hB5 := rrBytes_any B g p 512 w h (by omega)
  have h512 := rdB_le (most := 512) (by omega) p
  have hrd : rdS most p = if (rdB 512 p).2.2 ≠ 0 then (0, (rdB 512 p).2.1, (rdB 512 p).2.2) else if canon (rdB 512 p).1 = false then (0, p, 6)
    else if bval (rdB 512 p).1 ≠ 0 ∧ most < ((bval (rdB 512 p).1).log2 : Nat) then (0, p, 2) else (bval (rdB 512 p).1, (rdB 512 p).2.1, 0) := rfl
  rw [hrd]
  clear hrd
  obtain ⟨out, hout⟩ : ∃ out, out = (rdB 512 p).1 := ⟨_, rfl⟩
  obtain ⟨p2, hp2⟩ : ∃ p2, p2 = (rdB 512 p).2.1 := ⟨_, rfl⟩
  obtain ⟨e2, he2⟩ : ∃ e2, e2 = (rdB 512 p).2.2 := ⟨_, rfl⟩
  rw [← hout, ← hp2, ← he2] at hB5
  rw [← hout] at h512
  rw [← hout, ← hp2, ← he2]
  clear hout hp2 he2
  obtain ⟨A, n, c, hI⟩ := h
  obtain ⟨d0, d1, f0, f1⟩ := hI.cells
  have hmem := memM_memT (bval_lt out)
  have mem0 : memZ 0 = [] := rfl
  have hgB := hI.base
  have back : ∀ w2, Only w w2 g → Sees w2 B A (p.map bv) := fun w2 h2 => hI.sees.below (h2.below hI.sz hgB (fun _ e => by cases e))
  by_cases he : e2 ≠ 0
  · rw [if_pos he, mem0]
    have hb : (e2 != 0) = true := by simpa using he
    clear h512 hmem
    go_enter Tryd.func42, Tryd.ntmps42
    go_wp2_with fail
    refine hB5.mono ?_
    rintro e w1 ⟨A2, n2, c2, rfl, o2, h1, m1⟩
    obtain ⟨A1, n1, c1, h1⟩ := h1
    obtain ⟨q0, q1, q2, q3⟩ := h1.cells
    go_wp2_with fail
    go_ret
    exact ⟨none, 0, 0, rfl, OwnI.nil _ _, ⟨A1, n1, c1, h1⟩, m1⟩
  · obtain rfl : e2 = 0 := by omega
    rw [if_neg (by omega)]
    by_cases h0 : out = []
    · have hcn : canon out = true := by rw [h0]; rfl
      have hbv : bval out = 0 := by rw [h0]; rfl
      rw [hcn, if_neg (by simp), if_neg (by rw [hbv]; simp)]
      have H0 := Lib.hid h0
      have Hbv := Lib.hid hbv
      clear hcn hbv h0
      go_enter Tryd.func42, Tryd.ntmps42
      go_wp2_with fail
      refine hB5.mono ?_
      rintro e w1 ⟨A2, n2, c2, rfl, o2, h1, m1⟩
      obtain ⟨A1, n1, c1, h1⟩ := h1
      obtain ⟨q0, q1, q2, q3⟩ := h1.cells
      go_wp2_with fail
      have L2 := Lib.hid o2.len
      refine (rMembers_any A2 n2 c2 out w1 o2.sees o2.len (by have := o2.len; omega)).mono ?_
      rintro e w2 ⟨A3, n3, c3, rfl, o3, b2⟩
      rw [← L2.out, ← hmem] at o3
      have L3 := Lib.hid (show (memM (bval out)).length = n3 by have := o3.len; simpa using this)
      have h2 := h1.on b2
      obtain ⟨r0, r1, r2, r3⟩ := h2.cells
      have S2 := o2.sees.on b2
      have S3 := o3.sees
      have m2 : Only w w2 g := Only.trans m1 (Mvd.ofBelow b2 g none)
      obtain rfl : n2 = 0 := by rw [← L2.out, H0.out]; rfl
      obtain rfl : n3 = 0 := by rw [← L3.out, Hbv.out]; rfl
      go_wp2_with fail
      go_ret
      exact ⟨A3, 0, c3, rfl, o3.more m1.size, ⟨A1, n1, c1, h2⟩, m2⟩
    · obtain ⟨k, hk⟩ : ∃ k, out.length = k + 1 := ⟨out.length - 1, by have : out.length ≠ 0 := fun e => h0 (List.length_eq_zero_iff.1 e); omega⟩
      obtain ⟨x, hx⟩ : ∃ x, out[k]? = some x := ⟨_, List.getElem?_eq_getElem (by omega)⟩
      have hlast : out.getLast? = some x := by rw [List.getLast?_eq_getElem?, hk]; exact hx
      have Hx := Lib.hid hx
      have HK := Lib.hid hk
      have hkb : (k : Int) ≤ 512 := by omega
      have byt : ∀ W (A2 : Option Addr), Sees W W.heap.size A2 (out.map bv) → ∃ b o, A2 = some ⟨b, o, none⟩ ∧ W.cell? ⟨b, o + k, none⟩ = some (.int .u8 (x.toNat : Int)) := fun W A2 hS => by
        obtain ⟨b, o, y, rfl, _, hy, _, hc⟩ := Sees.byte (k := k) hS (by rw [HK.out]; omega)
        obtain rfl : x = y := by have := hy.out; rw [Hx.out] at this; injection this
        exact ⟨b, o, rfl, hc⟩
      by_cases hx0 : x = 0
      · have hcn : canon out = false := by unfold canon; rw [hlast, hx0]; simp
        rw [hcn, if_pos rfl, mem0]
        have hxb : (((x.toNat : Nat) : Int) == 0) = true := by rw [hx0]; rfl
        clear hx hk hlast hx0 hcn
        go_enter Tryd.func42, Tryd.ntmps42
        go_wp2_with fail
        refine hB5.mono ?_
        rintro e w1 ⟨A2, n2, c2, rfl, o2, h1, m1⟩
        obtain ⟨A1, n1, c1, h1⟩ := h1
        obtain ⟨q0, q1, q2, q3⟩ := h1.cells
        go_wp2_with fail
        have L2 := Lib.hid o2.len
        refine (rMembers_any A2 n2 c2 out w1 o2.sees o2.len (by have := o2.len; omega)).mono ?_
        rintro e w2 ⟨A3, n3, c3, rfl, o3, b2⟩
        rw [← L2.out, ← hmem] at o3
        have L3 := Lib.hid (show (memM (bval out)).length = n3 by have := o3.len; simpa using this)
        have h2 := h1.on b2
        obtain ⟨r0, r1, r2, r3⟩ := h2.cells
        have S2 := o2.sees.on b2
        have S3 := o3.sees
        have m2 : Only w w2 g := Only.trans m1 (Mvd.ofBelow b2 g none)
        obtain rfl : n2 = k + 1 := by rw [← L2.out, HK.out]
        obtain ⟨b, o, rfl, hcb⟩ := byt w2 A2 S2
        go_wp2_with fail
        go_ret
        exact ⟨none, 0, 0, rfl, OwnI.nil _ _, ⟨A, n, c, (h2.setErr 6).setLeft (back _ (m2.setCell _)) hI.len hI.room hI.max hI.big⟩, (m2.setCell _).setCell _⟩
      · have hcn : canon out = true := by unfold canon; rw [hlast]; simp; exact ⟨by omega, hx0⟩
        have hM : bval out ≠ 0 := bval_ne (by rw [hlast]; simpa using hx0) h0
        have hml := memM_last hM
        have hmp := memM_ne hM
        obtain ⟨k3, hk3⟩ : ∃ k3, (memM (bval out)).length = k3 + 1 := ⟨(memM (bval out)).length - 1, by omega⟩
        have lst : ∀ W (A3 : Option Addr), Sees W W.heap.size A3 (((memM (bval out)).map fun x : Nat => (x : Int)).map iv) → ∃ b o, A3 = some ⟨b, o, none⟩ ∧ W.cell? ⟨b, o + k3, none⟩ = some (.int .i64 (((bval out).log2 : Nat) : Int)) := fun W A3 hS => by
          obtain ⟨b, o, z, rfl, _, hz, hc⟩ := Sees.int (k := k3) hS (by rw [List.length_map, hk3]; omega)
          have h3 : (memM (bval out))[k3]? = some (bval out).log2 := by rw [← hml, List.getLast?_eq_getElem?, hk3]; rfl
          have hz := hz.out
          rw [List.getElem?_map, h3] at hz
          injection hz with hz
          subst hz
          exact ⟨b, o, rfl, hc⟩
        have hxb : (((x.toNat : Nat) : Int) == 0) = false := beq_false_of_ne (fun e => hx0 (UInt8.toNat_inj.1 (by simpa using e)))
        have HK3 := Lib.hid hk3
        have hk3b : (k3 : Int) ≤ 5000 := by
          have h1 := memT_len (8 * out.length) (bval out)
          rw [← hmem, hk3] at h1
          omega
        rw [hcn, if_neg (by simp)]
        clear hx hk hlast hx0 hcn hml hmp hk3
        by_cases hov : most < (((bval out).log2 : Nat) : Int)
        · rw [if_pos ⟨hM, hov⟩, mem0]
          go_enter Tryd.func42, Tryd.ntmps42
          go_wp2_with fail
          refine hB5.mono ?_
          rintro e w1 ⟨A2, n2, c2, rfl, o2, h1, m1⟩
          obtain ⟨A1, n1, c1, h1⟩ := h1
          obtain ⟨q0, q1, q2, q3⟩ := h1.cells
          go_wp2_with fail
          have L2 := Lib.hid o2.len
          refine (rMembers_any A2 n2 c2 out w1 o2.sees o2.len (by have := o2.len; omega)).mono ?_
          rintro e w2 ⟨A3, n3, c3, rfl, o3, b2⟩
          rw [← L2.out, ← hmem] at o3
          have L3 := Lib.hid (show (memM (bval out)).length = n3 by have := o3.len; simpa using this)
          have h2 := h1.on b2
          obtain ⟨r0, r1, r2, r3⟩ := h2.cells
          have S2 := o2.sees.on b2
          have S3 := o3.sees
          have m2 : Only w w2 g := Only.trans m1 (Mvd.ofBelow b2 g none)
          obtain rfl : n2 = k + 1 := by rw [← L2.out, HK.out]
          obtain rfl : n3 = k3 + 1 := by rw [← L3.out, HK3.out]
          obtain ⟨b, o, rfl, hcb⟩ := byt w2 A2 S2
          obtain ⟨b3, oo3, rfl, hcb3⟩ := lst w2 A3 S3
          generalize (bval out).log2 = T at hcb3 hov
          go_wp2_with fail
          go_ret
          exact ⟨none, 0, 0, rfl, OwnI.nil _ _, ⟨A, n, c, (h2.setErr 2).setLeft (back _ (m2.setCell _)) hI.len hI.room hI.max hI.big⟩, (m2.setCell _).setCell _⟩
        · rw [if_neg (by rintro ⟨_, e⟩; exact hov e)]
          go_enter Tryd.func42, Tryd.ntmps42
          go_wp2_with fail
          refine hB5.mono ?_
          rintro e w1 ⟨A2, n2, c2, rfl, o2, h1, m1⟩
          obtain ⟨A1, n1, c1, h1⟩ := h1
          obtain ⟨q0, q1, q2, q3⟩ := h1.cells
          go_wp2_with fail
          have L2 := Lib.hid o2.len
          refine (rMembers_any A2 n2 c2 out w1 o2.sees o2.len (by have := o2.len; omega)).mono ?_
          rintro e w2 ⟨A3, n3, c3, rfl, o3, b2⟩
          rw [← L2.out, ← hmem] at o3
          have L3 := Lib.hid (show (memM (bval out)).length = n3 by have := o3.len; simpa using this)
          have h2 := h1.on b2
          obtain ⟨r0, r1, r2, r3⟩ := h2.cells
          have S2 := o2.sees.on b2
          have S3 := o3.sees
          have m2 : Only w w2 g := Only.trans m1 (Mvd.ofBelow b2 g none)
          obtain rfl : n2 = k + 1 := by rw [← L2.out, HK.out]
          obtain rfl : n3 = k3 + 1 := by rw [← L3.out, HK3.out]
          obtain ⟨b, o, rfl, hcb⟩ := byt w2 A2 S2
          obtain ⟨b3, oo3, rfl, hcb3⟩ := lst w2 A3 S3
          generalize (bval out).log2 = T at hcb3 hov
          go_wp2_with fail
          go_ret
          exact ⟨_, k3 + 1, c3, rfl, o3.more m1.size, ⟨A1, n1, c1, h2⟩, m2⟩
end Go.Proofs.YtfbdfpnmopgkoaaDoor
