/- The walk of bits.Set's Bytes. -/
import Derived.Test.YtfbdfpnmopgkoaaDoorBitsB
import Derived.Test.YtfbdfpnmopgkoaaDoorBytes
namespace Go.Proofs.YtfbdfpnmopgkoaaDoor
open Go.RowKit
set_option linter.unusedVariables false
set_option linter.unusedSimpArgs false

theorem dg_inj {M1 M2 : Nat} (h : dg 64 M1 = dg 64 M2) : M1 = M2 := by
  rw [← vl_dg (t := 64) (by omega) M1, h, vl_dg (by omega)]
theorem dg_some {M k n : Nat} (hn : len2 64 M = n) (hk : k < n) : ∃ x, (dg 64 M)[k]? = some x ∧ x < 18446744073709551616 :=
  ⟨_, dg_get (by rw [hn]; exact hk), Nat.mod_lt _ (by omega)⟩

/-- The bytes of a set. -/
def sbytes (M : Nat) : List UInt8 := (dg 8 M).map UInt8.ofNat
theorem sbytes_length (M : Nat) : (sbytes M).length = len2 8 M := by unfold sbytes; rw [List.length_map, dg_length]
theorem sbyte (M k : Nat) : M / 2 ^ (8 * k) % 2 ^ 8 = (M / 2 ^ (64 * (k / 8)) % 2 ^ 64) / 2 ^ (8 * (k % 8)) % 2 ^ 8 := by
  apply Nat.eq_of_testBit_eq
  intro j
  rw [Nat.testBit_mod_two_pow, Nat.testBit_mod_two_pow, Nat.testBit_div_two_pow, Nat.testBit_div_two_pow, Nat.testBit_mod_two_pow, Nat.testBit_div_two_pow]
  by_cases hj : j < 8
  · have e1 : j + 8 * (k % 8) < 64 := by omega
    have e2 : j + 8 * k = j + 8 * (k % 8) + 64 * (k / 8) := by omega
    simp [hj, e1, e2]
  · simp [hj]
theorem sbytes_get {M k n x : Nat} (hn : len2 8 M = n) (hk : k < n) (hx : M / 2 ^ (64 * (k / 8)) % 2 ^ 64 = x) : (sbytes M)[k]? = some (UInt8.ofNat (x / 2 ^ (8 * (k % 8)))) := by
  unfold sbytes
  rw [List.getElem?_map, dg_get (by rw [hn]; exact hk), sbyte, hx]
  refine congrArg some (UInt8.toNat_inj.1 ?_)
  simp
theorem take_put {α : Type} {l m : List α} {k : Nat} {x : α} (h : l.take k = m.take k) (hm : m[k]? = some x) (hl : k < l.length) : (l.set k x).take (k + 1) = m.take (k + 1) := by
  refine take_next ?_ (List.getElem?_set_self hl) hm
  rw [List.take_set_of_le (Nat.le_refl _)]
  exact h
theorem len2_8_64 (M : Nat) : len2 64 M = (len2 8 M + 7) / 8 := by
  by_cases h : M = 0
  · subst h; rfl
  · rw [len2_pos h, len2_pos h]; omega

theorem u8_shr (x m : Nat) : (x : Int) / 2 ^ m % 256 = ((UInt8.ofNat (x / 2 ^ m)).toNat : Int) := by
  simp
/-- A block of bytes is owned. -/
theorem OwnB.ofBlk {w : World} {g n base : Nat} {l : List UInt8} (h : Blk w g 5 (l.map bv).toArray) (hl : l.length = n) (hm : n ≤ maxLen) (hb : base ≤ g) : OwnB w base (.slice (some ⟨g, 0, none⟩) n n) n l :=
  ⟨by simp [hl], .inr ⟨g, n, (l.map bv).toArray, rfl, hb, h, Nat.le_refl _, hm, by simp [hl], List.take_of_length_le (by simp [hl])⟩⟩

set_option maxRecDepth 100000 in
/-- Set.Bytes. -/
theorem setBytes_any (v : Value) (M : Nat) (w : World) (h : SetAt w w.heap.size v M) :
    Calls Tryd.prog 60 #[v] w fun e w' => ∃ A n c, e = .returned (.slice A n c) ∧ OwnB w' w.heap.size (.slice A n c) n (sbytes M) ∧ Below w.heap.size w w' := by
  have hs := h
  have hgr := fun w' h => greatest_any v M w' h
  obtain ⟨A, n, c, rfl, a1, a2, a3, s, _⟩ := h
  have A3 := Lib.hid a3
  clear a3
  by_cases hM : M = 0
  · rw [show decide (M ≠ 0) = false from by simp [hM]] at hgr
    have HM := Lib.hid hM
    clear hM
    go_enter Tryd.func60, Tryd.ntmps60
    go_wp2_with fail
    refine (hgr _ (hs.on (Below.alloc (Below.refl _ _) (Nat.le_refl _) _))).mono ?_
    rintro e w1 ⟨rfl, bw⟩
    go_wp2_with fail
    go_ret
    refine ⟨none, 0, 0, rfl, ?_, ((Below.refl _ _).alloc (Nat.le_refl _) _).trans (bw.mono (by simp))⟩
    rw [HM.out]
    exact OwnB.nil _ _
  · rw [show decide (M ≠ 0) = true from by simp [hM]] at hgr
    obtain ⟨n', hn', hn1, hn2, hn3⟩ : ∃ n' : Nat, Hid (len2 8 M = n') ∧ ((M.log2 : Nat) : Int) / 8 + 1 = (n' : Int) ∧ n' ≤ 512 ∧ n' ≤ 8 * n := by
      have := len2_8_64 M
      have := A3.out
      have e := len2_pos (t := 8) hM
      refine ⟨len2 8 M, Lib.hid rfl, by omega, by omega, by omega⟩
    have ht0 : 0 ≤ ((M.log2 : Nat) : Int) := by omega
    generalize ((M.log2 : Nat) : Int) = top at hn1 hgr ht0
    clear hM
    go_enter Tryd.func60, Tryd.ntmps60
    go_wp2_with fail
    refine (hgr _ (hs.on (Below.alloc (Below.refl _ _) (Nat.le_refl _) _))).mono ?_
    rintro e w1 ⟨rfl, bw⟩
    have bw' : Below w.heap.size w w1 := ((Below.refl _ _).alloc (Nat.le_refl _) _).trans (bw.mono (by simp))
    have b0 := (Blk.new w 48 #[.slice A n c]).on bw
    have c0 := b0.cell 0
    have hg2 := bw.size
    simp at c0 hg2
    go_wp2_with (refine wpL_mkB _ rfl _ _ rfl _ _ n' rfl rfl (by omega) (by omega) (by omega) ?_
                 intro w2 G2 bw2 z2)
    go_loopw [20] (fun i wr => ∃ (k : Nat) (l : List UInt8), k ≤ n' ∧ i = .int .i64 k ∧ Hid (Blk wr w1.heap.size 5 (l.map bv).toArray) ∧ Hid (l.length = n') ∧ Hid (l.take k = (sbytes M).take k) ∧ Below w1.heap.size w1 wr) (fun i _ => n' - (intOf i).toNat)
    case atStart => exact ⟨0, _, Nat.zero_le _, rfl, G2, Lib.hid (by simp), Lib.hid rfl, bw2⟩
    case round =>
      obtain ⟨k, l, hk, rfl, G, Hl, Ht, bw2⟩ := hrel
      have c0' := (bw2.cell (p := ⟨w.heap.size, 0, none⟩) (by show w.heap.size < _; omega)).trans c0
      by_cases hlt : k < n'
      · obtain ⟨q, hq, hqn⟩ : ∃ q : Nat, (k : Int) / 8 = (q : Int) ∧ Hid (q = k / 8) := ⟨k / 8, by omega, Lib.hid rfl⟩
        obtain ⟨r, hr, hrn⟩ : ∃ r : Nat, (k : Int) % 8 = (r : Int) ∧ Hid (r = k % 8) := ⟨k % 8, by omega, Lib.hid rfl⟩
        have hr8 : r < 8 := by rw [hrn.out]; omega
        have hqm : q < n := by rw [hqn.out]; omega
        obtain ⟨x, hxv, hx1⟩ : ∃ x : Nat, Hid (x = M / 2 ^ (64 * q) % 2 ^ 64) ∧ x < 18446744073709551616 := ⟨_, Lib.hid rfl, Nat.mod_lt _ (by omega)⟩
        have hx : (dg 64 M)[q]? = some x := by rw [hxv.out]; exact dg_get (by rw [A3.out]; exact hqm)
        have s2 := s.on (bw'.trans (bw2.mono bw'.size))
        obtain ⟨b, o, rfl, hb1, hc1⟩ := s2.word hx
        clear hx
        have hcu : wr.cell? ⟨w1.heap.size, k, none⟩ = some (bv (l[k]'(by rw [Hl.out]; exact hlt))) := by
          rw [G.out.cell]; simp [Hl.out, hlt]
        generalize l[k]'(by rw [Hl.out]; exact hlt) = u at hcu
        have hfu := G.out.frozen k
        go_wp2_with fail
        go_roundw
        case rel =>
          have hb := sbytes_get (M := M) (k := k) hn'.out hlt (x := x) (by rw [hxv.out, hqn.out])
          rw [← hrn.out] at hb
          rw [u8_shr x (8 * r)]
          refine ⟨k + 1, l.set k (UInt8.ofNat (x / 2 ^ (8 * r))), by omega, by go_num, G.out.bset k _, Lib.hid (by rw [List.length_set]; exact Hl.out), Lib.hid (take_put Ht.out hb (by rw [Hl.out]; exact hlt)), bw2.setCell (Nat.le_refl _) _⟩
        case measure => simp [intOf]; omega
      · go_wp2_with fail
        go_ret
        obtain rfl : k = n' := by omega
        have e := Ht.out
        rw [List.take_of_length_le (by rw [Hl.out]; omega), List.take_of_length_le (by rw [sbytes_length, hn'.out]; omega)] at e
        subst e
        exact ⟨_, k, k, rfl, OwnB.ofBlk G.out Hl.out (by unfold maxLen; omega) bw'.size, bw'.trans (bw2.mono bw'.size)⟩
end Go.Proofs.YtfbdfpnmopgkoaaDoor
