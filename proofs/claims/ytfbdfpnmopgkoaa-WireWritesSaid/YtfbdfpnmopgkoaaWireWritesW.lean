/- The walk of the law WireWrites: any values are written as described, also after Out. -/
import Derived.Test.YtfbdfpnmopgkoaaArgsVal
import Derived.Test.YtfbdfpnmopgkoaaMvds
namespace Go.Proofs.Ytfbdfpnmopgkoaa.wireWrites
open Go.RowKit
set_option linter.unusedVariables false
set_option linter.unusedSimpArgs false

/-- The encodings of some values. -/
def encs (xs : List Val) : List UInt8 := (xs.map fun x => encV x.k x.u x.s x.b).flatten
theorem encs_snoc (xs : List Val) (x : Val) : encs (xs ++ [x]) = encs xs ++ encV x.k x.u x.s x.b := by unfold encs; simp

set_option maxHeartbeats 4000000 in
set_option maxRecDepth 100000 in
theorem walk (A0 : Option Addr) (n0 c0 : Nat) (xs0 : List Val) (w : World) (w0 : ArgVs w A0 n0 c0 xs0) :
    Calls Try.prog 4 #[.slice A0 n0 c0] w fun e w' => e = .returned (.bool true) ∧ Below w.heap.size w w' := by
  obtain ⟨hn0, hcap, hmax, hrow⟩ := w0
  unfold maxLen at hmax
  obtain ⟨m, hm⟩ : ∃ m, m = min n0 40 := ⟨_, rfl⟩
  have hm1 : m ≤ n0 := by omega
  have hm2 : m ≤ 40 := by omega
  have HM := Lib.hid (show ∀ k : Nat, k < m ↔ k < n0 ∧ k < 40 by omega)
  have Hn0 := Lib.hid hn0; have Hrow := Lib.hid hrow
  clear hn0 hrow hm
  go_enter Try.func4, Try.ntmps4
  go_wp2_with fail
  refine (awake_any w).mono ?_
  rintro e u1 ⟨rfl, b1⟩
  go_wp2_with fail
  refine (newWriter_any u1).mono ?_
  rintro e u2 ⟨rfl, h2, b2⟩
  have hz1 := b1.size
  go_wp2_with fail
  go_loopw [4, 5] (fun v4 v5 wr => ∃ (i : Nat) (A4 : Option Addr) (n4 c4 : Nat) (v : Value) (L : List UInt8), v5 = .int .i64 (i : Nat) ∧ v4 = .slice A4 n4 c4 ∧ i ≤ m ∧ n4 ≤ 10000 * i ∧ Hid (L = encs (xs0.take i)) ∧ WrAt wr u1.heap.size u1.heap.size v L ∧ OwnB wr u1.heap.size (.slice A4 n4 c4) n4 L ∧
    ((Value.slice A4 n4 c4).ownBlock = none ∨ (Value.slice A4 n4 c4).ownBlock ≠ v.ownBlock) ∧ Below u1.heap.size u1 wr) (fun _ v5 _ => m - (intOf v5).toNat)
  case atStart => exact ⟨0, none, 0, 0, .slice none 0 0, [], rfl, rfl, Nat.zero_le _, by omega, Lib.hid rfl, h2, OwnB.nil _ _, .inl rfl, b2⟩
  case round =>
    obtain ⟨i, A4, n4, c4, v, L, rfl, rfl, hi, hn4, HL, hw, ho, hsep, hB⟩ := hrel
    by_cases hlt : i < m
    · obtain ⟨hin, hi40⟩ := (HM.out i).1 hlt
      have hin' : (i : Int) < (n0 : Int) := by omega
      have hi40' : (i : Int) < 40 := by omega
      have hil : i < xs0.length := by rw [Hn0.out]; exact hin
      have hx : xs0[i]? = some xs0[i] := List.getElem?_eq_getElem hil
      obtain ⟨x, hxe⟩ : ∃ x, x = xs0[i] := ⟨_, rfl⟩
      rw [← hxe] at hx
      obtain ⟨b, o, rfl, hbl, q0, q1, q2, q3, hV⟩ := Hrow.out i x hx
      have hbc := bcell (b1.trans (hB.mono hz1))
      have q0 := (hbc.1 b _ hbl).trans q0
      have q1 := (hbc.1 b _ hbl).trans q1
      have q2 := (hbc.1 b _ hbl).trans q2
      have q3 := (hbc.1 b _ hbl).trans q3
      have Hx := Lib.hid hx
      clear hxe hx
      have hB0 := b1.trans (hB.mono hz1)
      have hV' := hV.on hB0 hz1
      have hLl : L.length ≤ 600000000 := by have := ho.len; omega
      go_wp2_with fail
      refine (lput_any u1.heap.size u1.heap.size v L x.k x.u x.s x.A x.n x.c x.b wr hw (Nat.le_refl _) hLl hV').mono ?_
      rintro e w3 ⟨A3, n3, c3, rfl, hn3, He, s3, v3, hw3, m3, r3⟩
      have hfar := own_far ho hw.blk (by decide)
      have ho3 := ho.mvd m3 (fun k hk => ⟨fun e => hfar (by rw [hk, e]), fun e => by
        rcases hsep with h | h
        · rw [h] at hk; cases hk
        · exact h (by rw [hk, e])⟩)
      have hfar3 := own_far ho3 hw3.blk (by decide)
      have hz3 := hw3.base
      have op4 : ∀ A5 c5 w4, OwnB w4 u1.heap.size (.slice A5 (n4 + n3) c5) (n4 + n3) (L ++ encV x.k x.u x.s x.b) → w3.grownBy w4 (Value.slice A4 n4 c4).ownBlock → ((Value.slice A5 (n4 + n3) c5).ownBlock = (Value.slice A4 n4 c4).ownBlock ∨ (Value.slice A5 (n4 + n3) c5).ownBlock = some w3.heap.size) →
          WrAt w4 u1.heap.size u1.heap.size v3 (L ++ encV x.k x.u x.s x.b) ∧ ((Value.slice A5 (n4 + n3) c5).ownBlock = none ∨ (Value.slice A5 (n4 + n3) c5).ownBlock ≠ v3.ownBlock) ∧ Below u1.heap.size u1 w4 := by
        intro A5 c5 w4 o5 g5 r5
        obtain ⟨a1, a2⟩ := rows_apart hsep r3 (fun k hk => (ho.lt k hk).2) (fun k hk => (hw3.own.lt k hk).2) r5
        have b3 : Below u1.heap.size wr w3 := m3.below hw.base (Nat.le_refl _) (fun k hk => (hw.own.lt k hk).1)
        exact ⟨hw3.grown g5 hfar3 a1, a2, below_app (hB.trans b3) hz3 ho3 g5⟩
      go_wp2_with (at_builtin; refine wpL_appB _ rfl (.tmp 21) (.tmp 27) rfl u1.heap.size _ n4 L rfl ho3 _ A3 n3 c3 _ rfl He.out s3 (by omega) hz3 (n4 + n3) rfl _ rfl ?_; intro A5 c5 w4 o5 g5 r5; obtain ⟨hw4, sep4, b4⟩ := op4 A5 c5 w4 o5 g5 r5)
      have hl5 := o5.len
      obtain ⟨n6, hn6⟩ : ∃ n6, n6 = n4 + n3 := ⟨_, rfl⟩
      rw [← hn6] at o5 hl5 sep4 ⊢
      have hn6b : n6 ≤ 10000 * (i + 1) := by omega
      have hz4 := b4.size
      have hOut := out_any u1.heap.size u1.heap.size v3 _ w4 hw4 (by omega)
      rw [hl5] at hOut
      have HN6 := Lib.hid hn6
      have HL5 := Lib.hid hl5
      clear hn6 hl5 op4
      go_wp2_with fail
      refine hOut.mono ?_
      rintro e w5 ⟨A6, c6, rfl, o6, b6⟩
      go_wp2_with fail
      refine (same_yes A6 A5 n6 c6 n6 c5 _ w5 o6.sees (o5.on b6).sees HL5.out HL5.out).mono ?_
      rintro e w6 ⟨rfl, rfl⟩
      go_wp2_with fail
      have hn6i : (n6 : Int) ≤ 400000 := by omega
      have bself : Below w4.heap.size w4 w5 := b6
      go_loopw [37] (fun v37 wx => ∃ (j : Nat) (l' : List UInt8), v37 = .int .i64 (j : Nat) ∧ j ≤ n6 ∧ OwnB wx w4.heap.size (.slice A6 n6 c6) n6 l' ∧ Below w4.heap.size w4 wx) (fun v37 _ => n6 - (intOf v37).toNat)
      case atStart => exact ⟨0, _, rfl, Nat.zero_le _, o6, b6⟩
      case round =>
        obtain ⟨j, l', rfl, hj, og, bx⟩ := hrel
        by_cases hjn : j < n6
        · have hjn' : (j : Int) < (n6 : Int) := by omega
          obtain ⟨gg, rfl, hgg, _, y, hy, hcy, hfy⟩ := og.byte (k := j) hjn
          obtain ⟨z, hz⟩ : ∃ z : UInt8, ((y.toNat : Int) + 1) % 256 = ((z.toNat : Nat) : Int) := ⟨UInt8.ofNat (y.toNat + 1), by rw [UInt8.toNat_ofNat']; omega⟩
          have og2 := og.put (k := j) z
          simp only [bv] at hcy
          go_wp2_with fail
          go_roundw
          case rel => exact ⟨j + 1, _, by go_num, by omega, og2, bx.setCell hgg _⟩
          case measure => simp [intOf]; omega
        · have bxs := bx.size
          have hfin : L ++ encV x.k x.u x.s x.b = encs (xs0.take (i + 1)) := by
            rw [HL.out, List.take_add_one, Hx.out]; exact (encs_snoc _ _).symm
          have HF := Lib.hid hfin
          have hi1 : i + 1 ≤ m := by omega
          clear hfin
          go_wp2_with fail
          go_roundw
          case rel => exact ⟨i + 1, A5, n6, c5, v3, _, by go_num, rfl, hi1, hn6b, HF, hw4.on bx, o5.on bx, sep4, b4.trans (bx.mono hz4)⟩
          case measure => simp [intOf]; omega
    · have him : i = m := by omega
      subst him
      have hLl : L.length = n4 := ho.len
      have hOut := out_any u1.heap.size u1.heap.size v L _ hw (by omega)
      rw [hLl] at hOut
      have HLl := Lib.hid hLl
      have hzz := hB.size
      have hend : ¬ ((i : Int) < (n0 : Int) ∧ (i : Int) < 40) := fun ⟨h1, h2⟩ => hlt ((HM.out i).2 ⟨by omega, by omega⟩)
      clear hLl
      by_cases h1 : (i : Int) < (n0 : Int)
      · have h2 : ¬ (i : Int) < 40 := fun h2 => hend ⟨h1, h2⟩
        clear hend
        go_wp2_with fail
        refine hOut.mono ?_
        rintro e w5 ⟨A6, c6, rfl, o6, b6⟩
        go_wp2_with fail
        refine (same_yes A6 A4 n4 c6 n4 c4 _ w5 o6.sees (ho.on b6).sees HLl.out HLl.out).mono ?_
        rintro e w6 ⟨rfl, rfl⟩
        go_wp2_with fail
        go_ret
        exact ⟨rfl, b1.trans ((hB.trans (b6.mono hzz)).mono hz1)⟩
      · clear hend
        go_wp2_with fail
        refine hOut.mono ?_
        rintro e w5 ⟨A6, c6, rfl, o6, b6⟩
        go_wp2_with fail
        refine (same_yes A6 A4 n4 c6 n4 c4 _ w5 o6.sees (ho.on b6).sees HLl.out HLl.out).mono ?_
        rintro e w6 ⟨rfl, rfl⟩
        go_wp2_with fail
        go_ret
        exact ⟨rfl, b1.trans ((hB.trans (b6.mono hzz)).mono hz1)⟩
end Go.Proofs.Ytfbdfpnmopgkoaa.wireWrites
