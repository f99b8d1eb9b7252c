/- The walk of the law WireBack: any values that were written are read back, with nothing left. -/
import Derived.Test.YtfbdfpnmopgkoaaArgsVal
import Derived.Test.YtfbdfpnmopgkoaaMvds
import Derived.Test.YtfbdfpnmopgkoaaBackP
namespace Go.Proofs.Ytfbdfpnmopgkoaa.wireBack
open Go.RowKit
set_option linter.unusedVariables false
set_option linter.unusedSimpArgs false

/-- The encodings of some values. -/
def encs (xs : List Val) : List UInt8 := (xs.map fun x => encV x.k x.u x.s x.b).flatten
theorem encs_snoc (xs : List Val) (x : Val) : encs (xs ++ [x]) = encs xs ++ encV x.k x.u x.s x.b := by unfold encs; simp
theorem encs_cons (x : Val) (xs : List Val) : encs (x :: xs) = encV x.k x.u x.s x.b ++ encs xs := by unfold encs; simp

set_option maxHeartbeats 4000000 in
set_option maxRecDepth 100000 in
theorem walk (A0 : Option Addr) (n0 c0 : Nat) (xs0 : List Val) (a1 : Int) (w : World) (w0 : ArgVs w A0 n0 c0 xs0) (w1 : (Lit.int .u8 a1).wf = true) :
    Calls Try.prog 9 #[.slice A0 n0 c0, .int .u8 a1] w fun e w' => e = .returned (.bool true) ∧ Below w.heap.size w w' := by
  obtain ⟨z1, z2⟩ := wf_u8 w1
  obtain ⟨yb, hyb⟩ : ∃ yb : UInt8, a1 = ((yb.toNat : Nat) : Int) := ⟨UInt8.ofNat a1.toNat, by rw [UInt8.toNat_ofNat']; omega⟩
  subst hyb
  clear w1
  obtain ⟨hn0, hcap, hmax, hrow⟩ := w0
  unfold maxLen at hmax
  obtain ⟨m, hm⟩ : ∃ m, m = min n0 20 := ⟨_, rfl⟩
  have hm1 : m ≤ n0 := by omega
  have hm2 : m ≤ 20 := by omega
  have Hm := Lib.hid hm
  have Hn0 := Lib.hid hn0; have Hrow := Lib.hid hrow
  have hm3 : m ≤ c0 := by omega
  clear hn0 hrow hm
  go_enter Try.func9, Try.ntmps9
  go_wp2_with fail
  refine (awake_any w).mono ?_
  rintro e u1 ⟨rfl, b1⟩
  go_wp2_with fail
  refine (newWriter_any u1).mono ?_
  rintro e u2 ⟨rfl, h2, b2⟩
  have hz1 := b1.size
  go_wp2_with (with_reducible refine wpL_min2 _ rfl (.tmp 17) (.const (.int .i64 20)) _ rfl _ _ rfl rfl (m : Int) (by have := Hm.out; omega) ?_)
  go_loopw [22] (fun v22 wr => ∃ (i : Nat) (v : Value) (L : List UInt8), v22 = .int .i64 (i : Nat) ∧ i ≤ m ∧ L.length ≤ 10000 * i ∧ Hid (L = encs (xs0.take i)) ∧ WrAt wr u1.heap.size u1.heap.size v L ∧ Below u1.heap.size u1 wr) (fun v22 _ => m - (intOf v22).toNat)
  case atStart => exact ⟨0, .slice none 0 0, [], rfl, Nat.zero_le _, by simp, Lib.hid rfl, h2, b2⟩
  case round =>
    obtain ⟨i, v, L, rfl, hi, hLn, HL, hw, hB⟩ := hrel
    have hzr := hB.size
    by_cases hlt : i < m
    · have hlt' : (i : Int) < (m : Int) := by omega
      have hil : i < xs0.length := by rw [Hn0.out]; omega
      have hx : xs0[i]? = some xs0[i] := List.getElem?_eq_getElem hil
      obtain ⟨x, hxe⟩ : ∃ x, x = xs0[i] := ⟨_, rfl⟩
      rw [← hxe] at hx
      obtain ⟨b, o, rfl, hbl, q0, q1, q2, q3, hV⟩ := Hrow.out i x hx
      have hbc := bcell (b1.trans (hB.mono hz1))
      have q0 := (hbc.1 b _ hbl).trans q0
      have q1 := (hbc.1 b _ hbl).trans q1
      have q2 := (hbc.1 b _ hbl).trans q2
      have q3 := (hbc.1 b _ hbl).trans q3
      have Hx := Lib.hid hx
      clear hxe hx
      have hB0 := b1.trans (hB.mono hz1)
      have hV' := hV.on hB0 hz1
      have hVb := hV'.on (show Below u1.heap.size wr (wr.alloc (.cells #[.int .u8 (x.k : Int), .int .u64 (x.u : Int), .int .i64 x.s, .slice x.A x.n x.c] 41)) from (Below.refl _ _).alloc hzr _) (Nat.le_refl _)
      have ba : Below wr.heap.size wr (wr.alloc (.cells #[.int .u8 (x.k : Int), .int .u64 (x.u : Int), .int .i64 x.s, .slice x.A x.n x.c] 41)) := (Below.refl _ _).alloc (Nat.le_refl _) _
      have hwb := hw.on ba
      go_wp2_with fail
      refine (lput_any u1.heap.size u1.heap.size v L x.k x.u x.s x.A x.n x.c x.b _ hwb (Nat.le_refl _) (by omega) hVb).mono ?_
      rintro e w3 ⟨A3, n3, c3, rfl, hn3, He, s3, v3, hw3, m3, r3⟩
      have b3 : Below u1.heap.size u1 w3 := (hB.trans (ba.mono hzr)).trans (m3.below hwb.base (Nat.le_refl _) (fun k hk => (hwb.own.lt k hk).1))
      have hfin : L ++ encV x.k x.u x.s x.b = encs (xs0.take (i + 1)) := by
        rw [HL.out, List.take_add_one, Hx.out]; exact (encs_snoc _ _).symm
      have HF := Lib.hid hfin
      have hlen3 : (L ++ encV x.k x.u x.s x.b).length ≤ 10000 * (i + 1) := by rw [List.length_append, He.out]; omega
      clear hfin
      go_wp2_with fail
      go_roundw
      case rel => exact ⟨i + 1, v3, _, by go_num, by omega, hlen3, HF, hw3, b3⟩
      case measure => simp [intOf]; omega
    · have him : i = m := by omega
      subst him
      obtain ⟨nL, hnL⟩ : ∃ nL, nL = L.length := ⟨_, rfl⟩
      have hOut := out_any u1.heap.size u1.heap.size v L _ hw (by omega)
      rw [← hnL] at hOut hLn
      have HnL := Lib.hid hnL.symm
      clear hnL
      go_wp2_with fail
      refine hOut.mono ?_
      rintro e w3 ⟨A3, c3, rfl, o3, b3⟩
      have hw3 := hw.on b3
      go_wp2_with fail
      refine (newReader_any A3 nL c3 L w3 o3.sees HnL.out (by omega)).mono ?_
      rintro e w4 ⟨g1, rfl, hg1, hr1, b4⟩
      have hw4 := hw3.on b4
      have hOut2 := out_any u1.heap.size u1.heap.size v L _ hw4 (by rw [HnL.out]; omega)
      rw [HnL.out] at hOut2
      go_wp2_with fail
      refine hOut2.mono ?_
      rintro e w5 ⟨A5, c5, rfl, o5, b5⟩
      have b45 := b4.trans (b5.mono b4.size)
      have hz5 := b5.size
      go_wp2_with (at_builtin; refine wpL_appB _ rfl (.tmp 34) (.tmp 36) rfl w4.heap.size _ nL L rfl (o5.alloc _) _ _ 1 1 [yb] rfl rfl (Sees.one w5 (bv yb) 5 _ rfl) (by omega) (by rw [World.size_alloc]; omega) (nL + 1) rfl _ rfl ?_; intro A6 c6 w6 o6 g6 _; have b46 : Below w4.heap.size w4 w6 := below_app (b5.alloc hz5 _) (by rw [World.size_alloc]; omega) (o5.alloc _) g6)
      have hl6 : (L ++ [yb]).length = nL + 1 := o6.len
      refine (newReader_any A6 (nL + 1) c6 (L ++ [yb]) w6 o6.sees hl6 (by omega)).mono ?_
      rintro e w7 ⟨g2, rfl, hg2, hr2, b7⟩
      have hr1c := (hr1.on b46).on b7
      have hz3 := b3.size
      have hz4 := b4.size
      have hz6 := b46.size
      have hz7 := b7.size
      obtain ⟨Ag, ng, cg, hIg⟩ := id hr1
      have hg1l := hIg.blk.lt
      clear hIg
      have hg12 : g1 ≠ g2 := by omega
      have bu7 : Below u1.heap.size u1 w7 := (((hB.trans (b3.mono hzr)).trans (b4.mono (by omega))).trans (b46.mono (by omega))).trans (b7.mono (by omega))
      have HLL := HL
      have hu1g1 : u1.heap.size ≤ g1 := by omega
      have hu1g2 : u1.heap.size ≤ g2 := by omega
      clear hOut hOut2 hl6
      go_wp2_with fail
      go_loopw [41] (fun v41 wx => ∃ (j : Nat), v41 = .int .i64 (j : Nat) ∧ j ≤ i ∧ RdAt wx g1 (encs ((xs0.take i).drop j)) 0 ∧ RdAt wx g2 (encs ((xs0.take i).drop j) ++ [yb]) 0 ∧ Below u1.heap.size u1 wx) (fun v41 _ => i - (intOf v41).toNat)
      case atStart => exact ⟨0, rfl, Nat.zero_le _, by rw [List.drop_zero, ← HL.out]; exact hr1c, by rw [List.drop_zero, ← HL.out]; exact hr2, bu7⟩
      case round =>
        obtain ⟨j, rfl, hj, ra, rb, hBx⟩ := hrel
        have hzx := hBx.size
        by_cases hji : j < i
        · have hji' : (j : Int) < (i : Int) := by omega
          have hjl : j < xs0.length := by rw [Hn0.out]; omega
          have hx : xs0[j]? = some xs0[j] := List.getElem?_eq_getElem hjl
          have hdrop : (xs0.take i).drop j = xs0[j] :: (xs0.take i).drop (j + 1) := by
            rw [List.drop_eq_getElem_cons (by rw [List.length_take]; omega), List.getElem_take]
          obtain ⟨x, hxe⟩ : ∃ x, x = xs0[j] := ⟨_, rfl⟩
          rw [← hxe] at hx hdrop
          rw [hdrop, encs_cons] at ra rb
          rw [List.append_assoc] at rb
          obtain ⟨b, o, rfl, hbl, q0, q1, q2, q3, hV⟩ := Hrow.out j x hx
          have hbc := bcell (b1.trans (hBx.mono hz1))
          have q0 := (hbc.1 b _ hbl).trans q0
          have q1 := (hbc.1 b _ hbl).trans q1
          have q2 := (hbc.1 b _ hbl).trans q2
          have q3 := (hbc.1 b _ hbl).trans q3
          clear hxe hx hdrop
          have hB0 := b1.trans (hBx.mono hz1)
          have hVr := hV.on hB0 (Nat.le_refl _)
          have bb := Blk.new wr 41 #[.int .u8 (x.k : Int), .int .u64 (x.u : Int), .int .i64 x.s, .slice x.A x.n x.c]
          have ba : Below wr.heap.size wr (wr.alloc (.cells #[.int .u8 (x.k : Int), .int .u64 (x.u : Int), .int .i64 x.s, .slice x.A x.n x.c] 41)) := (Below.refl _ _).alloc (Nat.le_refl _) _
          have ra1 := ra.on ba
          have rb1 := rb.on ba
          obtain ⟨Aa, na, ca, hIa⟩ := id ra
          have hg1x := hIa.blk.lt
          obtain ⟨Ab, nb, cb, hIb⟩ := id rb
          have hg2x := hIb.blk.lt
          clear hIa hIb
          have hzA : wr.heap.size < (wr.alloc (.cells #[.int .u8 (x.k : Int), .int .u64 (x.u : Int), .int .i64 x.s, .slice x.A x.n x.c] 41)).heap.size := by simp
          have k1 := lback_any g1 _ x.k x.u x.s x.A x.n x.c x.b _ ra1 ((hV.on (hB0.trans (ba.mono (by have := hB0.size; omega))) (Nat.le_refl _)).on (Below.refl _ _) (by have := hB0.size; omega))
          rw [bkV_back x.b _ hV.num hV.lo hV.hi] at k1
          go_wp2_with fail
          refine k1.mono ?_
          rintro e w8 ⟨rfl, ra8, m8⟩
          have rb8 := rb1.beside ra1 m8 (Ne.symm hg12)
          have bb8 := bb.only m8 (by omega)
          have hz8 := m8.size
          have x0 : w8.cell? ⟨wr.heap.size, 0, none⟩ = some (.int .u8 (x.k : Int)) := (bb8.cell 0).trans rfl
          have x1 : w8.cell? ⟨wr.heap.size, 1, none⟩ = some (.int .u64 (x.u : Int)) := (bb8.cell 1).trans rfl
          have x2 : w8.cell? ⟨wr.heap.size, 2, none⟩ = some (.int .i64 x.s) := (bb8.cell 2).trans rfl
          have x3 : w8.cell? ⟨wr.heap.size, 3, none⟩ = some (.slice x.A x.n x.c) := (bb8.cell 3).trans rfl
          have b18 : Below u1.heap.size u1 w8 := (hBx.trans (ba.mono hzx)).trans (m8.below (by omega) hu1g1 (fun k hk => by cases hk))
          have k2 := lback_any g2 _ x.k x.u x.s x.A x.n x.c x.b _ rb8 ((hV.on (b1.trans (b18.mono hz1)) (Nat.le_refl _)).on (Below.refl _ _) (by have := b18.size; omega))
          rw [bkV_back x.b _ hV.num hV.lo hV.hi] at k2
          go_wp2_with fail
          refine k2.mono ?_
          rintro e w9 ⟨rfl, rb9, m9⟩
          have ra9 := ra8.beside rb8 m9 hg12
          have b19 : Below u1.heap.size u1 w9 := b18.trans (m9.below b18.size hu1g2 (fun k hk => by cases hk))
          have hfin : j + 1 ≤ i := by omega
          go_wp2_with fail
          refine (err_any g1 _ 0 w9 ra9).mono ?_
          rintro e wq ⟨rfl, rfl⟩
          go_wp2_with fail
          refine (err_any g2 _ 0 w9 rb9).mono ?_
          rintro e wq ⟨rfl, rfl⟩
          go_wp2_with fail
          go_roundw
          case rel => exact ⟨j + 1, by go_num, hfin, ra9, rb9, b19⟩
          case measure => simp [intOf]; omega
        · have hji2 : j = i := by omega
          subst hji2
          rw [List.drop_eq_nil_of_le (by rw [List.length_take]; omega)] at ra rb
          have ra : RdAt wr g1 [] 0 := ra
          have rb : RdAt wr g2 [yb] 0 := rb
          have bwr := b1.trans (hBx.mono hz1)
          go_wp2_with fail
          refine (left_any g1 _ 0 wr ra).mono ?_
          rintro e wq ⟨rfl, rfl⟩
          go_wp2_with fail
          refine (end_ok g1 wr ra).mono ?_
          rintro e wq ⟨rfl, rfl⟩
          go_wp2_with fail
          refine (left_any g2 _ 0 wr rb).mono ?_
          rintro e wq ⟨rfl, rfl⟩
          go_wp2_with fail
          have hend := end_any g2 _ 0 wr rb
          rw [if_pos ⟨rfl, by simp⟩] at hend
          refine hend.mono ?_
          rintro e wq ⟨rfl, rfl⟩
          go_wp2_with fail
          refine (err_any g2 _ 0 wr rb).mono ?_
          rintro e wq ⟨rfl, rfl⟩
          go_wp2_with fail
          go_ret
          exact ⟨rfl, bwr⟩
end Go.Proofs.Ytfbdfpnmopgkoaa.wireBack
