/- The walk of the law CrcLinear: the checksum of three byte strings of one length, combined by exclusive or, is that of their checksums. -/
import Derived.Test.YtppkimlalceleaaCrcF
import Derived.Test.YtppkimlalceleaaArgs
import Derived.Test.YtppkimlalceleaaStep
import Derived.Deep.RegionWith
namespace Go.Proofs.Ytppkimlalceleaa.crcLinear
open Go.RowKit CrcLaw
set_option linter.unusedVariables false
set_option linter.unusedSimpArgs false

def xor3 (a b c : List UInt8) : List UInt8 := List.zipWith (· ^^^ ·) (List.zipWith (· ^^^ ·) a b) c
theorem xor3_next {a b c : List UInt8} {k : Nat} {x y z : UInt8} (hx : a[k]? = some x) (hy : b[k]? = some y) (hz : c[k]? = some z) :
    xor3 (a.take (k + 1)) (b.take (k + 1)) (c.take (k + 1)) = xor3 (a.take k) (b.take k) (c.take k) ++ [x ^^^ y ^^^ z] := by
  have h1 : (a.take k).length = k := by have := (List.getElem?_eq_some_iff.1 hx).1; simp; omega
  have h2 : (b.take k).length = k := by have := (List.getElem?_eq_some_iff.1 hy).1; simp; omega
  have h3 : (c.take k).length = k := by have := (List.getElem?_eq_some_iff.1 hz).1; simp; omega
  unfold xor3
  rw [List.take_add_one, List.take_add_one, List.take_add_one, hx, hy, hz]
  rw [List.zipWith_append (by rw [h1, h2]), List.zipWith_append (by simp [h1, h2, h3])]
  rfl
theorem xor3_val (x y z : UInt8) : Value.int IntKind.u8 (bits BinOp.xor IntKind.u8 (bits BinOp.xor IntKind.u8 (x.toNat : Int) (y.toNat : Int)) (z.toNat : Int)) = bv (x ^^^ y ^^^ z) := by
  unfold bv
  have hx := x.toNat_lt; have hy := y.toNat_lt; have hz := z.toNat_lt
  rw [u8_xor_nat _ _ hx hy, u8_xor_nat _ _ (Nat.xor_lt_two_pow (n := 8) hx hy) hz, UInt8.toNat_xor, UInt8.toNat_xor]

theorem run_min4 {P : Program} (ts : Array TypeId) (t : TypeId) (a b c d n : Int) (h : n = min (min (min a b) c) d) (W : World) :
    Sem.run P (Builtin.min_ ts t #[.int .i64 a, .int .i64 b, .int .i64 c, .int .i64 d]) W = .ok (.int .i64 n) W := by
  have e : ∀ x y : Int, (if y < x then y else x) = min x y := fun x y => by
    by_cases hxy : y < x
    · rw [if_pos hxy]; omega
    · rw [if_neg hxy]; omega
  simp only [Builtin.min_, List.foldlM, Builtin.min2, e, pure_bind]
  rw [h]
  rfl

theorem walk (A0 : Option Addr) (n0 c0 : Nat) (l0 : List UInt8) (A1 : Option Addr) (n1 c1 : Nat) (l1 : List UInt8) (A2 : Option Addr) (n2 c2 : Nat) (l2 : List UInt8) (w : World) (w0 : ArgB w A0 n0 c0 l0) (w1 : ArgB w A1 n1 c1 l1) (w2 : ArgB w A2 n2 c2 l2) :
    Calls Try.prog 5 #[.slice A0 n0 c0, .slice A1 n1 c1, .slice A2 n2 c2] w fun e w' => e = .returned (.bool true) ∧ Below w.heap.size w w' := by
  obtain ⟨s0, hn0, hcap0, hmax0⟩ := w0
  obtain ⟨s1, hn1, hcap1, hmax1⟩ := w1
  obtain ⟨s2, hn2, hcap2, hmax2⟩ := w2
  unfold maxLen at hmax0 hmax1 hmax2
  obtain ⟨n, hn⟩ : ∃ n : Nat, n = min (min (min n0 n1) n2) 2000 := ⟨_, rfl⟩
  have Hn0 := Lib.hid hn0; have Hn1 := Lib.hid hn1; have Hn2 := Lib.hid hn2; clear hn0 hn1 hn2
  have hmin : ∀ W : World, Sem.run Try.prog (Builtin.min_ #[3, 3, 3, 3] 3 #[Value.int IntKind.i64 (n0 : Int), Value.int IntKind.i64 (n1 : Int), Value.int IntKind.i64 (n2 : Int), Value.int IntKind.i64 2000]) W = .ok (.int .i64 (n : Int)) W := fun W => run_min4 _ _ _ _ _ _ _ (by rw [hn]; omega) W
  have g0 : n ≤ n0 := by omega
  have g1 : n ≤ n1 := by omega
  have g2 : n ≤ n2 := by omega
  have g3 : n ≤ 2000 := by omega
  have Hn := Lib.hid hn; clear hn
  go_enter Try.func5, Try.ntmps5
  go_wp2_with fail
  refine (awake_any _).mono ?_
  rintro e w1 ⟨rfl, b1⟩
  go_wp2_with fail
  go_loopw [8, 20] (fun v i wr => ∃ (k : Nat) (A : Option Addr) (c : Nat), k ≤ n ∧ i = .int .i64 (k : Nat) ∧ v = .slice A k c ∧ OwnB wr w.heap.size (.slice A k c) k (xor3 (l0.take k) (l1.take k) (l2.take k)) ∧ Below w.heap.size w wr) (fun _ i _ => n - (intOf i).toNat)
  case atStart => exact ⟨0, none, 0, Nat.zero_le _, rfl, rfl, OwnB.nil _ _, b1⟩
  case round =>
    obtain ⟨k, A, c, hk, rfl, rfl, hown, hB⟩ := hrel
    by_cases hlt : k < n
    · have hzz : w.heap.size ≤ wr.heap.size := hB.size
      obtain ⟨B0, o0, x, rfl, hb0, Hx, hx, hc0⟩ := Sees.byte (k := k) (s0.on hB) (by rw [Hn0.out]; omega)
      obtain ⟨B1, o1, y, rfl, hb1, Hy, hy, hc1⟩ := Sees.byte (k := k) (s1.on hB) (by rw [Hn1.out]; omega)
      obtain ⟨B2, o2, z, rfl, hb2, Hz, hz, hc2⟩ := Sees.byte (k := k) (s2.on hB) (by rw [Hn2.out]; omega)
      have i0 : (k : Int) < (n0 : Int) := by omega
      have i1 : (k : Int) < (n1 : Int) := by omega
      have i2 : (k : Int) < (n2 : Int) := by omega
      have hO : OwnB ((wr.alloc (.cells #[Value.int IntKind.u8 (bits BinOp.xor IntKind.u8 (bits BinOp.xor IntKind.u8 (x.toNat : Int) (y.toNat : Int)) (z.toNat : Int))] 5)).drew) w.heap.size (.slice A k c) k _ := hown.alloc _
      have hS : Sees ((wr.alloc (.cells #[Value.int IntKind.u8 (bits BinOp.xor IntKind.u8 (bits BinOp.xor IntKind.u8 (x.toNat : Int) (y.toNat : Int)) (z.toNat : Int))] 5)).drew) _ (some ⟨wr.heap.size, 0, none⟩) ([x ^^^ y ^^^ z].map bv) := Sees.laid wr _ 5 (0, 0) _ (by rw [xor3_val]; rfl) _ rfl
      have hZ : w.heap.size ≤ ((wr.alloc (.cells #[Value.int IntKind.u8 (bits BinOp.xor IntKind.u8 (bits BinOp.xor IntKind.u8 (x.toNat : Int) (y.toNat : Int)) (z.toNat : Int))] 5)).drew).heap.size := by simp; omega
      have hX := (xor3_next Hx.out Hy.out Hz.out).symm
      clear hmin
      go_wp2_with fail
      go_region_law (refine step_appB _ rfl (.tmp 23) (.tmp 38) rfl w.heap.size _ k _ rfl hO _ _ 1 1 [x ^^^ y ^^^ z] rfl rfl hS (by omega) hZ (k + 1) rfl _ hX ?_; intro A' c' w1 hown1 hg _)
      all_goals
        go_wp2_with fail
        go_roundw
        case rel => exact ⟨k + 1, A', c', by omega, by go_num, rfl, hown1, below_app (hB.drew.alloc hzz _) hZ hO hg⟩
        case measure => simp [intOf]; omega
    · have hkn : k = n := by omega
      have L0 := Lib.hid (show (l0.take n).length = n by simp [Hn0.out]; omega)
      have L1 := Lib.hid (show (l1.take n).length = n by simp [Hn1.out]; omega)
      have L2 := Lib.hid (show (l2.take n).length = n by simp [Hn2.out]; omega)
      subst hkn
      have t0 : Sees wr wr.heap.size A0 ((l0.take k).map bv) := by rw [List.map_take]; exact (s0.on hB).take_ k
      have t1 : Sees wr wr.heap.size A1 ((l1.take k).map bv) := by rw [List.map_take]; exact (s1.on hB).take_ k
      have t2 : Sees wr wr.heap.size A2 ((l2.take k).map bv) := by rw [List.map_take]; exact (s2.on hB).take_ k
      have tx := hown.sees
      have Lx := Lib.hid hown.len
      have f0 : (0 : Int) ≤ (k : Int) := by omega
      have f1 : (k : Int) ≤ (c0 : Int) := by omega
      have f2 : (k : Int) ≤ (c1 : Int) := by omega
      have f3 : (k : Int) ≤ (c2 : Int) := by omega
      have Hsum := Lib.hid (csum_xor3 (l0.take k) (l1.take k) (l2.take k) (by rw [L0.out, L1.out]) (by rw [L1.out, L2.out]))
      have q1 := u32_xor_nat (csum (l0.take k)) (csum (l1.take k)) (csum_lt _) (csum_lt _)
      have q2 := u32_xor_nat (csum (l0.take k) ^^^ csum (l1.take k)) (csum (l2.take k)) (Nat.xor_lt_two_pow (n := 32) (csum_lt _) (csum_lt _)) (csum_lt _)
      clear hmin
      go_wp2_with fail
      go_quiet ((first
        | (go_at_call_of 16 A; exact quiet_same1 (sum_any A k c _ _ (tx.dn _) Lx.out (by omega)))
        | (go_at_call_of 16 A0; exact quiet_same1 (sum_any A0 k c0 _ _ (t0.dn _) L0.out (by omega)))
        | (go_at_call_of 16 A1; exact quiet_same1 (sum_any A1 k c1 _ _ (t1.dn _) L1.out (by omega)))
        | (go_at_call_of 16 A2; exact quiet_same1 (sum_any A2 k c2 _ _ (t2.dn _) L2.out (by omega)))))
      go_wp2_with fail
      go_ret
      refine ⟨ret_bool ?_, below_drewN hB _⟩
      rw [beq_iff_eq]
      exact congrArg _ Hsum.out
end Go.Proofs.Ytppkimlalceleaa.crcLinear
