/- The walks of crc.put, get, Frame, Next and of the reference's four, Frame; what a frame is. -/
import Derived.Test.YtppkimlalceleaaCrcA
import Derived.WalkLawsBesides
namespace Go.Proofs.Ytppkimlalceleaa
open Go.RowKit CrcLaw
set_option linter.unusedVariables false
set_option linter.unusedSimpArgs false

theorem le32_cells (x : Nat) (hx : x < 4294967296) : [Value.int .u8 ((x : Int) % 256), Value.int .u8 ((x : Int) / 256 % 256), Value.int .u8 ((x : Int) / 65536 % 256), Value.int .u8 ((x : Int) / 16777216)] = (le32 x).map bv := by
  have e3 : (x : Int) / 16777216 = (x : Int) / 16777216 % 256 := by omega
  rw [e3]
  simp [le32, bv]

/-- crc.put. -/
theorem put_any (v : Value) (n : Nat) (l : List UInt8) (x base : Nat) (w : World) (m : Nat) (l' : List UInt8) (hx : x < 4294967296) (hown : OwnB w base v n l) (hbase : base ≤ w.heap.size) (hb : n ≤ 100000000) (hm : n + 4 = m) (hl' : l ++ le32 x = l') :
    Calls Try.prog 41 #[v, .int .u32 (x : Int)] w fun e w' => ∃ A' c', e = .returned (.slice A' m c') ∧ OwnB w' base (.slice A' m c') m l' ∧ Below base w w' := by
  have hO := OwnB.lit w #[Value.int .u8 ((x : Int) % 256), Value.int .u8 ((x : Int) / 256 % 256), Value.int .u8 ((x : Int) / 65536 % 256), Value.int .u8 ((x : Int) / 16777216)] 4 (le32 x) (by unfold maxLen; omega) rfl (le32_cells x hx)
  have Hm := Lib.hid hm; clear hm
  have Hl := Lib.hid hl'; clear hl'
  go_enter Try.func41, Try.ntmps41
  go_wp2_with (at_builtin; refine wpL_appB _ rfl (.tmp 5) (.tmp 17) rfl base v n l rfl (hown.alloc _) _ _ 4 4 (le32 x) rfl rfl hO.sees (by omega) (by simp; omega) m Hm.out l' Hl.out ?_; intro A' c' w1 hown1 hg _)
  go_ret
  exact ⟨A', c', rfl, hown1, below_app ((Below.refl _ _).alloc hbase _) (by simp; omega) (hown.alloc _) hg⟩

/-- arbacref04.four. -/
theorem four_any (x : Nat) (w : World) (hx : x < 4294967296) :
    Calls Try.prog 43 #[.int .u32 (x : Int)] w fun e w' => ∃ A' c', e = .returned (.slice A' 4 c') ∧ OwnB w' w.heap.size (.slice A' 4 c') 4 (le32 x) ∧ Below w.heap.size w w' := by
  have hO := OwnB.lit w #[Value.int .u8 ((x : Int) % 256), Value.int .u8 ((x : Int) / 256 % 256), Value.int .u8 ((x : Int) / 65536 % 256), Value.int .u8 ((x : Int) / 16777216)] 4 (le32 x) (by unfold maxLen; omega) rfl (le32_cells x hx)
  go_enter Try.func43, Try.ntmps43
  go_wp2
  go_ret
  exact ⟨_, _, rfl, hO, (Below.refl _ _).alloc (Nat.le_refl _) _⟩

theorem or4_u32 {a b c d : Nat} (ha : a < 256) (hb : b < 256) (hc : c < 256) (hd : d < 256) :
    bits BinOp.or IntKind.u32 (bits BinOp.or IntKind.u32 (bits BinOp.or IntKind.u32 (a : Int) ((b : Int) * 256)) ((c : Int) * 65536)) ((d : Int) * 16777216) = ((a + 256 * b + 65536 * c + 16777216 * d : Nat) : Int) := by
  have e1 : ((b : Int) * 256) = ((b * 256 : Nat) : Int) := by omega
  have e2 : ((c : Int) * 65536) = ((c * 65536 : Nat) : Int) := by omega
  have e3 : ((d : Int) * 16777216) = ((d * 16777216 : Nat) : Int) := by omega
  rw [e1, e2, e3, u32_or_nat _ _ (by omega) (by omega)]
  have j1 : a ||| b * 256 = a + b * 256 := by rw [Nat.or_comm, nat_join 8 _ _ (by omega) (by omega)]; omega
  rw [j1, u32_or_nat _ _ (by omega) (by omega)]
  have j2 : a + b * 256 ||| c * 65536 = a + b * 256 + c * 65536 := by rw [Nat.or_comm, nat_join 16 _ _ (by omega) (by omega)]; omega
  rw [j2, u32_or_nat _ _ (by omega) (by omega)]
  have j3 : a + b * 256 + c * 65536 ||| d * 16777216 = a + b * 256 + c * 65536 + d * 16777216 := by rw [Nat.or_comm, nat_join 24 _ _ (by omega) (by omega)]; omega
  rw [j3]
  omega

/-- crc.get. -/
theorem get_any (A : Option Addr) (n cap : Nat) (l : List UInt8) (w : World) (m : Nat) (h : Sees w w.heap.size A (l.map bv)) (hn : l.length = n) (h4 : 4 ≤ n) (hm : num32 l = m) :
    Calls Try.prog 42 #[.slice A n cap] w fun e w' => e = .returned (.int .u32 (m : Nat)) ∧ ∃ q, w' = w.drewN q := by
  subst hm
  match l, hn with
  | x0 :: x1 :: x2 :: x3 :: r, hn =>
    obtain ⟨b, o, rfl, hb, hc⟩ := h (by simp)
    have h0 : w.cell? ⟨b, o, none⟩ = some (.int .u8 (x0.toNat : Int)) := by have := hc 0 _ rfl; rwa [Nat.add_zero] at this
    have h1 : w.cell? ⟨b, o + 1, none⟩ = some (.int .u8 (x1.toNat : Int)) := hc 1 _ rfl
    have h2 : w.cell? ⟨b, o + 2, none⟩ = some (.int .u8 (x2.toNat : Int)) := hc 2 _ rfl
    have h3 : w.cell? ⟨b, o + 3, none⟩ = some (.int .u8 (x3.toNat : Int)) := hc 3 _ rfl
    have b0 := x0.toNat_lt; have b1 := x1.toNat_lt; have b2 := x2.toNat_lt; have b3 := x3.toNat_lt
    have i0 : (0 : Int) < (n : Int) := by omega
    have i1 : (1 : Int) < (n : Int) := by omega
    have i2 : (2 : Int) < (n : Int) := by omega
    have i3 : (3 : Int) < (n : Int) := by omega
    clear hn hc h
    go_enter Try.func42, Try.ntmps42
    go_wp2_with fail
    go_quiet (fail)
    go_wp2_with fail
    go_ret
    exact ⟨ret_int (or4_u32 b0 b1 b2 b3), _, rfl⟩
  | [], hn => simp at hn; omega
  | [_], hn => simp at hn; omega
  | [_, _], hn => simp at hn; omega
  | [_, _, _], hn => simp at hn; omega

/-- crc.Frame of what is short enough. -/
theorem frame_yes (A : Option Addr) (n cap : Nat) (l : List UInt8) (w : World) (h : Sees w w.heap.size A (l.map bv)) (hn : l.length = n) (hs : n ≤ 9000) :
    Calls Try.prog 21 #[.slice A n cap] w fun e w' => ∃ A' c', e = .returned (.tuple #[.slice A' (8 + n : Nat) c', .int .i64 0]) ∧ OwnB w' w.heap.size (.slice A' (8 + n : Nat) c') (8 + n) (frameOf l) ∧ Below w.heap.size w w' := by
  have Hn := Lib.hid hn; clear hn
  go_enter Try.func21, Try.ntmps21
  go_wp2_with fail
  refine (put_any (.slice none 0 0) 0 [] n w.heap.size _ 4 (le32 n) (by omega) (OwnB.nil _ _) (Nat.le_refl _) (by omega) rfl rfl).mono ?_
  rintro e w1 ⟨A1, c1, rfl, o1, b1⟩
  have s1 := h.on b1
  have s2 := o1.sees
  go_wp2_with fail
  refine (sum_any A1 4 c1 (le32 n) _ s2 rfl (by omega)).mono ?_
  rintro e w2 ⟨rfl, rfl⟩
  go_wp2_with fail
  refine (update_any _ A n cap l _ (upd_lt _ _) s1 Hn.out (by omega)).mono ?_
  rintro e w2 ⟨rfl, rfl⟩
  go_wp2_with fail
  refine (put_any _ 4 (le32 n) _ w.heap.size _ 8 _ (upd_lt _ _) o1 b1.size (by omega) rfl rfl).mono ?_
  rintro e w2 ⟨A2, c2, rfl, o2, b2⟩
  have b12 := b1.trans b2
  go_wp2_with (at_builtin; refine wpL_appB _ rfl (.tmp 18) (.tmp 19) rfl w.heap.size _ 8 _ rfl o2 w.heap.size A n cap l rfl Hn.out (h.below b12) (by omega) b12.size (8 + n) rfl (frameOf l) (by unfold frameOf; rw [Hn.out, List.append_assoc]; rfl) ?_; intro A' c' w3 o3 hg _)
  go_ret2
  exact ⟨A', c', rfl, o3, below_app b12 b12.size o2 hg⟩

/-- crc.Frame of what is too long. -/
theorem frame_no (A : Option Addr) (n cap : Nat) (w : World) (hs : 9000 < n) (hb : n ≤ 140737488355328) :
    Calls Try.prog 21 #[.slice A n cap] w fun e w' => e = .returned (.tuple #[.slice none 0 0, .int .i64 3]) ∧ w = w' := by
  go_enter Try.func21, Try.ntmps21
  go_wp2_with fail
  go_ret2
  exact ⟨rfl, rfl⟩

/-- arbacref04.Frame. -/
theorem rframe_yes (A : Option Addr) (n cap : Nat) (l : List UInt8) (w : World) (h : Sees w w.heap.size A (l.map bv)) (hn : l.length = n) (hs : n ≤ 9000) :
    Calls Try.prog 23 #[.slice A n cap] w fun e w' => ∃ A' c', e = .returned (.slice A' (8 + n : Nat) c') ∧ OwnB w' w.heap.size (.slice A' (8 + n : Nat) c') (8 + n) (frameOf l) ∧ Below w.heap.size w w' := by
  have Hn := Lib.hid hn; clear hn
  go_enter Try.func23, Try.ntmps23
  go_wp2_with fail
  refine (four_any n _ (by omega)).mono ?_
  rintro e w1 ⟨A1, c1, rfl, o1, b1⟩
  have s1 := h.on b1
  have s2 := o1.sees
  go_wp2_with fail
  refine (rsum_any A1 4 c1 (le32 n) _ s2 rfl (by omega)).mono ?_
  rintro e w2 ⟨rfl, rfl⟩
  go_wp2_with fail
  refine (rupdate_any _ A n cap l _ (upd_lt _ _) s1 Hn.out (by omega)).mono ?_
  rintro e w2 ⟨rfl, rfl⟩
  go_wp2_with fail
  refine (four_any _ _ (upd_lt _ _)).mono ?_
  rintro e w2 ⟨A2, c2, rfl, o2, b2⟩
  have o1' := o1.on b2
  have b12 : Below w.heap.size w w2 := b1.trans (b2.mono b1.size)
  go_wp2_with (first | (at_builtin; refine wpL_appB _ rfl (.tmp 16) (.tmp 18) rfl w.heap.size _ 4 _ rfl o1' _ A2 4 c2 _ rfl rfl o2.sees (by omega) b12.size 8 rfl _ rfl ?_; intro A3 c3 w3 o3 hg3 _; have b3 := below_app b12 b12.size o1' hg3) | (at_builtin; refine wpL_appB _ rfl (.tmp 19) (.tmp 20) rfl w.heap.size _ 8 _ rfl o3 w.heap.size A n cap l rfl Hn.out (h.below b3) (by omega) b3.size (8 + n) rfl (frameOf l) (by unfold frameOf; rw [Hn.out, List.append_assoc]; rfl) ?_; intro A' c' w4 o4 hg4 _))
  go_ret
  exact ⟨A', c', rfl, o4, below_app b3 b3.size o3 hg4⟩
end Go.Proofs.Ytppkimlalceleaa
