/- The walks of crc.steps, Update, Sum and of the reference's step, Take, Update, Sum. -/
import Derived.Test.YtppkimlalceleaaCrcPl
import Derived.Test.YtppkimlalceleaaBytes
namespace Go.Proofs.Ytppkimlalceleaa
open Go.RowKit CrcLaw
set_option linter.unusedVariables false
set_option linter.unusedSimpArgs false

theorem unary_xor_u32 (n : Int) : Op.unary .xor (.int .u32 n) = Op.intBits .xor .u32 4294967295 n := rfl

theorem and1_u32 {d : Nat} (hd : d < 4294967296) : bits BinOp.and IntKind.u32 (d : Int) 1 = ((d % 2 : Nat) : Int) := by
  have e : bits BinOp.and IntKind.u32 (d : Int) 1 = ((d &&& 1 : Nat) : Int) := u32_and_nat d 1 hd (by omega)
  rw [e, nat_mask1]
theorem step_odd {d : Nat} (hd : d < 4294967296) (h : d % 2 = 1) : bits BinOp.xor IntKind.u32 ((d : Int) / 2) 2197175160 = (cstep d : Nat) := by
  have : ((d : Int) / 2) = ((d / 2 : Nat) : Int) := by omega
  rw [this, show (2197175160 : Int) = ((2197175160 : Nat) : Int) from rfl, u32_xor_nat _ _ (by omega) (by omega)]
  unfold cstep
  rw [if_pos h]
theorem step_even {d : Nat} (h : ¬ d % 2 = 1) : ((d : Int) / 2) = (cstep d : Nat) := by
  unfold cstep
  rw [if_neg h]
  omega

/-- crc.steps. -/
theorem steps_any (c : Nat) (n : Nat) (w : World) (hc : c < 4294967296) (hn : n ≤ 1000) :
    Calls Try.prog 39 #[.int .u32 (c : Int), .int .i64 (n : Int)] w fun e w' => e = .returned (.int .u32 (csteps n c : Nat)) ∧ w = w' := by
  go_enter Try.func39, Try.ntmps39
  go_wp2
  go_loop [0, 7] (fun v i => ∃ k : Nat, k ≤ n ∧ i = .int .i64 k ∧ v = .int .u32 (csteps k c : Nat)) (fun _ i => n - (intOf i).toNat)
  case atStart => exact ⟨0, Nat.zero_le _, rfl, rfl⟩
  case round =>
    obtain ⟨k, hk, rfl, rfl⟩ := hrel
    have hd : csteps k c < 4294967296 := csteps_lt k hc
    have hs := csteps_succ k c
    generalize hS : csteps k c = d at *
    have HS := Lib.hid hS; clear hS
    have Hs := Lib.hid hs; clear hs
    have ha := and1_u32 hd
    by_cases hlt : k < n
    · by_cases ho : d % 2 = 1
      · have hT : (bits BinOp.and IntKind.u32 (d : Int) 1 == 1) = true := by rw [ha, beq_iff_eq]; omega
        clear ha
        go_wp2
        go_round
        case rel => exact ⟨k + 1, by omega, by go_num, by rw [Hs.out]; exact val_int (step_odd hd ho)⟩
        case measure => simp [intOf]; omega
      · have hT : (bits BinOp.and IntKind.u32 (d : Int) 1 == 1) = false := by rw [ha, beq_eq_false_iff_ne]; omega
        clear ha
        go_wp2
        go_round
        case rel => exact ⟨k + 1, by omega, by go_num, by rw [Hs.out]; exact val_int (step_even ho)⟩
        case measure => simp [intOf]; omega
    · go_wp2
      go_ret
      obtain rfl : k = n := by omega
      exact ⟨ret_int (by rw [HS.out]), rfl⟩

/-- The complement, as the walk spells it. -/
theorem not_u32 {c : Nat} (hc : c < 4294967296) : bits BinOp.xor IntKind.u32 4294967295 (c : Int) = (cflip c : Nat) := by
  rw [show (4294967295 : Int) = ((4294967295 : Nat) : Int) from rfl, u32_xor_nat _ _ (by omega) hc, cflip_eq hc]

theorem xor_byte {c : Nat} (hc : c < 4294967296) (x : UInt8) : bits BinOp.xor IntKind.u32 (c : Int) (x.toNat : Int) = ((c ^^^ x.toNat : Nat) : Int) :=
  u32_xor_nat c x.toNat hc (by have := x.toNat_lt; omega)
theorem xor_byte_lt {c : Nat} (hc : c < 4294967296) (x : UInt8) : c ^^^ x.toNat < 4294967296 := Nat.xor_lt_two_pow (n := 32) hc (by have := x.toNat_lt; omega)
theorem run_next (c : Nat) {l : List UInt8} {k : Nat} {x : UInt8} (h : l[k]? = some x) : crun c (l.take (k + 1)) = csteps 8 (crun c (l.take k) ^^^ x.toNat) := by
  rw [List.take_add_one, h]
  exact crun_snoc c _ x

/-- crc.Update. -/
theorem update_any (c : Nat) (A : Option Addr) (n cap : Nat) (l : List UInt8) (w : World) (hc : c < 4294967296) (h : Sees w w.heap.size A (l.map bv)) (hn : l.length = n) (hb : n ≤ 140737488355328) :
    Calls Try.prog 18 #[.int .u32 (c : Int), .slice A n cap] w fun e w' => e = .returned (.int .u32 (upd c l : Nat)) ∧ w = w' := by
  have h1 := not_u32 hc
  have hsg : IntKind.u32.signed = false := rfl
  have hmx : IntKind.u32.max = 4294967295 := rfl
  go_enter Try.func18, Try.ntmps18
  go_wp2
  go_loop [0, 11] (fun v i => ∃ k : Nat, k ≤ n ∧ i = .int .i64 k ∧ v = .int .u32 (crun (cflip c) (l.take k) : Nat)) (fun _ i => n - (intOf i).toNat)
  case atStart => exact ⟨0, Nat.zero_le _, rfl, rfl⟩
  case round =>
    clear h1
    obtain ⟨k, hk, rfl, rfl⟩ := hrel
    have hd : crun (cflip c) (l.take k) < 4294967296 := crun_lt _ (cflip_lt _)
    by_cases hlt : k < n
    · obtain ⟨b, o, x, rfl, hb1, Hx, hx, hc1⟩ := Sees.byte (k := k) h (by omega)
      have Hn := Lib.hid hn; clear hn
      have Hs := Lib.hid (run_next (cflip c) Hx.out)
      generalize hS : crun (cflip c) (l.take k) = d at *
      have HS := Lib.hid hS; clear hS
      have hX := xor_byte hd x
      go_wp2_with (go_at_call 39; refine (steps_any _ 8 _ (xor_byte_lt hd x) (by omega)).mono ?_; rintro e w' ⟨rfl, rfl⟩)
      go_round
      case rel => exact ⟨k + 1, by omega, by go_num, by rw [Hs.out]⟩
      case measure => simp [intOf]; omega
    · have h2 := not_u32 hd
      obtain rfl : k = n := by omega
      go_wp2
      go_ret
      exact ⟨ret_int (by rw [List.take_of_length_le (by omega)]; rfl), rfl⟩

/-- crc.Update, its value named by the caller. -/
theorem update_any' (c : Nat) (A : Option Addr) (n cap : Nat) (l : List UInt8) (w : World) (r : Nat) (hc : c < 4294967296) (h : Sees w w.heap.size A (l.map bv)) (hn : l.length = n) (hb : n ≤ 140737488355328) (hr : upd c l = r) :
    Calls Try.prog 18 #[.int .u32 (c : Int), .slice A n cap] w fun e w' => e = .returned (.int .u32 (r : Nat)) ∧ w = w' := by
  subst hr
  exact update_any c A n cap l w hc h hn hb

/-- crc.Sum. -/
theorem sum_any (A : Option Addr) (n cap : Nat) (l : List UInt8) (w : World) (h : Sees w w.heap.size A (l.map bv)) (hn : l.length = n) (hb : n ≤ 140737488355328) :
    Calls Try.prog 16 #[.slice A n cap] w fun e w' => e = .returned (.int .u32 (csum l : Nat)) ∧ w = w' := by
  have Hn := Lib.hid hn; clear hn
  go_enter Try.func16, Try.ntmps16
  go_wp2_with (go_at_call 18; refine (update_any 0 A n cap l _ (by omega) h Hn.out hb).mono ?_; rintro e w' ⟨rfl, rfl⟩)
  go_ret
  exact ⟨rfl, rfl⟩

/-- arbacref04.step. -/
theorem rstep_any (c : Nat) (w : World) (hc : c < 4294967296) :
    Calls Try.prog 57 #[.int .u32 (c : Int)] w fun e w' => e = .returned (.int .u32 (cstep c : Nat)) ∧ w = w' := by
  by_cases ho : c % 2 = 1
  · have hT : ((c : Int) % 2 == 1) = true := by rw [beq_iff_eq]; omega
    go_enter Try.func57, Try.ntmps57
    go_wp2
    go_ret
    exact ⟨ret_int (step_odd hc ho), rfl⟩
  · have hT : ((c : Int) % 2 == 1) = false := by rw [beq_eq_false_iff_ne]; omega
    go_enter Try.func57, Try.ntmps57
    go_wp2
    go_ret
    exact ⟨ret_int (step_even ho), rfl⟩

/-- arbacref04.Take. -/
theorem rtake_any (c : Nat) (b : UInt8) (w : World) (hc : c < 4294967296) :
    Calls Try.prog 40 #[.int .u32 (c : Int), .int .u8 (b.toNat : Int)] w fun e w' => e = .returned (.int .u32 (take1 c b : Nat)) ∧ w = w' := by
  have hX := xor_byte hc b
  have hlt := xor_byte_lt hc b
  have hb := b.toNat_lt
  go_enter Try.func40, Try.ntmps40
  go_wp2
  clear hX
  go_loop [0, 5] (fun v i => ∃ k : Nat, k ≤ 8 ∧ i = .int .i64 k ∧ v = .int .u32 (csteps k (c ^^^ b.toNat) : Nat)) (fun _ i => 8 - (intOf i).toNat)
  case atStart => exact ⟨0, Nat.zero_le _, rfl, rfl⟩
  case round =>
    obtain ⟨k, hk, rfl, rfl⟩ := hrel
    have hd := csteps_lt k hlt
    have Hs := Lib.hid (csteps_succ k (c ^^^ b.toNat))
    generalize hS : csteps k (c ^^^ b.toNat) = d at *
    have HS := Lib.hid hS; clear hS
    by_cases hk8 : k < 8
    · go_wp2_with (go_at_call 57; refine (rstep_any _ _ hd).mono ?_; rintro e w' ⟨rfl, rfl⟩)
      go_round
      case rel => exact ⟨k + 1, by omega, by go_num, by rw [Hs.out]⟩
      case measure => simp [intOf]; omega
    · go_wp2
      go_ret
      obtain rfl : k = 8 := by omega
      exact ⟨ret_int (by rw [← HS.out]; rfl), rfl⟩

theorem run_next' (c : Nat) {l : List UInt8} {k : Nat} {x : UInt8} (h : l[k]? = some x) : crun c (l.take (k + 1)) = take1 (crun c (l.take k)) x := run_next c h

/-- arbacref04.Update. -/
theorem rupdate_any (c : Nat) (A : Option Addr) (n cap : Nat) (l : List UInt8) (w : World) (hc : c < 4294967296) (h : Sees w w.heap.size A (l.map bv)) (hn : l.length = n) (hb : n ≤ 140737488355328) :
    Calls Try.prog 19 #[.int .u32 (c : Int), .slice A n cap] w fun e w' => e = .returned (.int .u32 (upd c l : Nat)) ∧ w = w' := by
  have h1 := not_u32 hc
  have hsg : IntKind.u32.signed = false := rfl
  have hmx : IntKind.u32.max = 4294967295 := rfl
  go_enter Try.func19, Try.ntmps19
  go_wp2
  go_loop [0, 11] (fun v i => ∃ k : Nat, k ≤ n ∧ i = .int .i64 k ∧ v = .int .u32 (crun (cflip c) (l.take k) : Nat)) (fun _ i => n - (intOf i).toNat)
  case atStart => exact ⟨0, Nat.zero_le _, rfl, rfl⟩
  case round =>
    clear h1
    obtain ⟨k, hk, rfl, rfl⟩ := hrel
    have hd : crun (cflip c) (l.take k) < 4294967296 := crun_lt _ (cflip_lt _)
    by_cases hlt : k < n
    · obtain ⟨b, o, x, rfl, hb1, Hx, hx, hc1⟩ := Sees.byte (k := k) h (by omega)
      have Hn := Lib.hid hn; clear hn
      have Hs := Lib.hid (run_next' (cflip c) Hx.out)
      generalize hS : crun (cflip c) (l.take k) = d at *
      have HS := Lib.hid hS; clear hS
      go_wp2_with (go_at_call 40; refine (rtake_any _ x _ hd).mono ?_; rintro e w' ⟨rfl, rfl⟩)
      go_round
      case rel => exact ⟨k + 1, by omega, by go_num, by rw [Hs.out]⟩
      case measure => simp [intOf]; omega
    · have h2 := not_u32 hd
      obtain rfl : k = n := by omega
      go_wp2
      go_ret
      exact ⟨ret_int (by rw [List.take_of_length_le (by omega)]; rfl), rfl⟩

/-- arbacref04.Sum. -/
theorem rsum_any (A : Option Addr) (n cap : Nat) (l : List UInt8) (w : World) (h : Sees w w.heap.size A (l.map bv)) (hn : l.length = n) (hb : n ≤ 140737488355328) :
    Calls Try.prog 17 #[.slice A n cap] w fun e w' => e = .returned (.int .u32 (csum l : Nat)) ∧ w = w' := by
  have Hn := Lib.hid hn; clear hn
  go_enter Try.func17, Try.ntmps17
  go_wp2_with (go_at_call 19; refine (rupdate_any 0 A n cap l _ (by omega) h Hn.out hb).mono ?_; rintro e w' ⟨rfl, rfl⟩)
  go_ret
  exact ⟨rfl, rfl⟩
end Go.Proofs.Ytppkimlalceleaa
