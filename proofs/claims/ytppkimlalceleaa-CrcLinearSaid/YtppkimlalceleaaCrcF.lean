/- The walks of crc's matrices: times, squared, Combine; of the reference's Combine. -/
import Derived.Test.YtppkimlalceleaaCrcE
import Derived.Deep.RegionWith
namespace Go.Proofs.Ytppkimlalceleaa
open Go.RowKit CrcLaw
set_option linter.unusedVariables false
set_option linter.unusedSimpArgs false

theorem csum_lt (l : List UInt8) : csum l < 4294967296 := upd_lt _ _

/-- Block g holds a matrix, the images f. -/
def MatAt (w : World) (g : Nat) (f : Nat → Nat) : Prop := g < w.heap.size ∧ ∀ i, i < 32 → w.cell? ⟨g, i, none⟩ = some (.int .u32 (f i : Nat))
theorem MatAt.on {w w' : World} {g : Nat} {f : Nat → Nat} (h : MatAt w g f) (hb : Below w.heap.size w w') : MatAt w' g f :=
  ⟨Nat.lt_of_lt_of_le h.1 hb.size, fun i hi => (hb.cell (p := ⟨g, i, none⟩) h.1).trans (h.2 i hi)⟩
theorem ctimes_succ (f : Nat → Nat) (k v : Nat) : ctimes f (k + 1) v = ctimes f k v ^^^ (if v / 2 ^ k % 2 = 1 then f k else 0) := rfl

theorem shr_bit {v k : Nat} (hv : v < 4294967296) : bits BinOp.and IntKind.u32 ((v : Int) / 2 ^ k) 1 = ((v / 2 ^ k % 2 : Nat) : Int) := by
  have e : (v : Int) / 2 ^ k = ((v / 2 ^ k : Nat) : Int) := by simp
  rw [e]
  exact and1_u32 (Nat.lt_of_le_of_lt (Nat.div_le_self _ _) hv)
theorem shr_odd {v k : Nat} (hv : v < 4294967296) (ho : v / 2 ^ k % 2 = 1) : (bits BinOp.and IntKind.u32 ((v : Int) / 2 ^ k) 1 == 1) = true := by
  rw [shr_bit hv, beq_iff_eq]; omega
theorem shr_even {v k : Nat} (hv : v < 4294967296) (ho : ¬ v / 2 ^ k % 2 = 1) : (bits BinOp.and IntKind.u32 ((v : Int) / 2 ^ k) 1 == 1) = false := by
  rw [shr_bit hv, beq_eq_false_iff_ne]; omega

theorem bit_u32 {k : Nat} (h : k < 32) : ∃ p : Nat, Hid (p = 2 ^ k) ∧ p < 4294967296 ∧ IntKind.u32.wrap ((2 : Int) ^ k) = (p : Int) := by
  have h1 : 2 ^ k < 2 ^ 32 := Nat.pow_lt_pow_right (by omega) h
  refine ⟨2 ^ k, Lib.hid rfl, by omega, ?_⟩
  generalize hp : 2 ^ k = p at h1
  have e : (2 : Int) ^ k = (p : Int) := by rw [← hp]; simp
  rw [e, IntKind.wrap_u32']
  omega

/-- The image of a number. -/
theorem times_any (g : Nat) (f : Nat → Nat) (v : Nat) (w : World) (h : MatAt w g f) (hf : ∀ i, i < 32 → f i < 4294967296) (hv : v < 4294967296) :
    Calls Try.prog 44 #[.pointer (some ⟨g, 0, none⟩), .int .u32 (v : Int)] w fun e w' => e = .returned (.int .u32 (ctimes f 32 v : Nat)) ∧ w = w' := by
  go_enter Try.func44, Try.ntmps44
  go_wp2
  go_loop [5, 7] (fun o i => ∃ k : Nat, k ≤ 32 ∧ i = .int .i64 k ∧ o = .int .u32 (ctimes f k v : Nat)) (fun _ i => 32 - (intOf i).toNat)
  case atStart => exact ⟨0, Nat.zero_le _, rfl, rfl⟩
  case round =>
    obtain ⟨k, hk, rfl, rfl⟩ := hrel
    have hd : ctimes f k v < 4294967296 := ctimes_lt k (fun i hi => hf i (by omega)) v
    have Hs := Lib.hid (ctimes_succ f k v)
    generalize hS : ctimes f k v = d at *
    have HS := Lib.hid hS; clear hS
    by_cases hlt : k < 32
    · have hc := h.2 k hlt
      have hfk := hf k hlt
      have hx := u32_xor_nat d (f k) hd hfk
      by_cases ho : v / 2 ^ k % 2 = 1
      · have hT := shr_odd hv ho
        have Ho := Lib.hid ho; clear ho
        go_wp2
        go_round
        case rel => exact ⟨k + 1, by omega, by go_num, by rw [Hs.out, if_pos Ho.out]⟩
        case measure => simp [intOf]; omega
      · have hT := shr_even hv ho
        have Ho := Lib.hid ho; clear ho
        go_wp2
        go_round
        case rel => exact ⟨k + 1, by omega, by go_num, by rw [Hs.out, if_neg Ho.out, Nat.xor_zero]⟩
        case measure => simp [intOf]; omega
    · go_wp2
      go_ret
      obtain rfl : k = 32 := by omega
      exact ⟨ret_int (by rw [← HS.out]), rfl⟩

/-- The map that is made twice. -/
theorem squared_any (g : Nat) (f : Nat → Nat) (w : World) (h : MatAt w g f) (hf : ∀ i, i < 32 → f i < 4294967296) :
    Calls Try.prog 45 #[.pointer (some ⟨g, 0, none⟩)] w fun e w' => ∃ g', e = .returned (.pointer (some ⟨g', 0, none⟩)) ∧ MatAt w' g' (fun i => ctimes f 32 (f i)) ∧ Below w.heap.size w w' := by
  have hg := h.1
  go_enter Try.func45, Try.ntmps45
  go_wp2_with fail
  go_loopw [5] (fun i wr => ∃ (k : Nat) (cs : Array Value), k ≤ 32 ∧ i = .int .i64 k ∧ wr = w.alloc (.cells cs 80) ∧ cs.size = 32 ∧ ∀ j, j < k → cs[j]? = some (.int .u32 (ctimes f 32 (f j) : Nat))) (fun i _ => 32 - (intOf i).toNat)
  case atStart => exact ⟨0, _, Nat.zero_le _, rfl, rfl, rfl, fun j hj => absurd hj (Nat.not_lt_zero j)⟩
  case round =>
    obtain ⟨k, cs, hk, rfl, rfl, hcs, hj⟩ := hrel
    by_cases hlt : k < 32
    · have hm := h.on ((Below.refl w.heap.size w).alloc (Nat.le_refl _) (.cells cs 80))
      have hc := hm.2 k hlt
      have hfk := hf k hlt
      have hcu : cs[k]? = some (cs[k]'(by omega)) := Array.getElem?_eq_getElem (by omega)
      generalize cs[k]'(by omega) = u at hcu
      have Hj := Lib.hid hj; have Hcs := Lib.hid hcs; clear hj hcs
      go_wp2_with (go_at_call 44; refine (times_any g f (f k) _ hm hf hfk).mono ?_; rintro e w' ⟨rfl, rfl⟩)
      go_roundw
      case rel =>
        refine ⟨k + 1, _, by omega, by go_num, rfl, by simp [Hcs.out], fun j hjk => ?_⟩
        by_cases e : j = k
        · subst e; simp [Hcs.out, hlt]
        · rw [Array.getElem?_setIfInBounds_ne (by omega)]; exact Hj.out j (by omega)
      case measure => simp [intOf]; omega
    · have Hj := Lib.hid hj; have Hcs := Lib.hid hcs; clear hj hcs
      go_wp2_with fail
      go_ret
      refine ⟨w.heap.size, rfl, ⟨by simp, fun i hi => ?_⟩, (Below.refl _ _).alloc (Nat.le_refl _) _⟩
      rw [World.cell?_alloc_new]
      exact Hj.out i (by omega)

/-- crc.Combine. -/
theorem combine_any (a b : Nat) (n : Int) (w : World) (ha : a < 4294967296) (hb : b < 4294967296) (hn : n ≤ 9223372036854775807) :
    Calls Try.prog 25 #[.int .u32 (a : Int), .int .u32 (b : Int), .int .i64 n] w fun e w' => e = .returned (.int .u32 (ccomb a b n.toNat : Nat)) ∧ Below w.heap.size w w' := by
  go_enter Try.func25, Try.ntmps25
  go_wp2_with fail
  go_loopw [11] (fun i wr => ∃ (k : Nat) (cs : Array Value), k ≤ 32 ∧ i = .int .i64 k ∧ Blk wr w.heap.size 80 cs ∧ cs.size = 32 ∧ Below w.heap.size w wr ∧ ∀ j, j < k → cs[j]? = some (.int .u32 (pw 1 (2 ^ j) : Nat))) (fun i _ => 32 - (intOf i).toNat)
  case atStart => exact ⟨0, _, Nat.zero_le _, rfl, Blk.new _ _ _, rfl, (Below.refl _ _).alloc (Nat.le_refl _) _, fun j hj => absurd hj (Nat.not_lt_zero j)⟩
  case round =>
    obtain ⟨k, cs, hk, rfl, hK, hcs, hB, hj⟩ := hrel
    by_cases hlt : k < 32
    · have hcu := (hK.cell k).trans (Array.getElem?_eq_getElem (by omega))
      have hfr := hK.frozen k
      generalize cs[k]'(by omega) = u at hcu
      have Hj := Lib.hid hj; have Hcs := Lib.hid hcs; clear hj hcs
      obtain ⟨p, Hp, hp, hsh⟩ := bit_u32 hlt
      go_wp2_with fail
      go_region_with (go_at_call 39; refine (steps_any p 8 _ hp (by omega)).mono ?_; rintro e w' ⟨rfl, rfl⟩)
      all_goals
        go_wp2_with fail
        go_roundw
        case rel =>
          refine ⟨k + 1, _, by omega, by go_num, (show Blk _ _ _ _ from hK).put k _, by rw [Array.size_setIfInBounds]; exact Hcs.out, hB.drew.setCell (Nat.le_refl _) _, fun j hjk => ?_⟩
          by_cases e : j = k
          · subst e
            rw [Hp.out]
            simp [Hcs.out, hlt]
            rfl
          · rw [Array.getElem?_setIfInBounds_ne (by omega)]; exact Hj.out j (by omega)
        case measure => simp [intOf]; omega
    · have hM : MatAt wr w.heap.size (fun i => pw 1 (2 ^ i)) := ⟨hK.lt, fun i hi => (hK.cell i).trans (hj i (by omega))⟩
      have Hj := Lib.hid hj; have Hcs := Lib.hid hcs; clear hj hcs hK
      go_wp2_with fail
      go_loopw [0, 2, 7] (fun va vn vm wr => ∃ (t x g : Nat) (r : Int), va = .int .u32 (x : Nat) ∧ vn = .int .i64 r ∧ vm = .pointer (some ⟨g, 0, none⟩) ∧ x < 4294967296 ∧ r ≤ 9223372036854775807 ∧ MatAt wr g (fun i => pw t (2 ^ i)) ∧ Below w.heap.size w wr ∧ Hid (pw (t * r.toNat) x = pw n.toNat a)) (fun _ vn _ _ => (intOf vn).toNat)
      case atStart => exact ⟨1, a, w.heap.size, n, rfl, rfl, rfl, ha, hn, hM, hB, Lib.hid (by rw [Nat.one_mul])⟩
      case round =>
        obtain ⟨t, x, g, r, rfl, rfl, rfl, hx, hr, hm, hb', Hp⟩ := hrel
        have hf : ∀ i, i < 32 → pw t (2 ^ i) < 4294967296 := fun i hi => pw_lt t (by have : 2 ^ i < 2 ^ 32 := Nat.pow_lt_pow_right (by omega) hi; omega)
        by_cases h0 : 0 < r
        · obtain ⟨r, rfl⟩ := Int.eq_ofNat_of_zero_le (Int.le_of_lt h0)
          rw [Int.toNat_natCast] at Hp
          have ha1 := i64_and1 r (by omega)
          by_cases ho : r % 2 = 1
          · have hT : (bits BinOp.and IntKind.i64 (r : Int) 1 == 1) = true := by rw [ha1, beq_iff_eq]; omega
            clear ha1
            go_wp2_with fail
            refine (times_any g _ x _ hm hf hx).mono ?_
            rintro e w' ⟨rfl, rfl⟩
            rw [ctimes_pw t x hx]
            go_wp2_with fail
            refine (squared_any g _ _ hm hf).mono ?_
            rintro e w2 ⟨g2, rfl, hm2, hb2⟩
            have hb3 : Below w.heap.size w w2 := hb'.trans (hb2.mono hb'.size)
            go_wp2_with fail
            go_roundw
            case rel =>
              refine ⟨t + t, pw t x, g2, _, rfl, rfl, rfl, pw_lt t hx, by omega, ⟨hm2.1, fun i hi => ?_⟩, hb3, Lib.hid ?_⟩
              · rw [hm2.2 i hi]
                show some (Value.int IntKind.u32 (ctimes (fun i => pw t (2 ^ i)) 32 (pw t (2 ^ i)) : Nat)) = some (Value.int IntKind.u32 (pw (t + t) (2 ^ i) : Nat))
                rw [ctimes_pw t _ (hf i hi), pw_add]
              · rw [show ((r : Int) / 2).toNat = r / 2 by omega, ← Hp.out, ← pw_add]
                congr 1
                have : t * r = t * (2 * (r / 2) + 1) := by congr 1; omega
                rw [this, Nat.mul_add, ← Nat.mul_assoc, Nat.mul_comm t 2, Nat.two_mul, Nat.mul_one]
            case measure => simp [intOf]; omega
          · have hT : (bits BinOp.and IntKind.i64 (r : Int) 1 == 1) = false := by rw [ha1, beq_eq_false_iff_ne]; omega
            clear ha1
            go_wp2_with fail
            refine (squared_any g _ _ hm hf).mono ?_
            rintro e w2 ⟨g2, rfl, hm2, hb2⟩
            have hb3 : Below w.heap.size w w2 := hb'.trans (hb2.mono hb'.size)
            go_wp2_with fail
            go_roundw
            case rel =>
              refine ⟨t + t, x, g2, _, rfl, rfl, rfl, hx, by omega, ⟨hm2.1, fun i hi => ?_⟩, hb3, Lib.hid ?_⟩
              · rw [hm2.2 i hi]
                show some (Value.int IntKind.u32 (ctimes (fun i => pw t (2 ^ i)) 32 (pw t (2 ^ i)) : Nat)) = some (Value.int IntKind.u32 (pw (t + t) (2 ^ i) : Nat))
                rw [ctimes_pw t _ (hf i hi), pw_add]
              · rw [show ((r : Int) / 2).toNat = r / 2 by omega, ← Hp.out]
                congr 1
                have : t * r = t * (2 * (r / 2)) := by congr 1; omega
                rw [this, ← Nat.mul_assoc, Nat.mul_comm t 2, Nat.two_mul]
            case measure => simp [intOf]; omega
        · have hxor := u32_xor_nat x b hx hb
          go_wp2_with fail
          go_ret
          refine ⟨ret_int ?_, hb'⟩
          have := Hp.out
          rw [Int.toNat_of_nonpos (by omega), Nat.mul_zero] at this
          unfold ccomb
          rw [← this]; rfl

/-- arbacref04.Combine. -/
theorem rcombine_any (a b : Nat) (n : Int) (w : World) (ha : a < 4294967296) (hb : b < 4294967296) (hn : n ≤ 9223372036854775807) :
    Calls Try.prog 26 #[.int .u32 (a : Int), .int .u32 (b : Int), .int .i64 n] w fun e w' => e = .returned (.int .u32 (ccomb a b n.toNat : Nat)) ∧ w = w' := by
  go_enter Try.func26, Try.ntmps26
  go_wp2_with fail
  go_loop [0, 7] (fun v i => ∃ k x : Nat, (k = 0 ∨ (k : Int) ≤ n) ∧ i = .int .i64 (k : Nat) ∧ v = .int .u32 (x : Nat) ∧ x < 4294967296 ∧ Hid (x = pw k a)) (fun _ i => (n - intOf i).toNat)
  case atStart => exact ⟨0, a, .inl rfl, rfl, rfl, ha, Lib.hid rfl⟩
  case round =>
    obtain ⟨k, x, hk, rfl, rfl, hx, Hp⟩ := hrel
    by_cases hlt : (k : Int) < n
    · go_wp2_with (go_at_call 40; refine (rtake_any x 0 _ hx).mono ?_; rintro e w' ⟨rfl, rfl⟩)
      go_round
      case rel => exact ⟨k + 1, _, .inr (by omega), by go_num, rfl, take1_lt hx 0, Lib.hid (by rw [pw_succ, ← Hp.out]; show csteps 8 (x ^^^ 0) = _; rw [Nat.xor_zero])⟩
      case measure => simp [intOf]; omega
    · have hxor := u32_xor_nat x b hx hb
      go_wp2_with fail
      go_ret
      refine ⟨ret_int ?_, rfl⟩
      have : k = n.toNat := by omega
      unfold ccomb
      rw [← this, ← Hp.out]
end Go.Proofs.Ytppkimlalceleaa
