/- The walk of the reference's Next; the two scans. -/
import Derived.Test.YtppkimlalceleaaCrcC
import Derived.Outline
namespace Go.Proofs.Ytppkimlalceleaa
open Go.RowKit CrcLaw
set_option linter.unusedVariables false
set_option linter.unusedSimpArgs false

theorem Sees.four {w : World} {B : Nat} {A : Option Addr} {l : List UInt8} (h : Sees w B A (l.map bv)) (h4 : 4 ≤ l.length) :
    ∃ b o, ∃ x0 x1 x2 x3 : UInt8, A = some ⟨b, o, none⟩ ∧ num32 l = x0.toNat + 256 * x1.toNat + 65536 * x2.toNat + 16777216 * x3.toNat ∧
      w.cell? ⟨b, o, none⟩ = some (.int .u8 (x0.toNat : Int)) ∧ w.cell? ⟨b, o + 1, none⟩ = some (.int .u8 (x1.toNat : Int)) ∧
      w.cell? ⟨b, o + 2, none⟩ = some (.int .u8 (x2.toNat : Int)) ∧ w.cell? ⟨b, o + 3, none⟩ = some (.int .u8 (x3.toNat : Int)) := by
  match l, h4 with
  | x0 :: x1 :: x2 :: x3 :: r, _ =>
    obtain ⟨b, o, rfl, hb, hc⟩ := h (by simp)
    exact ⟨b, o, x0, x1, x2, x3, rfl, rfl, by have := hc 0 _ rfl; rwa [Nat.add_zero] at this, hc 1 _ rfl, hc 2 _ rfl, hc 3 _ rfl⟩

/-- arbacref04.Next. -/
theorem rnext_any (A : Option Addr) (n cap : Nat) (l : List UInt8) (w : World) (h : Sees w w.heap.size A (l.map bv)) (hn : l.length = n) (hc : n ≤ cap) (hb : n ≤ 140737488355328)
    (r : Nat) (hr1 : IsFrame l → r = 8 + num32 l) (hr0 : ¬ IsFrame l → r = 0) :
    Calls Try.prog 47 #[.slice A n cap] w fun e w' => e = .returned (.int .i64 (r : Nat)) ∧ Below w.heap.size w w' := by
  by_cases h8 : n < 8
  · obtain rfl : r = 0 := hr0 fun hf => by have := hf.1; omega
    go_enter Try.func47, Try.ntmps47
    go_wp2_with fail
    go_ret
    exact ⟨rfl, Below.refl _ _⟩
  obtain ⟨b, o, x0, x1, x2, x3, rfl, hm, c0, c1, c2, c3⟩ := h.four (by omega)
  have b0 := x0.toNat_lt; have b1 := x1.toNat_lt; have b2 := x2.toNat_lt; have b3 := x3.toNat_lt
  have i0 : (0 : Int) < (n : Int) := by omega
  have i1 : (1 : Int) < (n : Int) := by omega
  have i2 : (2 : Int) < (n : Int) := by omega
  have i3 : (3 : Int) < (n : Int) := by omega
  obtain ⟨m, hmm⟩ : ∃ m, num32 l = m := ⟨_, rfl⟩
  have hsum : (x0.toNat : Int) + 256 * (x1.toNat : Int) + 65536 * (x2.toNat : Int) + 16777216 * (x3.toNat : Int) = (m : Int) := by omega
  have hmlt : m < 4294967296 := hmm ▸ num32_lt l
  have Hm := Lib.hid hmm; have Hn := Lib.hid hn; clear hm hmm hn
  by_cases h9 : 9000 < m
  · obtain rfl : r = 0 := hr0 fun hf => by have := hf.2.1; rw [Hm.out] at this; omega
    go_enter Try.func47, Try.ntmps47
    go_wp2_with fail
    go_quiet (fail)
    go_wp2_with fail
    go_ret
    exact ⟨rfl, below_drewN (Below.refl _ _) _⟩
  by_cases hlt : n < 8 + m
  · obtain rfl : r = 0 := hr0 fun hf => by have := hf.2.2.1; rw [Hm.out, Hn.out] at this; omega
    go_enter Try.func47, Try.ntmps47
    go_wp2_with fail
    go_quiet (fail)
    go_wp2_with fail
    go_ret
    exact ⟨rfl, below_drewN (Below.refl _ _) _⟩
  have hd8 : Sees w w.heap.size (if cap = 8 then some ⟨b, o, none⟩ else some ⟨b, o + 8, none⟩) (((l.drop 8).take m).map bv) := by
    have := h.drop_ (k := 8) (c := cap) (by simp [Hn.out]; omega) (by simp [Hn.out]; omega)
    rw [List.map_take, List.map_drop]
    exact Sees.take_ (by simpa [Addr.add_lit] using this) m
  have hl8 : ((l.drop 8).take m).length = m := by simp [Hn.out]; omega
  have Hl8 := Lib.hid hl8; clear hl8
  have hfi := frame_iff l m Hm.out (by rw [Hn.out]; omega)
  have hF : frameOf ((l.drop 8).take m) = l.take (8 + m) → r = 8 + m := fun e => by
    rw [hr1 ⟨by rw [Hn.out]; omega, by rw [Hm.out]; omega, by rw [Hm.out, Hn.out]; omega, by rw [Hm.out]; exact hfi.1 e⟩, Hm.out]
  have hN : frameOf ((l.drop 8).take m) ≠ l.take (8 + m) → r = 0 := fun e => hr0 fun hf => e (hfi.2 (by have := hf.2.2.2; rw [Hm.out] at this; exact this))
  have hWl : (frameOf ((l.drop 8).take m)).length = 8 + m := by rw [frameOf_length, Hl8.out]
  generalize hWd : frameOf ((l.drop 8).take m) = W at *
  have HWd := Lib.hid hWd; have HF := Lib.hid hF; have HN := Lib.hid hN; have HW := Lib.hid hWl; clear hWd hF hN hWl hfi hr1 hr0
  by_cases hc8 : cap = 8
  all_goals
    first | rw [if_pos hc8] at hd8 | rw [if_neg hc8] at hd8
    first | subst hc8 | skip
    go_enter Try.func47, Try.ntmps47
    go_wp2_with fail
    go_quiet (fail)
    go_wp2_with fail
    refine (rframe_yes _ m _ ((l.drop 8).take m) _ (hd8.drewN _) Hl8.out (by omega)).mono ?_
    rintro e w1 ⟨A1, c1', rfl, o1, b1⟩
    rw [HWd.out] at o1
    have s1 := o1.sees
    have bw : Below w.heap.size w w1 := (below_drewN (Below.refl _ _) _).trans b1
    have s2 := h.on bw
    clear hsum c0 c1 c2 c3 i0 i1 i2 i3
    go_wp2_with fail
    go_loop [48] (fun i => ∃ k : Nat, k ≤ 8 + m ∧ i = .int .i64 k ∧ Hid (W.take k = l.take k)) (fun i => 8 + m - (intOf i).toNat)
    case atStart => exact ⟨0, Nat.zero_le _, rfl, Lib.hid rfl⟩
    case round =>
      obtain ⟨k, hk, rfl, Ht⟩ := hrel
      by_cases hlt : k < 8 + m
      · obtain ⟨bb, oo, x, rfl, hb1, Hx, hx, hc1⟩ := Sees.byte (k := k) s1 (by rw [HW.out]; exact hlt)
        obtain ⟨b2, o2, y, e2, hb2, Hy, hy, hc2⟩ := Sees.byte (k := k) s2 (by rw [Hn.out]; omega)
        obtain ⟨rfl, rfl⟩ : b = b2 ∧ o = o2 := by simpa using e2
        clear e2
        by_cases he : x = y
        · have hT : ((y.toNat : Int) != (x.toNat : Int)) = false := by rw [he]; simp
          go_wp2_with fail
          go_round
          case rel => exact ⟨k + 1, by omega, by go_num, Lib.hid (take_next Ht.out Hx.out (he ▸ Hy.out))⟩
          case measure => simp [intOf]; omega
        · have hT : ((y.toNat : Int) != (x.toNat : Int)) = true := by
            rw [bne_iff_ne]
            intro e
            exact he (UInt8.toNat_inj.1 (by omega))
          go_wp2_with fail
          go_ret
          refine ⟨?_, bw⟩
          have : r = 0 := HN.out fun e => by
            have a1 := Hx.out
            rw [e, List.getElem?_take, if_pos hlt, Hy.out] at a1
            injection a1 with a1
            exact he a1.symm
          rw [this]; rfl
      · go_wp2_with fail
        go_ret
        obtain rfl : k = 8 + m := by omega
        have : r = 8 + m := HF.out (by have := Ht.out; rwa [List.take_of_length_le (by rw [HW.out]; omega)] at this)
        exact ⟨by rw [this]; exact ret_int (by omega), bw⟩

end Go.Proofs.Ytppkimlalceleaa
