/- The walks of wire.Reader's number and take. -/
import Derived.Test.YtcnofhlgiffkjaaGreatDoorWc
namespace Go.Proofs.YtcnofhlgiffkjaaGreatDoor
open Go.RowKit
set_option linter.unusedVariables false
set_option linter.unusedSimpArgs false

theorem and127b (x : UInt8) : bits BinOp.and IntKind.u8 (x.toNat : Int) 127 = ((x.toNat % 128 : Nat) : Int) := by
  have : ∀ d : Fin 256, bits BinOp.and IntKind.u8 ((d.val : Nat) : Int) 127 = ((d.val % 128 : Nat) : Int) := by decide +kernel
  exact this ⟨x.toNat, x.toNat_lt⟩
theorem or7 {v d : Nat} (hv : v ≤ 144115188075855871) (hd : d < 128) : bits BinOp.or IntKind.u64 ((v : Int) * 128) (d : Int) = ((128 * v + d : Nat) : Int) := by
  have e := bits_or_u64_nat (2 ^ 7 * v) d (by omega) (by omega)
  rw [← Nat.two_pow_add_eq_or_of_lt (i := 7) (by omega)] at e
  rw [show (v : Int) * 128 = ((2 ^ 7 * v : Nat) : Int) by omega, e]
theorem b128 (x : UInt8) : (((x.toNat : Nat) : Int) == 128) = decide (x = 128) := by
  by_cases h : x = 128
  · subst h; rfl
  · rw [decide_eq_false h]
    exact beq_false_of_ne fun e => h (UInt8.toNat_inj.1 (by simp; omega))
theorem lt128 (x : UInt8) : x < 128 ↔ ((x.toNat : Nat) : Int) < 128 := by
  rw [UInt8.lt_iff_toNat_lt]
  simp
  omega

set_option maxRecDepth 100000 in
/-- number. -/
theorem number_any (g : Nat) (p : List UInt8) (er : Int) (w : World) (h : RdAt w g p er) :
    Calls Tryz.prog 79 #[.pointer (some ⟨g, 0, none⟩)] w fun e w' => e = .returned (.tuple #[.int .u64 ((num p).1 : Nat), .int .i64 ((num p).2 : Nat)]) ∧ w = w' := by
  obtain ⟨A, n, c, h⟩ := h
  obtain ⟨c0, c1, f0, f1⟩ := h.cells
  have hS := h.sees
  have Hl := Lib.hid h.len
  have hbig : (n : Int) ≤ 1000000000000 := by have := h.big; omega
  go_enter Tryz.func79, Tryz.ntmps79
  go_wp2_with fail
  go_loop [4, 12] (fun vv vk => ∃ (v k : Nat), vv = .int .u64 v ∧ vk = .int .i64 k ∧ k ≤ n ∧ v < 18446744073709551616 ∧ Hid (numGo v k (p.drop k) = num p)) (fun _ vk => n - (intOf vk).toNat)
  case atStart => exact ⟨0, 0, rfl, rfl, Nat.zero_le _, by omega, Lib.hid rfl⟩
  case round =>
    obtain ⟨v, k, rfl, rfl, hk, hv, HI⟩ := hrel
    by_cases hlt : k < n
    · have hkn : (k : Int) < (n : Int) := by omega
      obtain ⟨b, o, x, rfl, hb1, Hx, hx, hc1⟩ := Sees.byte (k := k) hS (by rw [Hl.out]; exact hlt)
      have hnum := HI.out
      rw [List.drop_eq_getElem_cons (by rw [Hl.out]; exact hlt), show p[k]'(by rw [Hl.out]; exact hlt) = x from by have := Hx.out; rw [List.getElem?_eq_getElem (by rw [Hl.out]; exact hlt)] at this; injection this, numGo] at hnum
      by_cases hbad : (k = 0 ∧ x = 128) ∨ 144115188075855871 < v
      · rw [if_pos hbad] at hnum
        have HN := Lib.hid hnum
        clear hnum
        rcases hbad with ⟨hk0, hx0⟩ | hbad
        · have hk0' : ((k : Int) == 0) = true := by rw [hk0]; rfl
          have h128 : (((x.toNat : Nat) : Int) == 128) = true := by rw [hx0]; rfl
          clear hk0 hx0
          go_wp2_with fail
          all_goals
            go_ret2
            exact ⟨by rw [← HN.out]; rfl, rfl⟩
        · have hbi : (144115188075855871 : Int) < (v : Int) := by omega
          go_wp2_with fail
          all_goals
            go_ret2
            exact ⟨by rw [← HN.out]; rfl, rfl⟩
      · rw [if_neg hbad] at hnum
        have hvs : v ≤ 144115188075855871 := by omega
        have hvn : ¬ (144115188075855871 : Int) < (v : Int) := by omega
        have ha := and127b x
        obtain ⟨d, hd, hd1⟩ : ∃ d : Nat, Hid (d = x.toNat % 128) ∧ d < 128 := ⟨_, Lib.hid rfl, Nat.mod_lt _ (by omega)⟩
        rw [← hd.out] at ha hnum
        have hor := or7 hvs hd1
        have hv128 : (v : Int) * 128 < 18446744073709551616 := by omega
        have hv2 : 128 * v + d < 18446744073709551616 := by omega
        have hL := (lt128 x)
        have HL := Lib.hid hL
        clear hL
        obtain ⟨z, hz⟩ : ∃ z, z = 128 * v + d := ⟨_, rfl⟩
        rw [← hz] at hor hnum hv2
        have HZ := Lib.hid hz
        clear hz
        by_cases h7 : x < 128
        · rw [if_pos h7] at hnum
          have HN := Lib.hid hnum
          have h7i := HL.out.1 h7
          have hne : (((x.toNat : Nat) : Int) == 128) = false := beq_false_of_ne (by omega)
          by_cases hk0 : k = 0
          · have hk0' : ((k : Int) == 0) = true := by rw [hk0]; rfl
            clear hbad h7 hnum hk0
            go_wp2_with fail
            go_ret2
            exact ⟨by rw [← HN.out]; rfl, rfl⟩
          · have hk0' : ((k : Int) == 0) = false := beq_false_of_ne (by omega)
            clear hbad h7 hnum hk0
            go_wp2_with fail
            go_ret2
            exact ⟨by rw [← HN.out]; rfl, rfl⟩
        · rw [if_neg h7] at hnum
          have h7i : ¬ ((x.toNat : Nat) : Int) < 128 := fun e => h7 (HL.out.2 e)
          have HN := Lib.hid hnum
          by_cases hk0 : k = 0
          · have hk0' : ((k : Int) == 0) = true := by rw [hk0]; rfl
            have hne : (((x.toNat : Nat) : Int) == 128) = false := by
              rw [b128, decide_eq_false]
              exact fun e => hbad (.inl ⟨hk0, e⟩)
            clear hbad h7 hnum hk0
            go_wp2_with fail
            go_round
            case rel => exact ⟨z, k + 1, rfl, by go_num, by omega, hv2, HN⟩
            case measure => simp [intOf]; omega
          · have hk0' : ((k : Int) == 0) = false := beq_false_of_ne (by omega)
            clear hbad h7 hnum hk0
            go_wp2_with fail
            go_round
            case rel => exact ⟨z, k + 1, rfl, by go_num, by omega, hv2, HN⟩
            case measure => simp [intOf]; omega
    · have hnum := HI.out
      rw [List.drop_eq_nil_of_le (by rw [Hl.out]; omega), numGo] at hnum
      have HN := Lib.hid hnum
      clear hnum
      go_wp2_with fail
      go_ret2
      exact ⟨by rw [← HN.out]; rfl, rfl⟩
/-- take. -/
theorem take_any (g k : Nat) (p : List UInt8) (er : Int) (w : World) (h : RdAt w g p er) (hk : k ≤ p.length) :
    Calls Tryz.prog 80 #[.pointer (some ⟨g, 0, none⟩), .int .i64 (k : Int)] w fun e w' => ∃ A c, e = .returned (.slice A k c) ∧ OwnB w' w.heap.size (.slice A k c) k (p.take k) ∧ RdAt w' g (p.drop k) er ∧ Only w w' g := by
  obtain ⟨A, n, c, h⟩ := h
  obtain ⟨c0, c1, f0, f1⟩ := h.cells
  have hk0 : (0 : Int) ≤ (k : Int) := by omega
  have hkn : (k : Int) ≤ (n : Int) := by have := h.len; omega
  have hkc : (k : Int) ≤ (c : Int) := by have := h.room; omega
  have hnc : (n : Int) ≤ (c : Int) := by have := h.room; omega
  have hck : k ≤ c := by omega
  have hnk : n ≤ c := by omega
  have hkn' : k ≤ n := by omega
  have hb := h.big
  have hpk : (p.take k).length = k := by rw [List.length_take]; have := h.len; omega
  have hpd : (p.drop k).length = n - k := by rw [List.length_drop]; have := h.len; omega
  have hst : Sees w w.heap.size A ((p.take k).map bv) := by rw [List.map_take]; exact h.sees.take_ k
  have hsd : ∀ w', Below w.heap.size w w' → Sees w' w'.heap.size (if c = k then A else A.map (·.add k)) ((p.drop k).map bv) := fun w' hB => by
    rw [List.map_drop]
    exact (h.sees.on hB).drop_ (by rw [List.length_map]; exact hk) (by rw [List.length_map]; have := h.len; omega)
  have HPK := Lib.hid hpk
  have HPD := Lib.hid hpd
  clear hpk hpd
  by_cases hc : c = k
  · subst hc
    simp only [if_true] at hsd
    go_enter Tryz.func80, Tryz.ntmps80
    go_wp2_with fail
    refine (clone_any A c c (p.take c) w hst HPK.out (by omega)).mono ?_
    rintro e w1 ⟨A', c', rfl, ho, hB⟩
    obtain ⟨d0, d1, g0, g1⟩ := (h.on hB).cells
    go_wp2_with fail
    go_ret
    have hn0 : n - c = 0 := by omega
    have hst1 := (h.on hB).setLeft (n' := 0) (c' := 0) (hsd w1 hB) (by rw [HPD.out]; omega) (Nat.le_refl _) (by omega) h.low
    exact ⟨A', c', rfl, ho.kept (grownBy_setCell w1 g 0 _) (.inr fun e => by have := (ho.lt g e).1; have := h.blk.lt; omega), ⟨_, _, _, hst1⟩, (Mvd.ofBelow hB g none).setCell _⟩
  · rw [if_neg hc] at hsd
    go_enter Tryz.func80, Tryz.ntmps80
    go_wp2_with fail
    refine (clone_any A k c (p.take k) w hst HPK.out (by omega)).mono ?_
    rintro e w1 ⟨A', c', rfl, ho, hB⟩
    obtain ⟨d0, d1, g0, g1⟩ := (h.on hB).cells
    go_wp2_with fail
    go_ret
    have hst1 := (h.on hB).setLeft (n' := n - k) (c' := c - k) (hsd w1 hB) HPD.out (by omega) (by omega) (fun a ha => by
      obtain ⟨a0, h0, rfl⟩ := Option.map_eq_some_iff.1 ha
      have := h.low a0 h0
      unfold Addr.add
      split <;> exact this)
    exact ⟨A', c', rfl, ho.kept (grownBy_setCell w1 g 0 _) (.inr fun e => by have := (ho.lt g e).1; have := h.blk.lt; omega), ⟨_, _, _, hst1⟩, (Mvd.ofBelow hB g none).setCell _⟩
end Go.Proofs.YtcnofhlgiffkjaaGreatDoor
