/- The walks of slices.Reverse at []byte and of wire.groups. -/
import Derived.Test.YtcnofhlgiffkjaaGreatDoorWp
import Derived.Test.YtcnofhlgiffkjaaGreatDoorPa
import Derived.Deep.RegionLaw
import Derived.Deep.RegionWith
namespace Go.Proofs.YtcnofhlgiffkjaaGreatDoor
open Go.RowKit
set_option linter.unusedVariables false
set_option linter.unusedSimpArgs false

/-- A byte of what is owned. -/
theorem OwnB.byte {w : World} {base n c k : Nat} {A : Option Addr} {l : List UInt8} (h : OwnB w base (.slice A n c) n l) (hk : k < n) :
    ∃ g, A = some ⟨g, 0, none⟩ ∧ base ≤ g ∧ g < w.heap.size ∧ ∃ x, Hid (l[k]? = some x) ∧ w.cell? ⟨g, k, none⟩ = some (bv x) ∧ w.frozen? ⟨g, k, none⟩ = false := by
  have hl := h.len
  obtain ⟨b, o, x, rfl, hb, hx, _, hc⟩ := Sees.byte (k := k) h.sees (by omega)
  rcases h.2 with ⟨e, _⟩ | ⟨g, cap, cur, e, h1, h2, h3, h4, h5, h6⟩
  · cases e
  · injection e with e1 e2 e3
    injection e1 with e1
    injection e1 with e0 e1 _
    subst e0 e1 e3
    rw [Nat.zero_add] at hc
    exact ⟨b, rfl, h1, hb, x, hx, hc, Blk.frozen (show Blk w b 5 cur from h2) k⟩
theorem OwnB.put {w : World} {base n c g k : Nat} {l : List UInt8} (h : OwnB w base (.slice (some ⟨g, 0, none⟩) n c) n l) (y : UInt8) :
    OwnB (w.setCell ⟨g, k, none⟩ (bv y)) base (.slice (some ⟨g, 0, none⟩) n c) n (l.set k y) := by
  rcases h.2 with ⟨e, _⟩ | ⟨g', cap, cur, e, h1, h2, h3, h4, h5, h6⟩
  · cases e
  · injection e with e1 e2 e3
    injection e1 with e1
    injection e1 with e0 e1 _
    subst e0 e3
    have hb : Blk w g 5 cur := h2
    refine ⟨by simpa using h.len, .inr ⟨g, c, cur.setIfInBounds k (bv y), rfl, h1, hb.put k (bv y), h3, h4, by simpa using h5, ?_⟩⟩
    rw [Array.toList_setIfInBounds, List.take_set, h6, List.map_set]

/-- slices.Reverse of bytes of the call's own. -/
theorem reverse_any (A : Option Addr) (n c : Nat) (l : List UInt8) (base : Nat) (w : World) (h : OwnB w base (.slice A n c) n l) (hb : n ≤ 140737488355328) :
    Calls Tryz.prog 100 #[.slice A n c] w fun e w' => e = .returned (.tuple #[]) ∧ OwnB w' base (.slice A n c) n l.reverse ∧ Below base w w' := by
  have hlen := Lib.hid h.len
  go_enter Tryz.func100, Tryz.ntmps100
  go_wp2_with fail
  go_loopw [2, 3] (fun vi vj wr => ∃ (i : Nat) (j : Int) (l' : List UInt8), vi = .int .i64 i ∧ vj = .int .i64 j ∧ j = (n : Int) - 1 - i ∧ 2 * i ≤ n + 1 ∧ OwnB wr base (.slice A n c) n l' ∧ Below base w wr ∧
    Hid (∀ k, k < n → l'[k]? = if k < i ∨ n ≤ k + i then l[n - 1 - k]? else l[k]?)) (fun vi _ _ => n - (intOf vi).toNat)
  case atStart => exact ⟨0, (n : Int) - 1, l, rfl, by go_num, by omega, by omega, h, Below.refl _ _, Lib.hid fun k hk => by rw [if_neg (by omega)]⟩
  case round =>
    obtain ⟨i, j, l', rfl, rfl, hj, hi, ho, hB, HP⟩ := hrel
    by_cases hlt : (i : Int) < j
    · obtain ⟨m, rfl⟩ := Int.eq_ofNat_of_zero_le (show 0 ≤ j by omega)
      obtain ⟨g, rfl, hg1, hg2, x, hx, hcx, hfx⟩ := ho.byte (k := i) (by omega)
      obtain ⟨g', hg', _, _, y, hy, hcy, hfy⟩ := ho.byte (k := m) (by omega)
      simp only [Option.some.injEq, Addr.mk.injEq, and_true] at hg'
      subst hg'
      have ho1 := ho.put (k := i) y
      obtain ⟨g', hg', _, _, _, _, _, hfy2⟩ := ho1.byte (k := m) (by omega)
      simp only [Option.some.injEq, Addr.mk.injEq, and_true] at hg'
      subst hg'
      have ho2 := ho1.put (k := m) x
      have Hj := Lib.hid hj
      clear hj
      have hin : (i : Int) < (n : Int) := by have := Hj.out; omega
      have hmn : (m : Int) < (n : Int) := by have := Hj.out; omega
      simp only [bv] at hcx hcy hfy2
      go_wp2_with fail
      go_region
      have hjm : m = n - 1 - i := by have := Hj.out; omega
      have hb4 : Below base w ((wr.setCell ⟨g, i, none⟩ (bv y)).setCell ⟨g, m, none⟩ (bv x)).drew := ((hB.setCell (p := ⟨g, i, none⟩) hg1 _).setCell (p := ⟨g, m, none⟩) hg1 _).drew
      have hnl : ∀ k, k < n → ((l'.set i y).set m x)[k]? = if k < i + 1 ∨ n ≤ k + (i + 1) then l[n - 1 - k]? else l[k]? := by
        intro k hk
        have hl' : l'.length = n := ho.len
        have hi1 := HP.out i (by omega)
        have hm1 := HP.out m (by omega)
        rw [if_neg (by have := Hj.out; omega)] at hi1 hm1
        by_cases e1 : k = m
        · subst e1
          rw [List.getElem?_set_self (by rw [List.length_set]; omega), if_pos (by omega), show n - 1 - k = i by omega, ← hi1, hx.out]
        · rw [List.getElem?_set_ne (by omega)]
          by_cases e2 : k = i
          · subst e2
            rw [List.getElem?_set_self (by omega), if_pos (by omega), ← hjm, ← hm1, hy.out]
          · rw [List.getElem?_set_ne (by omega), HP.out k hk]
            by_cases e3 : k < i ∨ n ≤ k + i
            · rw [if_pos e3, if_pos (by omega)]
            · rw [if_neg e3, if_neg (by omega)]
      have HN := Lib.hid hnl
      clear hnl hjm
      go_wp2_with fail
      go_roundw
      case rel => exact ⟨i + 1, (m : Int) - 1, _, by go_num, by go_num, by have := Hj.out; omega, by have := Hj.out; omega, ho2, hb4, HN⟩
      case measure => simp [intOf]; omega
    · have HJ := Lib.hid hj
      clear hj
      go_wp2_with fail
      go_end0
      have hj := HJ.out
      have e : l' = l.reverse := by
        apply List.ext_getElem?
        intro k
        by_cases hk : k < n
        · rw [List.getElem?_reverse (by rw [hlen.out]; exact hk), hlen.out, HP.out k hk]
          by_cases e3 : k < i ∨ n ≤ k + i
          · rw [if_pos e3]
          · rw [if_neg e3]
            congr 1
            omega
        · rw [List.getElem?_eq_none (by have := ho.len; omega), List.getElem?_eq_none (by rw [List.length_reverse, hlen.out]; omega)]
      subst e
      exact ⟨rfl, ho, hB⟩

theorem and127 {v : Nat} (h : v < 18446744073709551616) : bits BinOp.and IntKind.u64 (v : Int) 127 = ((v % 128 : Nat) : Int) := by
  have e := bits_and_u64_nat v 127 h (by omega)
  rw [show v &&& 127 = v % 128 from Nat.and_two_pow_sub_one_eq_mod v 7] at e
  exact e
theorem or128 {d : Nat} (h : d < 128) : bits BinOp.or IntKind.u8 (d : Int) 128 = (((UInt8.ofNat (d + 128)).toNat : Nat) : Int) := by
  have : ∀ d : Fin 128, bits BinOp.or IntKind.u8 ((d.val : Nat) : Int) 128 = (((UInt8.ofNat (d.val + 128)).toNat : Nat) : Int) := by decide +kernel
  exact this ⟨d, h⟩

set_option maxRecDepth 100000 in
/-- wire.groups: the encoding of a number. -/
theorem groups_any (V : Nat) (w : World) (hV : V < 18446744073709551616) :
    Calls Tryz.prog 84 #[.int .u64 (V : Int)] w fun e w' => ∃ A n c, e = .returned (.slice A n c) ∧ OwnB w' w.heap.size (.slice A n c) n (enc V) ∧ Below w.heap.size w w' := by
  have ha := and127 hV
  obtain ⟨d, hd, hd1⟩ : ∃ d : Nat, Hid (d = V % 128) ∧ d < 128 := ⟨_, Lib.hid rfl, Nat.mod_lt _ (by omega)⟩
  rw [← hd.out] at ha
  have hdu := Lib.hid (show ((d : Nat) : Int) = (((UInt8.ofNat d).toNat : Nat) : Int) from by rw [UInt8.toNat_ofNat']; omega)
  have hdw : (d : Int) < 256 := by omega
  go_enter Tryz.func84, Tryz.ntmps84
  go_wp2_with fail
  have hL1 : OwnB (w.alloc (.cells #[Value.int .u8 (d : Int)] 5)) w.heap.size (.slice (some ⟨w.heap.size, 0, none⟩) 1 1) 1 [UInt8.ofNat d] := by
    rw [hdu.out]
    exact OwnB.lit w #[bv (UInt8.ofNat d)] 1 [UInt8.ofNat d] (by unfold maxLen; omega) rfl rfl
  have hten : (encR V).length ≤ 10 := by have := enc_len hV; unfold enc at this; rwa [List.length_reverse] at this
  go_loopw [0, 3] (fun vu vs wr => ∃ (u : Nat) (A : Option Addr) (n c : Nat) (acc : List UInt8), vu = .int .u64 u ∧ vs = .slice A n c ∧ u < 18446744073709551616 ∧ OwnB wr w.heap.size (.slice A n c) n acc ∧ Below w.heap.size w wr ∧ Hid (acc ++ low u = encR V)) (fun vu _ _ => (intOf vu).toNat)
  case atStart => exact ⟨V / 128, _, 1, 1, [UInt8.ofNat d], by go_num, rfl, by omega, hL1, (Below.refl _ _).alloc (Nat.le_refl _) _, Lib.hid (by rw [hd.out]; rfl)⟩
  case round =>
    obtain ⟨u, A, n, c, acc, rfl, rfl, hu, ho, hB, HI⟩ := hrel
    clear ha
    by_cases h0 : u = 0
    · subst h0
      have hacc : acc = encR V := by have := HI.out; rwa [low_zero, List.append_nil] at this
      subst hacc
      have hn : n ≤ 10 := by have := ho.len; omega
      go_wp2_with (go_at_call 100; refine (reverse_any A n c _ w.heap.size _ ho (by omega)).mono ?_; rintro e w3 ⟨rfl, ho3, hb3⟩)
      go_ret
      exact ⟨A, n, c, rfl, ho3, hB.trans hb3⟩
    · have ha := and127 hu
      obtain ⟨d, hd, hd1⟩ : ∃ d : Nat, Hid (d = u % 128) ∧ d < 128 := ⟨_, Lib.hid rfl, Nat.mod_lt _ (by omega)⟩
      rw [← hd.out] at ha
      have hdw : (d : Int) < 256 := by omega
      have hor := or128 hd1
      obtain ⟨x, hx⟩ : ∃ x : UInt8, x = UInt8.ofNat (d + 128) := ⟨_, rfl⟩
      rw [← hx] at hor
      have hup : 0 < (u : Int) := by omega
      have hnx : acc.length + 1 ≤ 10 := by
        have := congrArg List.length HI.out
        rw [low_pos h0, List.length_append, List.length_cons] at this
        omega
      have hlow : acc ++ [x] ++ low (u / 128) = encR V := by
        rw [← HI.out, low_pos h0, hx, hd.out, List.append_assoc]; rfl
      have HL := Lib.hid hlow
      have HX := Lib.hid hx
      clear hlow hx
      have hnl := ho.len
      go_wp2_with (at_builtin; refine wpL_appB _ rfl (.tmp 14) (.tmp 19) rfl w.heap.size _ n acc rfl (ho.alloc _) _ _ 1 1 [x] rfl rfl (Sees.one wr (bv x) 5 _ rfl) (by omega) (by rw [World.size_alloc]; have := hB.size; omega) (n + 1) rfl (acc ++ [x]) rfl ?_; intro A' c' w4 ho4 hg4 _)
      go_roundw
      case rel => exact ⟨u / 128, A', n + 1, c', acc ++ [x], by go_num, rfl, by omega, ho4, below_app (hB.alloc hB.size _) (by rw [World.size_alloc]; have := hB.size; omega) (ho.alloc _) hg4, HL⟩
      case measure => simp [intOf]; omega
end Go.Proofs.YtcnofhlgiffkjaaGreatDoor
