/- The reference's reader: its state, Get, number, End, Uint, Number. -/
import Derived.Test.YtfbdfpnmopgkoaaDoorWireJ
namespace Go.Proofs.YtfbdfpnmopgkoaaDoor
open Go.RowKit
set_option linter.unusedVariables false
set_option linter.unusedSimpArgs false

/-- Block g is a reader of the reference's: the bytes p are left, by the slice A, n, c, in a block below B; the error is e. -/
structure RrIs (w : World) (B g : Nat) (A : Option Addr) (n c : Nat) (p : List UInt8) (e : Int) : Prop where
  blk : Blk w g 30 #[.slice A n c, .int .i64 e]
  sees : Sees w B A (p.map bv)
  len : p.length = n
  room : n ≤ c
  max : c ≤ 9223372036854775807
  big : n ≤ 1000000000000
  base : B ≤ g
def RrAt (w : World) (B g : Nat) (p : List UInt8) (e : Int) : Prop := ∃ A n c, RrIs w B g A n c p e
theorem RrIs.cells {w : World} {B g n c : Nat} {A : Option Addr} {p : List UInt8} {e : Int} (h : RrIs w B g A n c p e) :
    w.cell? ⟨g, 0, none⟩ = some (.slice A n c) ∧ w.cell? ⟨g, 1, none⟩ = some (.int .i64 e) ∧ w.frozen? ⟨g, 0, none⟩ = false ∧ w.frozen? ⟨g, 1, none⟩ = false := by
  refine ⟨?_, ?_, h.blk.frozen 0, h.blk.frozen 1⟩
  · rw [h.blk.cell]; rfl
  · rw [h.blk.cell]; rfl
theorem RrIs.sz {w : World} {B g n c : Nat} {A : Option Addr} {p : List UInt8} {e : Int} (h : RrIs w B g A n c p e) : B ≤ w.heap.size := Nat.le_trans h.base (Nat.le_of_lt h.blk.lt)
/-- It stays where a block beyond B has turned, but its own. -/
theorem RrIs.only {w w' : World} {B g n c k : Nat} {A : Option Addr} {p : List UInt8} {e : Int} (h : RrIs w B g A n c p e) (ho : Only w w' k) (hB : B ≤ k) (hk : g ≠ k) : RrIs w' B g A n c p e :=
  ⟨h.blk.only ho hk, h.sees.below (ho.below h.sz hB (fun _ e => by cases e)), h.len, h.room, h.max, h.big, h.base⟩
theorem RrAt.only {w w' : World} {B g k : Nat} {p : List UInt8} {e : Int} (h : RrAt w B g p e) (ho : Only w w' k) (hB : B ≤ k) (hk : g ≠ k) : RrAt w' B g p e := by
  obtain ⟨A, n, c, h⟩ := h
  exact ⟨A, n, c, h.only ho hB hk⟩
theorem RrAt.on {w w' : World} {B g : Nat} {p : List UInt8} {e : Int} (h : RrAt w B g p e) (hb : Below w.heap.size w w') : RrAt w' B g p e := by
  obtain ⟨A, n, c, h⟩ := h
  exact ⟨A, n, c, h.blk.on hb, h.sees.below (hb.mono h.sz), h.len, h.room, h.max, h.big, h.base⟩
theorem RrIs.setErr {w : World} {B g n c : Nat} {A : Option Addr} {p : List UInt8} {e : Int} (h : RrIs w B g A n c p e) (e' : Int) : RrIs (w.setCell ⟨g, 1, none⟩ (.int .i64 e')) B g A n c p e' :=
  ⟨by simpa using h.blk.put 1 (.int .i64 e'), h.sees.below ((only_set _).below h.sz h.base (fun _ e => by cases e)), h.len, h.room, h.max, h.big, h.base⟩
theorem RrIs.setLeft {w : World} {B g n c n' c' : Nat} {A A' : Option Addr} {p p' : List UInt8} {e : Int} (h : RrIs w B g A n c p e) (hs : Sees w B A' (p'.map bv)) (hn : p'.length = n') (hc : n' ≤ c') (hm : c' ≤ 9223372036854775807) (hb : n' ≤ 1000000000000) :
    RrIs (w.setCell ⟨g, 0, none⟩ (.slice A' n' c')) B g A' n' c' p' e :=
  ⟨by simpa using h.blk.put 0 (.slice A' n' c'), hs.below ((only_set _).below h.sz h.base (fun _ e => by cases e)), hn, hc, hm, hb, h.base⟩

set_option maxRecDepth 100000 in
/-- Get. -/
theorem get_any (A : Option Addr) (n c : Nat) (p : List UInt8) (w : World) (hS : Sees w w.heap.size A (p.map bv)) (hn : p.length = n) (hbig0 : n ≤ 1000000000000) :
    Calls Tryd.prog 69 #[.slice A n c] w fun e w' => e = .returned (.tuple #[.int .u64 ((num p).1 : Nat), .int .i64 ((num p).2 : Nat)]) ∧ w = w' := by
  have Hl := Lib.hid hn
  have hbig : (n : Int) ≤ 1000000000000 := by omega
  clear hn
  go_enter Tryd.func69, Tryd.ntmps69
  go_wp2_with fail
  go_loop [4, 5] (fun vv vk => ∃ (v k : Nat), vv = .int .u64 v ∧ vk = .int .i64 k ∧ k ≤ n ∧ v < 18446744073709551616 ∧ Hid (k = 0 → v = 0) ∧ Hid (numGo v k (p.drop k) = num p)) (fun _ vk => n - (intOf vk).toNat)
  case atStart => exact ⟨0, 0, rfl, rfl, Nat.zero_le _, by omega, Lib.hid (fun _ => rfl), Lib.hid rfl⟩
  case round =>
    obtain ⟨v, k, rfl, rfl, hk, hv, H0, HI⟩ := hrel
    by_cases hlt : k < n
    · have hkn : (k : Int) < (n : Int) := by omega
      obtain ⟨b, o, x, rfl, hb1, Hx, hx, hc1⟩ := Sees.byte (k := k) hS (by rw [Hl.out]; exact hlt)
      have hnum := HI.out
      rw [List.drop_eq_getElem_cons (by rw [Hl.out]; exact hlt), show p[k]'(by rw [Hl.out]; exact hlt) = x from by have := Hx.out; rw [List.getElem?_eq_getElem (by rw [Hl.out]; exact hlt)] at this; injection this, numGo] at hnum
      obtain ⟨d, hd, hd1, hdi⟩ : ∃ d : Nat, Hid (d = x.toNat % 128) ∧ d < 128 ∧ ((x.toNat : Nat) : Int) % 128 = (d : Int) := ⟨_, Lib.hid rfl, Nat.mod_lt _ (by omega), by omega⟩
      have HL := Lib.hid (lt128 x)
      by_cases hk0 : k = 0
      · obtain rfl : v = 0 := H0.out hk0
        subst hk0
        simp only [Nat.add_zero] at hc1
        by_cases hx0 : x = 128
        · rw [if_pos (.inl ⟨rfl, hx0⟩)] at hnum
          have HN := Lib.hid hnum
          have h128 : (((x.toNat : Nat) : Int) == 128) = true := by rw [hx0]; rfl
          clear hx0 hnum
          go_wp2_with fail
          go_ret2
          exact ⟨by rw [← HN.out]; rfl, rfl⟩
        · rw [if_neg (by rintro (⟨_, h⟩ | h); exact hx0 h; omega)] at hnum
          have h128 : (((x.toNat : Nat) : Int) == 128) = false := by rw [b128, decide_eq_false hx0]
          rw [← hd.out] at hnum
          clear hx0
          by_cases h7 : x < 128
          · rw [if_pos h7] at hnum
            have HN := Lib.hid hnum
            have h7i := HL.out.1 h7
            clear h7 hnum
            go_wp2_with fail
            go_ret2
            exact ⟨by rw [← HN.out]; simp, rfl⟩
          · rw [if_neg h7] at hnum
            have HN := Lib.hid hnum
            have h7i : ¬ ((x.toNat : Nat) : Int) < 128 := fun e => h7 (HL.out.2 e)
            clear h7 hnum
            go_wp2_with fail
            go_round
            case rel => exact ⟨d, 1, by go_num, by go_num, by omega, by omega, Lib.hid (by omega), Lib.hid (by have := HN.out; simpa using this)⟩
            case measure => simp [intOf]; omega
      · have hk0' : ((k : Int) == 0) = false := beq_false_of_ne (by omega)
        by_cases hbad : 144115188075855871 < v
        · rw [if_pos (.inr hbad)] at hnum
          have HN := Lib.hid hnum
          have hbi : (144115188075855871 : Int) < (v : Int) := by omega
          clear hnum hk0 hbad
          go_wp2_with fail
          go_ret2
          exact ⟨by rw [← HN.out]; rfl, rfl⟩
        · rw [if_neg (by rintro (⟨h, _⟩ | h); exact hk0 h; omega)] at hnum
          rw [← hd.out] at hnum
          have hvs : v ≤ 144115188075855871 := by omega
          have hvn : ¬ (144115188075855871 : Int) < (v : Int) := by omega
          have hv128 : 128 * (v : Int) < 18446744073709551616 := by omega
          have hv2 : 128 * v + d < 18446744073709551616 := by omega
          by_cases h7 : x < 128
          · rw [if_pos h7] at hnum
            have HN := Lib.hid hnum
            have h7i := HL.out.1 h7
            clear h7 hnum hk0 hbad
            go_wp2_with fail
            go_ret2
            exact ⟨by rw [← HN.out]; simp, rfl⟩
          · rw [if_neg h7] at hnum
            have HN := Lib.hid hnum
            have h7i : ¬ ((x.toNat : Nat) : Int) < 128 := fun e => h7 (HL.out.2 e)
            clear h7 hnum hk0 hbad
            go_wp2_with fail
            go_round
            case rel => exact ⟨128 * v + d, k + 1, by go_num, by go_num, by omega, hv2, Lib.hid (by omega), HN⟩
            case measure => simp [intOf]; omega
    · have hnum := HI.out
      rw [List.drop_eq_nil_of_le (by rw [Hl.out]; omega), numGo] at hnum
      have HN := Lib.hid hnum
      clear hnum
      go_wp2_with fail
      go_ret2
      exact ⟨by rw [← HN.out]; rfl, rfl⟩
end Go.Proofs.YtfbdfpnmopgkoaaDoor
