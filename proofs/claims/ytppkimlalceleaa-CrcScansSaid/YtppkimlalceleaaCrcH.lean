/- The walks of slices.Grow, slices.Concat at bytes; of frames. -/
import Derived.Test.YtppkimlalceleaaCrcE
import Derived.Test.YtppkimlalceleaaAppZ
import Derived.Test.YtppkimlalceleaaInts
import Derived.Deep.RegionWith
namespace Go.Proofs.Ytppkimlalceleaa
open Go.RowKit CrcLaw
set_option linter.unusedVariables false
set_option linter.unusedSimpArgs false

theorem OwnB.take0 {w : World} {base n c : Nat} {A : Option Addr} {l : List UInt8} (h : OwnB w base (.slice A n c) n l) : OwnB w base (.slice A 0 c) 0 [] := by
  rcases h.2 with ⟨e, _⟩ | ⟨g, cap, cur, e, h1, h2, h3, h4, h5, h6⟩
  · injection e with e1 e2 e3
    subst e1 e3
    exact OwnB.nil _ _
  · injection e with e1 e2 e3
    subst e1 e3
    exact ⟨rfl, .inr ⟨g, _, cur, rfl, h1, h2, Nat.zero_le _, h4, h5, by simp⟩⟩

/-- A store into bytes of the call's own. -/
theorem OwnB.store {w : World} {base n c b o q : Nat} {l : List UInt8} (h : OwnB w base (.slice (some ⟨b, o, none⟩) n c) n l) (y : UInt8) :
    w.frozen? ⟨b, o + q, none⟩ = false ∧ base ≤ b ∧ OwnB (w.setCell ⟨b, o + q, none⟩ (bv y)) base (.slice (some ⟨b, o, none⟩) n c) n (l.set q y) := by
  rcases h.2 with ⟨e, _⟩ | ⟨g, cap, cur, e, h1, h2, h3, h4, h5, h6⟩
  · cases e
  · injection e with e1 e2 e3
    injection e1 with e1
    injection e1 with e0 e1 _
    subst e0 e1 e3
    have hb : Blk w b 5 cur := h2
    refine ⟨by simpa using hb.frozen q, h1, by simpa using h.len, .inr ⟨b, c, cur.setIfInBounds q (bv y), rfl, h1, by have := hb.put q (bv y); rw [Nat.zero_add]; exact this, h3, h4, by simpa using h5, ?_⟩⟩
    rw [Array.toList_setIfInBounds, List.take_set, h6, List.map_set]
theorem u8_any {z : Int} (h0 : 0 ≤ z) (h1 : z < 256) : ∃ y : UInt8, Value.int .u8 z = bv y := by
  refine ⟨UInt8.ofNat z.toNat, ?_⟩
  unfold bv
  congr 1
  simp
  omega
theorem u8_xor_any (a b : Int) : ∃ y : UInt8, Value.int .u8 (bits .xor .u8 a b) = bv y := by
  have e : ∃ z : Int, bits .xor .u8 a b = IntKind.u8.wrap z := ⟨_, rfl⟩
  obtain ⟨z, e⟩ := e
  rw [e, IntKind.wrap_u8]
  exact u8_any (by omega) (by omega)

/-- slices.Grow(nil, n). -/
theorem grow_any (n : Nat) (w : World) (hn : n ≤ 1000000) :
    Calls Try.prog 58 #[.slice none 0 0, .int .i64 (n : Int)] w fun e w' => ∃ A' c', e = .returned (.slice A' 0 c') ∧ OwnB w' w.heap.size (.slice A' 0 c') 0 [] ∧ Below w.heap.size w w' := by
  have f0 : (0 : Int) ≤ (n : Int) := by omega
  by_cases h : 0 < n
  · have h' : (0 : Int) < (n : Int) := by omega
    have ow := OwnB.nil w w.heap.size
    go_enter Try.func58, Try.ntmps58
    go_wp2_with (at_builtin; refine wpL_appZ _ rfl (.tmp 20) (.tmp 21) rfl w.heap.size _ 0 [] rfl ow _ n rfl (by omega) (by omega) (by omega) (Nat.le_refl _) n (by omega) ?_; intro A4 c4 w4 o4 hg4)
    go_ret
    exact ⟨A4, c4, rfl, o4.take0, below_app (Below.refl _ _) (Nat.le_refl _) ow hg4⟩
  · obtain rfl : n = 0 := by omega
    go_enter Try.func58, Try.ntmps58
    go_wp2_with fail
    go_ret
    exact ⟨none, 0, rfl, OwnB.nil _ _, Below.refl _ _⟩

/-- Slices that read as some bytes, each of at most k. -/
def SeesRows (w : World) (vs : List Value) (k : Nat) : Prop := ∀ (i : Nat) (u : Value), vs[i]? = some u → ∃ (A : Option Addr) (n c : Nat) (l : List UInt8), u = .slice A n c ∧ Sees w w.heap.size A (l.map bv) ∧ l.length = n ∧ n ≤ k
theorem SeesRows.on {w w' : World} {vs : List Value} {k : Nat} (h : SeesRows w vs k) (hb : Below w.heap.size w w') : SeesRows w' vs k := fun i u hu => by
  obtain ⟨A, n, c, l, e, s, h1, h2⟩ := h i u hu
  exact ⟨A, n, c, l, e, s.on hb, h1, h2⟩

/-- slices.Concat: some bytes. -/
theorem concat_any (A : Option Addr) (n c : Nat) (vs : List Value) (w : World) (h : Sees w w.heap.size A vs) (hn : vs.length = n) (hr : SeesRows w vs 10000) (hb : n ≤ 10) :
    Calls Try.prog 46 #[.slice A n c] w fun e w' => ∃ A' m c' l, e = .returned (.slice A' m c') ∧ m ≤ 10000 * n ∧ OwnB w' w.heap.size (.slice A' m c') m l ∧ Below w.heap.size w w' := by
  have Hn := Lib.hid hn; have Hr := Lib.hid hr; clear hn hr
  go_enter Try.func46, Try.ntmps46
  go_wp2_with fail
  go_loop [3, 11] (fun v3 v11 => ∃ i m : Nat, v3 = .int .i64 (m : Nat) ∧ v11 = .int .i64 (i : Nat) ∧ i ≤ n ∧ m ≤ 10000 * i) (fun _ v11 => n - (intOf v11).toNat)
  case atStart => exact ⟨0, 0, rfl, rfl, by omega, by omega⟩
  case round =>
    obtain ⟨i, m, rfl, rfl, hi, hm⟩ := hrel
    have hi0 : (0 : Int) ≤ (i : Int) := by omega
    have hm0 : (0 : Int) ≤ (m : Int) := by omega
    by_cases hin : i < n
    · have hin' : (i : Int) < (n : Int) := by omega
      have hiv : i < vs.length := by rw [Hn.out]; exact hin
      obtain ⟨b, o, hA, hbb, hcl⟩ := h.at_ hiv
      subst hA
      obtain ⟨Ai, ni, ci, l, hu, sl, hll, hln⟩ := Hr.out i vs[i] (List.getElem?_eq_getElem hiv)
      rw [hu] at hcl
      have hw : IntKind.i64.wrap ((m : Int) + (ni : Int)) = ((m + ni : Nat) : Int) := by rw [IntKind.wrap_i64]; omega
      have hs : ¬ (((m + ni : Nat) : Int) < 0) := by omega
      go_wp2_with fail
      go_round
      case rel => exact ⟨i + 1, m + ni, by go_num, by go_num, by omega, by omega⟩
      case measure => simp [intOf]; omega
    · obtain rfl : i = n := by omega
      go_wp2_with fail
      refine (grow_any m w (by omega)).mono ?_
      rintro e w1 ⟨A1, c1, rfl, o1, b1⟩
      have hz1 := b1.size
      go_wp2_with fail
      go_loopw [6, 27] (fun v6 v27 wr => ∃ (A6 : Option Addr) (k c6 : Nat) (l : List UInt8) (j : Nat), v6 = .slice A6 k c6 ∧ v27 = .int .i64 (j : Nat) ∧ j ≤ i ∧ k ≤ 10000 * j ∧ OwnB wr w.heap.size (.slice A6 k c6) k l ∧ Below w.heap.size w wr) (fun _ v27 _ => i - (intOf v27).toNat)
      case atStart => exact ⟨A1, 0, c1, [], 0, rfl, rfl, by omega, by omega, o1, b1⟩
      case round =>
        obtain ⟨A6, k, c6, l, j, rfl, rfl, hj, hk, o6, b6⟩ := hrel
        have hj0 : (0 : Int) ≤ (j : Int) := by omega
        have hz6 := b6.size
        by_cases hji : j < i
        · have hji' : (j : Int) < (i : Int) := by omega
          have hiv : j < vs.length := by rw [Hn.out]; exact hji
          obtain ⟨b, o, hA, hbb, hcl⟩ := h.at_ hiv
          subst hA
          obtain ⟨Ai, ni, ci, l2, hu, sl, hll, hln⟩ := Hr.out j vs[j] (List.getElem?_eq_getElem hiv)
          rw [hu] at hcl
          have hc2 := (bcell b6).1 b (o + j) hbb
          rw [hcl] at hc2
          have sl6 := sl.on b6
          have Hll := Lib.hid hll; clear hll
          go_wp2_with (at_builtin; refine wpL_appB _ rfl (.tmp 31) (.tmp 32) rfl w.heap.size _ k _ rfl o6 wr.heap.size Ai ni ci l2 rfl Hll.out sl6 (by omega) hz6 (k + ni) rfl _ rfl ?_; intro A7 c7 w7 o7 g7 _)
          go_roundw
          case rel => exact ⟨A7, k + ni, c7, _, j + 1, rfl, by go_num, by omega, by omega, o7, below_app b6 hz6 o6 g7⟩
          case measure => simp [intOf]; omega
        · obtain rfl : j = i := by omega
          go_wp2_with fail
          go_ret
          exact ⟨A6, k, c6, l, rfl, hk, o6, b6⟩

/-- frames: some bytes. -/
theorem frames_any (A : Option Addr) (n c : Nat) (vs : List Value) (w : World) (h : Sees w w.heap.size A vs) (hn : vs.length = n) (hc : n ≤ c) (hc2 : c ≤ 9223372036854775807)
    (hr : ∀ (i : Nat) (u : Value), vs[i]? = some u → ∃ (A : Option Addr) (n c : Nat) (l : List UInt8), u = .slice A n c ∧ Sees w w.heap.size A (l.map bv) ∧ l.length = n ∧ n ≤ c ∧ c ≤ 9223372036854775807) :
    Calls Try.prog 28 #[.slice A n c] w fun e w' => ∃ A' m c' l, e = .returned (.slice A' m c') ∧ m ≤ 2464 ∧ OwnB w' w.heap.size (.slice A' m c') m l ∧ Below w.heap.size w w' := by
  have Hn := Lib.hid hn; have Hr := Lib.hid hr; clear hn hr
  obtain ⟨m, hm⟩ : ∃ m, m = min n 8 := ⟨_, rfl⟩
  have hm1 : m ≤ n := by omega
  have hm2 : m ≤ 8 := by omega
  have Hm := Lib.hid hm; clear hm
  go_enter Try.func28, Try.ntmps28
  go_wp2_with (with_reducible refine wpL_min2 _ rfl (.tmp 8) (.const (.int .i64 8)) _ rfl _ _ rfl rfl (m : Int) (by have := Hm.out; omega) ?_)
  go_loopw [3, 12] (fun v3 v12 wr => ∃ (A3 : Option Addr) (k c3 : Nat) (l : List UInt8) (i : Nat), v3 = .slice A3 k c3 ∧ v12 = .int .i64 (i : Nat) ∧ i ≤ m ∧ k ≤ 308 * i ∧ OwnB wr w.heap.size (.slice A3 k c3) k l ∧ Below w.heap.size w wr) (fun _ v12 _ => m - (intOf v12).toNat)
  case atStart => exact ⟨none, 0, 0, [], 0, rfl, rfl, by omega, by omega, OwnB.nil _ _, Below.refl _ _⟩
  case round =>
    obtain ⟨A3, k, c3, l, i, rfl, rfl, hi, hk, o3, b3⟩ := hrel
    have hi0 : (0 : Int) ≤ (i : Int) := by omega
    have hz3 := b3.size
    by_cases him : i < m
    · have him' : (i : Int) < (m : Int) := by omega
      have hiv : i < vs.length := by rw [Hn.out]; omega
      obtain ⟨b, o, hA, hbb, hcl⟩ := h.at_ hiv
      subst hA
      obtain ⟨Ai, ni, ci, l2, hu, sl, hll, hln, hlc⟩ := Hr.out i vs[i] (List.getElem?_eq_getElem hiv)
      rw [hu] at hcl
      have hcl2 := (bcell b3).1 b (o + i) hbb
      rw [hcl] at hcl2
      have sl3 := sl.on b3
      have Hll := Lib.hid hll; clear hll
      go_wp2_with fail
      refine (few_any Ai ni ci 300 l2 _ sl3 Hll.out hln (by omega) (by omega)).mono ?_
      rintro e w4 ⟨q, A4, c4, rfl, hq, hqc, Hq, o4, b4⟩
      go_wp2_with fail
      refine (rframe_yes A4 q c4 _ w4 o4.sees Hq.out (by omega)).mono ?_
      rintro e w5 ⟨A5, c5, rfl, o5, b5⟩
      have b35 : Below wr.heap.size wr w5 := b4.trans (b5.mono b4.size)
      have b05 : Below w.heap.size w w5 := b3.trans (b35.mono hz3)
      have o35 := o3.on b35
      have hz5 := b05.size
      go_wp2_with (at_builtin; refine wpL_appB _ rfl (.tmp 16) (.tmp 19) rfl w.heap.size _ k _ rfl o35 w5.heap.size A5 (8 + q) c5 _ rfl o5.len o5.sees (by omega) hz5 (k + (8 + q)) rfl _ rfl ?_; intro A7 c7 w7 o7 g7 _)
      go_roundw
      case rel => exact ⟨A7, k + (8 + q), c7, _, i + 1, rfl, by go_num, by omega, by omega, o7, b05.trans (below_app (Below.refl _ _) hz5 o35 g7)⟩
      case measure => simp [intOf]; omega
    · obtain rfl : i = m := by omega
      go_wp2_with fail
      go_ret
      exact ⟨A3, k, c3, l, rfl, by omega, o3, b3⟩
set_option maxHeartbeats 1000000 in
/-- Damage.apply: some bytes. -/
theorem apply_any (k0 bi at_ : Int) (Am : Option Addr) (nm cm : Nat) (lm : List UInt8) (A : Option Addr) (n c : Nat) (l : List UInt8) (w : World) (hm : Sees w w.heap.size Am (lm.map bv)) (hnm : lm.length = nm) (hcm : nm ≤ cm) (hcm2 : nm ≤ 9223372036854775807)
    (h : Sees w w.heap.size A (l.map bv)) (hn : l.length = n) (hb : n ≤ 2464) (hk : 0 ≤ k0) (hk2 : k0 ≤ 255) (hbi : 0 ≤ bi) (hbi2 : bi ≤ 255) (hat : 0 ≤ at_) (hat2 : at_ ≤ 65535) :
    Calls Try.prog 27 #[.agg #[.int .u8 k0, .int .u8 bi, .int .u16 at_, .slice Am nm cm], .slice A n c] w fun e w' => ∃ (A' : Option Addr) (m c' : Nat) (l' : List UInt8), e = .returned (.slice A' m c') ∧ m ≤ c' ∧ m ≤ 30000 ∧ Sees w' w'.heap.size A' (l'.map bv) ∧ Hid (l'.length = m) ∧ Below w.heap.size w w' := by
  have Hn := Lib.hid hn; have Hnm := Lib.hid hnm; clear hn hnm
  obtain ⟨k, rfl⟩ := Int.eq_ofNat_of_zero_le hk
  obtain ⟨bi, rfl⟩ := Int.eq_ofNat_of_zero_le hbi
  obtain ⟨at_, rfl⟩ := Int.eq_ofNat_of_zero_le hat
  obtain ⟨q, hq⟩ : ∃ q : Nat, (at_ : Int) % ((n : Int) + 1) = (q : Int) := ⟨at_ % (n + 1), (Int.natCast_emod at_ (n + 1)).symm⟩
  have hqn : q ≤ n := by have := Int.emod_lt_of_pos (at_ : Int) (b := (n : Int) + 1) (by omega); omega
  have hqn' : (q : Int) ≤ (n : Int) := by omega
  have hq0 : (0 : Int) ≤ (q : Int) := by omega
  obtain ⟨k3, hk3⟩ : ∃ k3 : Nat, (k : Int) % 3 = (k3 : Int) := ⟨k % 3, (Int.natCast_emod k 3).symm⟩
  have hk30 : k3 < 3 := by omega
  have sa := (h.alloc (Nat.le_refl _) (.cells #[.int .u8 k, .int .u8 bi, .int .u16 at_, .slice Am nm cm] 53)).more (B' := (w.alloc (.cells #[.int .u8 k, .int .u8 bi, .int .u16 at_, .slice Am nm cm] 53)).heap.size) (by simp)
  have hB := (Blk.new w 53 #[.int .u8 k, .int .u8 bi, .int .u16 at_, .slice Am nm cm])
  go_enter Try.func27, Try.ntmps27
  go_wp2_with fail
  refine (clone_any A n c l _ sa Hn.out (by omega)).mono ?_
  rintro e w1 ⟨A1, c1, rfl, o1, b1⟩
  have hB1 : Blk w1 w.heap.size _ _ := hB.on b1
  have e0 : w1.cell? ⟨w.heap.size, 0, none⟩ = some (.int .u8 (k : Int)) := hB1.cell 0
  have e1 : w1.cell? ⟨w.heap.size, 1, none⟩ = some (.int .u8 (bi : Int)) := hB1.cell 1
  have e2 : w1.cell? ⟨w.heap.size, 2, none⟩ = some (.int .u16 (at_ : Int)) := hB1.cell 2
  have e3 : w1.cell? ⟨w.heap.size, 3, none⟩ = some (.slice Am nm cm) := hB1.cell 3
  have b01 : Below w.heap.size w w1 := ((Below.refl _ _).alloc (Nat.le_refl _) _).trans (b1.mono (by simp))
  have hz1 := b01.size
  have hsz : w.heap.size < w1.heap.size := by have := b1.size; simp at this; omega
  have hr1 := o1.room
  have hr1' : (q : Int) ≤ (c1 : Int) := by omega
  have hl1 := Lib.hid o1.len
  by_cases hz : k3 = 0
  · subst hz
    go_wp2_with fail
    go_ret
    refine ⟨A1, q, c1, l.take q, rfl, by omega, by omega, ?_, Lib.hid (by simp [hl1.out]; omega), b01⟩
    rw [List.map_take]; exact o1.sees.take_ q
  by_cases hz1 : k3 = 1
  · subst hz1
    by_cases hqn2 : q < n
    · have hqn3 : (q : Int) < (n : Int) := by omega
      obtain ⟨b, o, x, hA1, hb, Hx, hcell⟩ := o1.sees.byte (k := q) (by rw [hl1.out]; exact hqn2)
      subst hA1
      have hfz := (o1.store (q := q) 0).1
      have hbb := (o1.store (q := q) 0).2.1
      go_wp2_with fail
      simp only [hq]
      go_region
      obtain ⟨y, hy⟩ := u8_xor_any (x.toNat : Int) (2 ^ (bi % 8) % 256)
      have ost := (o1.store (q := q) y).2.2
      rw [← hy] at ost
      go_wp2_with fail
      go_ret
      have b13 : Below w.heap.size w (w1.setCell ⟨b, o + q, none⟩ (Value.int IntKind.u8 (bits BinOp.xor IntKind.u8 (↑x.toNat) (2 ^ (bi % 8) % 256)))) := b01.setCell (p := ⟨b, o + q, none⟩) (by simp at hbb; show w.heap.size ≤ b; omega) _
      exact ⟨_, n, c1, _, rfl, by omega, by omega, ost.sees.dn 1, Lib.hid ost.len, below_drewN b13 1⟩
    · have hqn3 : ¬ (q : Int) < (n : Int) := by omega
      go_wp2_with fail
      go_ret
      exact ⟨A1, n, c1, l, rfl, by omega, by omega, o1.sees, hl1, b01⟩
  obtain rfl : k3 = 2 := by omega
  have sm1 : Sees w1 w1.heap.size Am (lm.map bv) := (hm.below b01).more (by omega)
  have Hld := Lib.hid (show (l.drop q).length = n - q by simp [hl1.out])
  have Hlt := Lib.hid (show (l.take q).length = q by simp [hl1.out]; omega)
  have st1 : Sees w1 w1.heap.size A1 ((l.take q).map bv) := by rw [List.map_take]; exact o1.sees.take_ q
  have sd1 : Sees w1 w1.heap.size (if c1 = q then A1 else A1.map (·.add q)) ((l.drop q).map bv) := by
    rw [List.map_drop]; exact o1.sees.drop_ (by simp [hl1.out]; omega) (by simp [hl1.out]; omega)
  have hrows : ∀ (w3 : World) (A3 : Option Addr) (q3 c3 : Nat) (A4 : Option Addr) (d4 c4 : Nat), d4 = n - q → Below w1.heap.size w1.drew w3 → OwnB w3 w1.heap.size (.slice A3 q3 c3) q3 (lm.take 20) → q3 ≤ 20 → Sees w1 w1.heap.size A4 ((l.drop q).map bv) →
      SeesRows w3 [.slice A1 q c1, .slice A3 q3 c3, .slice A4 d4 c4] 10000 := by
    intro w3 A3 q3 c3 A4 d4 c4 hd b3 o3 h3 s4 i u hu
    subst hd
    match i, hu with
    | 0, hu => simp at hu; subst hu; exact ⟨_, _, _, _, rfl, (Sees.on (w := w1.drew) st1 b3), Hlt.out, by omega⟩
    | 1, hu => simp at hu; subst hu; exact ⟨_, _, _, _, rfl, o3.sees, o3.len, by omega⟩
    | 2, hu => simp at hu; subst hu; exact ⟨_, _, _, _, rfl, (Sees.on (w := w1.drew) s4 b3), Hld.out, by omega⟩
    | i + 3, hu => simp at hu
  by_cases hcq : c1 = q
  · rw [if_pos hcq] at sd1
    obtain rfl : n = q := by omega
    subst hcq
    go_wp2_with fail
    simp only [hq]
    go_region_with (first
    | (go_at_call 14; refine (few_any Am nm cm 20 lm _ (by exact sm1) Hnm.out hcm (by omega) (by omega)).mono ?_; rintro e w3 ⟨q3, A3, c3, rfl, hq3, hqc3, Hq3, o3, b3⟩)
    | (go_at_call 46; refine (concat_any _ 3 3 _ _ (by exact Sees.laid w3 _ 22 _ _ rfl _ rfl) rfl (by exact hrows _ A3 q3 c3 _ _ _ (by omega) (b3.alloc (by exact b3.size) _) (o3.alloc _) hq3 sd1) (by omega)).mono ?_; rintro e w5 ⟨A5, m5, c5, l5, rfl, hm5, o5, b5⟩))
    go_wp2_with fail
    go_ret
    have b35 := ((b3.alloc (by exact b3.size) (.cells #[.slice A1 c1 c1, .slice A3 q3 c3, .slice A1 0 0] 22)).trans (b5.mono (by have := b3.size; simp at this ⊢; omega)))
    exact ⟨A5, m5, c5, l5, rfl, o5.room, by omega, o5.sees, Lib.hid o5.len, (below_drewN b01 1).trans (b35.mono b01.size)⟩
  · rw [if_neg hcq] at sd1
    go_wp2_with fail
    simp only [hq]
    go_region_with (first
    | (go_at_call 14; refine (few_any Am nm cm 20 lm _ (by exact sm1) Hnm.out hcm (by omega) (by omega)).mono ?_; rintro e w3 ⟨q3, A3, c3, rfl, hq3, hqc3, Hq3, o3, b3⟩)
    | (go_at_call 46; refine (concat_any _ 3 3 _ _ (by exact Sees.laid w3 _ 22 _ _ rfl _ rfl) rfl (by exact hrows _ A3 q3 c3 _ _ _ (by omega) (b3.alloc (by exact b3.size) _) (o3.alloc _) hq3 sd1) (by omega)).mono ?_; rintro e w5 ⟨A5, m5, c5, l5, rfl, hm5, o5, b5⟩))
    go_wp2_with fail
    go_ret
    have b35 := ((b3.alloc (by exact b3.size) (.cells #[.slice A1 q c1, .slice A3 q3 c3, .slice (A1.map (·.add q)) (n - q) (c1 - q)] 22)).trans (b5.mono (by have := b3.size; simp at this ⊢; omega)))
    exact ⟨A5, m5, c5, l5, rfl, o5.room, by omega, o5.sees, Lib.hid o5.len, (below_drewN b01 1).trans (b35.mono b01.size)⟩
end Go.Proofs.Ytppkimlalceleaa
