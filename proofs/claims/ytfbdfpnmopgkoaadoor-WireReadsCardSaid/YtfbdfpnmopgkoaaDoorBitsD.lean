/- The walk of bits.Read. -/
import Derived.Test.YtfbdfpnmopgkoaaDoorBitsC
import Derived.Laws.ResultCell
namespace Go.Proofs.YtfbdfpnmopgkoaaDoor
open Go.RowKit
set_option linter.unusedVariables false
set_option linter.unusedSimpArgs false

/-- The number with these bytes, the lowest first. -/
def bval (l : List UInt8) : Nat := vl 8 (l.map UInt8.toNat)
/-- The last byte is not zero, and there are at most 512. -/
def canon (l : List UInt8) : Bool := decide (l.length ≤ 512) && (l.getLast? != some 0)
theorem vl_snoc (t : Nat) (l : List Nat) (d : Nat) : vl t (l ++ [d]) = vl t l + 2 ^ (t * l.length) * d := by
  induction l with
  | nil => simp [vl]
  | cons x l ih =>
    have e : 2 ^ (t * (l.length + 1)) = 2 ^ t * 2 ^ (t * l.length) := by rw [Nat.mul_succ, Nat.pow_add, Nat.mul_comm]
    rw [List.cons_append, vl, vl, ih, List.length_cons, e, Nat.mul_add, Nat.mul_assoc, Nat.add_assoc]
theorem bytes_lt (l : List UInt8) : ∀ d ∈ l.map UInt8.toNat, d < 2 ^ 8 := by
  intro d hd
  obtain ⟨b, _, rfl⟩ := List.mem_map.1 hd
  exact b.toNat_lt
theorem bval_take {l : List UInt8} {k : Nat} {x : UInt8} (hx : l[k]? = some x) : bval (l.take (k + 1)) = bval (l.take k) ||| x.toNat <<< (8 * k) := by
  have hk : k < l.length := (List.getElem?_eq_some_iff.1 hx).1
  have h1 := vl_lt 8 ((l.take k).map UInt8.toNat) (bytes_lt _)
  rw [List.length_map, List.length_take, Nat.min_eq_left (Nat.le_of_lt hk)] at h1
  unfold bval
  rw [List.take_add_one, hx, List.map_append]
  show vl 8 (List.map UInt8.toNat (l.take k) ++ [x.toNat]) = _
  rw [vl_snoc, List.length_map, List.length_take, Nat.min_eq_left (Nat.le_of_lt hk), Nat.add_comm, Nat.two_pow_add_eq_or_of_lt h1, Nat.or_comm, Nat.shiftLeft_eq, Nat.mul_comm x.toNat]
theorem bval_nil : bval [] = 0 := rfl
/-- The bytes of the number: the list, if its last byte is not zero. -/
theorem dg_bval {l : List UInt8} (h : l.getLast? ≠ some 0) : dg 8 (bval l) = l.map UInt8.toNat := by
  refine dg_vl (by omega) _ (bytes_lt l) ?_
  intro d hd e
  rw [List.getLast?_map] at hd
  cases hl : l.getLast? with
  | none => rw [hl] at hd; simp at hd
  | some y =>
    rw [hl] at hd
    subst e
    simp at hd
    exact h (by rw [hl]; congr 1; exact UInt8.toNat_inj.1 (by simpa using hd))
theorem sbytes_bval {l : List UInt8} (h : l.getLast? ≠ some 0) : sbytes (bval l) = l := by
  unfold sbytes
  rw [dg_bval h, List.map_map]
  conv => rhs; rw [← List.map_id l]
  exact List.map_congr_left fun x _ => by simp
theorem bval_sbytes (M : Nat) : bval (sbytes M) = M := by
  unfold bval sbytes
  rw [List.map_map]
  conv => rhs; rw [← vl_dg (t := 8) (by omega) M]
  congr 1
  conv => rhs; rw [← List.map_id (dg 8 M)]
  exact List.map_congr_left fun x hx => by
    have := fx_lt hx
    simp
    omega
theorem sbytes_last (M : Nat) : (sbytes M).getLast? ≠ some 0 := by
  unfold sbytes
  rw [List.getLast?_map]
  intro h
  by_cases hM : M = 0
  · subst hM; simp [dg_zero] at h
  · have hl := len2_pos (t := 8) hM
    rw [List.getLast?_eq_getElem?, dg_length, dg_get (by omega), hl, Nat.add_sub_cancel] at h
    have hb := word_bit 8 M (M.log2 / 8) (M.log2 % 8)
    rw [Nat.div_add_mod, Nat.testBit_log2 hM, decide_eq_true (Nat.mod_lt _ (by omega))] at hb
    have h1 : M / 2 ^ (8 * (M.log2 / 8)) % 2 ^ 8 < 2 ^ 8 := Nat.mod_lt _ (by omega)
    generalize M / 2 ^ (8 * (M.log2 / 8)) % 2 ^ 8 = y at h hb h1
    have h2 : UInt8.ofNat y = 0 := by simpa using h
    have h3 := congrArg UInt8.toNat h2
    have h4 : y = 0 := by simp at h3; omega
    subst h4
    simp at hb

/-- Two results, the first a set read from its cell. -/
theorem ret_set2 {fn : Func} {R : Ending → World → Prop} {a : Act} {w : World} {p q : Tmp} (h : fn.results = #[.cell p 48, .tmp q]) (g : Nat) (u : Value) (hp : a.tmps.getD p undef = .pointer (some ⟨g, 0, none⟩))
    (hb : Blk w g 48 #[u]) (hd : a.defers = []) (hR : R (.returned (.tuple #[.agg #[u], a.tmps.getD q undef])) w) : bodyPost Tryd.prog fn R .ret a w := by
  refine bodyPost_ret ?_ hd hR
  rw [results_cell_tmp h, hp]
  have := run_loadVar_row w g _ 48 #[u] (0, 0) _ hb Tryd.underlying48 rfl (by kernel_rfl)
  simp [asAddr, this, Result.andThen]
theorem SetAt.zero (w : World) (B : Nat) (A : Option Addr) (c : Nat) : SetAt w B (.agg #[.slice A 0 c]) 0 :=
  ⟨A, 0, c, rfl, Nat.zero_le _, Nat.zero_le _, rfl, Sees.nil _ _ _, fun _ _ _ h => absurd rfl h⟩
/-- A byte put into its word. -/
theorem fx_byte {l : List UInt8} {k n : Nat} {x : UInt8} (hx : l[k]? = some x) : fx 64 n (bval (l.take (k + 1))) = (fx 64 n (bval (l.take k))).set (k / 8) (bval (l.take k) / 2 ^ (64 * (k / 8)) % 2 ^ 64 ||| x.toNat <<< (8 * (k % 8))) := by
  have h := fx_put (t := 64) (n := n) (M := bval (l.take k)) (X := x.toNat) (s := 8 * k) (u := 8) x.toNat_lt (by omega) (by omega)
  rw [show 8 * k / 64 = k / 8 by omega, show 8 * k % 64 = 8 * (k % 8) by omega] at h
  rw [bval_take hx, h]
theorem shl_u64 {x m : Nat} (hx : x < 256) (hm : m ≤ 56) : ∃ p : Nat, Hid (p = x <<< m) ∧ p < 18446744073709551616 ∧ IntKind.u64.wrap ((x : Int) * 2 ^ m) = (p : Int) := by
  have h1 : 2 ^ m ≤ 2 ^ 56 := Nat.pow_le_pow_right (by omega) hm
  have h2 : x * 2 ^ m < 18446744073709551616 := Nat.lt_of_le_of_lt (Nat.mul_le_mul (Nat.le_of_lt_succ (show x < 255 + 1 from hx)) h1) (by omega)
  refine ⟨x * 2 ^ m, Lib.hid (by rw [Nat.shiftLeft_eq]), h2, ?_⟩
  have e : (x : Int) * 2 ^ m = ((x * 2 ^ m : Nat) : Int) := by simp
  rw [e, IntKind.wrap_u64]
  omega

set_option maxRecDepth 100000 in
/-- bits.Read. -/
theorem read_any (A : Option Addr) (n c : Nat) (l : List UInt8) (w : World) (h : Sees w w.heap.size A (l.map bv)) (hn : l.length = n) (hb : n ≤ 140737488355328) :
    Calls Tryd.prog 57 #[.slice A n c] w fun e w' => ∃ v', e = .returned (.tuple #[v', .int .i64 (if canon l then 0 else 6)]) ∧ SetAt w' w'.heap.size v' (if canon l then bval l else 0) ∧ Below w.heap.size w w' := by
  have bA : Below w.heap.size w (w.alloc (.cells #[.slice none 0 0] 48)) := (Below.refl _ _).alloc (Nat.le_refl _) _
  have hA := h.on bA
  have b0 := Blk.new w 48 #[.slice none 0 0]
  by_cases hbig : 512 < n
  · have hC : canon l = false := by unfold canon; rw [decide_eq_false (by omega)]; rfl
    rw [hC]
    have Hn := Lib.hid hn
    clear hn
    go_enter Tryd.func57, Tryd.ntmps57
    go_wp2_with fail
    refine ret_set2 rfl w.heap.size (.slice none 0 0) rfl b0 rfl ?_
    exact ⟨_, rfl, SetAt.zero _ _ _ _, bA⟩
  · by_cases h0 : n = 0
    · subst h0
      obtain rfl : l = [] := List.eq_nil_of_length_eq_zero hn
      clear hn hbig
      go_enter Tryd.func57, Tryd.ntmps57
      go_wp2_with (refine wpL_mkW _ rfl _ _ rfl _ _ 0 rfl rfl rfl rfl (by omega) ?_
                   intro w2 G2 bw2 z2)
      go_loopw [32] (fun i wr => i = .int .i64 0 ∧ wr = w2) (fun _ _ => 0)
      case atStart => exact ⟨rfl, rfl⟩
      case round =>
        obtain ⟨rfl, rfl⟩ := hrel
        have b2 := b0.on bw2
        have c2 := b2.cell 0
        have f2 := b2.frozen 0
        simp at c2 f2
        have B2 := Lib.hid b2
        clear b2 b0
        have bw : Below w.heap.size w wr := bA.trans (bw2.mono (by simp))
        go_wp2_with fail
        refine ret_set2 rfl w.heap.size (.slice (some ⟨w.heap.size + 1, 0, none⟩) 0 0) rfl ?_ rfl ?_
        · have := B2.out.put 0 (.slice (some ⟨w.heap.size + 1, 0, none⟩) 0 0)
          simpa using this
        exact ⟨_, rfl, SetAt.zero _ _ _ _, bw.setCell (Nat.le_refl _) _⟩
    · obtain ⟨x, hx⟩ : ∃ x, l[n - 1]? = some x := ⟨_, List.getElem?_eq_getElem (by omega)⟩
      obtain ⟨b, o, y, rfl, hb1, hy, hyb, hc1⟩ := Sees.byte (k := n - 1) hA (by omega)
      obtain rfl : y = x := by rw [hx] at hy; injection hy with hy; exact hy.symm
      have hlast : l.getLast? = some y := by rw [List.getLast?_eq_getElem?, hn]; exact hx
      have hn1 : (n : Int) - 1 = ((n - 1 : Nat) : Int) := by omega
      have hn2 : ((n - 1 : Nat) : Int) < (n : Int) := by omega
      have hn3 : 0 < (n : Int) := by omega
      have hn4 : (n : Int) ≤ 512 := by omega
      have hn4' : ¬ (512 : Int) < (n : Int) := by omega
      have Hn := Lib.hid hn
      have Hy := Lib.hid hy
      have Hx := Lib.hid hx
      have Hl := Lib.hid hlast
      have H0 := Lib.hid h0
      clear hn hy hx hlast hbig h0
      by_cases hz : y = 0
      · subst hz
        have hC : canon l = false := by unfold canon; rw [Hl.out]; simp
        rw [hC]
        go_enter Tryd.func57, Tryd.ntmps57
        go_wp2_with fail
        all_goals
          refine ret_set2 rfl w.heap.size (.slice none 0 0) rfl b0 rfl ?_
          exact ⟨_, rfl, SetAt.zero _ _ _ _, bA⟩
      · have hz' : ¬ ((y.toNat : Nat) : Int) = 0 := by
          intro e
          exact hz (UInt8.toNat_inj.1 (by simpa using e))
        have hC : canon l = true := by unfold canon; rw [Hl.out, decide_eq_true (by rw [Hn.out]; omega)]; simpa using hz
        rw [hC]
        obtain ⟨n', hn', hn5, hn6⟩ : ∃ n' : Nat, Hid (n' = (n + 7) / 8) ∧ ((n : Int) + 7) / 8 = (n' : Int) ∧ n' ≤ 64 := ⟨(n + 7) / 8, Lib.hid rfl, by omega, by omega⟩
        go_enter Tryd.func57, Tryd.ntmps57
        go_wp2_with (refine wpL_mkW _ rfl _ _ rfl _ _ n' rfl rfl (by omega) (by omega) (by omega) ?_
                     intro w2 G2 bw2 z2)
        have hlen : ∀ k, k ≤ n → (l.take k).length = k := fun k hk => by rw [List.length_take, Hn.out]; omega
        go_loopw [32] (fun i wr => ∃ (k : Nat), k ≤ n ∧ i = .int .i64 k ∧ Hid (Blk wr (w.heap.size + 1) 38 ((fx 64 n' (bval (l.take k))).map wv).toArray) ∧ Below (w.alloc (.cells #[.slice none 0 0] 48)).heap.size (w.alloc (.cells #[.slice none 0 0] 48)) wr) (fun i _ => n - (intOf i).toNat)
        case atStart => exact ⟨0, Nat.zero_le _, rfl, Lib.hid (by rw [List.take_zero, bval_nil, fx_zero]; have := G2.out; simpa using this), bw2⟩
        case round =>
          obtain ⟨k, hk, rfl, G, bw2⟩ := hrel
          by_cases hlt : k < n
          · obtain ⟨b', o', x, hAx, hbx, hx, hxb, hcx⟩ := Sees.byte (k := k) (hA.on bw2) (by rw [Hn.out]; exact hlt)
            simp only [Option.some.injEq, Addr.mk.injEq, and_true] at hAx
            obtain ⟨rfl, rfl⟩ := hAx
            obtain ⟨q, hq, hqn⟩ : ∃ q : Nat, (k : Int) / 8 = (q : Int) ∧ Hid (q = k / 8) := ⟨k / 8, by omega, Lib.hid rfl⟩
            obtain ⟨r, hr, hrn⟩ : ∃ r : Nat, (k : Int) % 8 = (r : Int) ∧ Hid (r = k % 8) := ⟨k % 8, by omega, Lib.hid rfl⟩
            have hr8 : r < 8 := by rw [hrn.out]; omega
            obtain ⟨m, hm, hm56⟩ : ∃ m : Nat, Hid (m = 8 * r) ∧ m ≤ 56 := ⟨8 * r, Lib.hid rfl, by omega⟩
            have hqn' : q < n' := by rw [hqn.out, hn'.out]; omega
            have hqz : (q : Int) < (n' : Int) := by omega
            obtain ⟨z, hzv, hz1⟩ : ∃ z : Nat, Hid (z = bval (l.take k) / 2 ^ (64 * q) % 2 ^ 64) ∧ z < 18446744073709551616 := ⟨_, Lib.hid rfl, Nat.mod_lt _ (by omega)⟩
            obtain ⟨p, hp1, hp2, hp3⟩ := shl_u64 (x := x.toNat) hxb hm56
            have hcz := G.out.wcell (k := q) (x := z) (by rw [hzv.out]; exact fx_get hqn')
            have hfz := G.out.frozen q
            have hqw : IntKind.i64.wrap (q : Int) = (q : Int) := by rw [IntKind.wrap_i64]; omega
            have hqw1 : 0 ≤ IntKind.i64.wrap (q : Int) ∧ IntKind.i64.wrap (q : Int) < (n' : Int) := by rw [hqw]; omega
            have hrw : IntKind.i64.wrap (r : Int) = (r : Int) := by rw [IntKind.wrap_i64]; omega
            have hmw : IntKind.i64.wrap (8 * (r : Int)) = (m : Int) := by rw [IntKind.wrap_i64, hm.out]; omega
            have hrt : (k : Int).tmod 8 = (r : Int) := by rw [Int.tmod_eq_emod_of_nonneg (by omega)]; exact hr
            have hqt : (k : Int).tdiv 8 = (q : Int) := by rw [Int.tdiv_eq_ediv_of_nonneg (by omega)]; exact hq
            go_wp2_with fail
            go_region
            have hor : bits BinOp.or IntKind.u64 (z : Int) (p : Int) = ((z ||| p : Nat) : Int) := bits_or_u64_nat z p hz1 hp2
            have hb4 := G.out.wset q (z ||| p)
            have hL : (fx 64 n' (bval (l.take k))).set q (z ||| p) = fx 64 n' (bval (l.take (k + 1))) := by
              rw [fx_byte hx.out, hzv.out, hp1.out, hm.out, hrn.out, hqn.out]
            rw [hL] at hb4
            have Hb4 := Lib.hid (hb4.drewN 1)
            clear hb4 hL
            go_wp2_with fail
            go_roundw
            case rel => exact ⟨k + 1, by omega, by go_num, (by first | exact Hb4 | (rw [hor]; exact Hb4)), (bw2.setCell (p := ⟨w.heap.size + 1, q, none⟩) (by simp) _).drew⟩
            case measure => simp [intOf]; omega
          · obtain rfl : k = n := by omega
            have b2 := b0.on bw2
            have c2 := b2.cell 0
            have f2 := b2.frozen 0
            simp at c2 f2
            have B2 := Lib.hid b2
            clear b2 b0
            go_wp2_with fail
            refine ret_set2 rfl w.heap.size (.slice (some ⟨w.heap.size + 1, 0, none⟩) n' n') rfl ?_ rfl ?_
            · have := B2.out.put 0 (.slice (some ⟨w.heap.size + 1, 0, none⟩) n' n')
              simpa using this
            have G' := G.out
            rw [List.take_of_length_le (by rw [Hn.out]; omega)] at G'
            have hlen : len2 64 (bval l) = n' := by
              have h8 : len2 8 (bval l) = k := by
                rw [← sbytes_length, sbytes_bval (by rw [Hl.out]; simpa using hz), Hn.out]
              rw [len2_8_64, h8, hn'.out]
            exact ⟨_, rfl, SetAt.blk (G'.far (p := ⟨w.heap.size, 0, none⟩) (by simp) _) hlen hn6, (bA.trans (bw2.mono (by simp))).setCell (Nat.le_refl _) _⟩
end Go.Proofs.YtfbdfpnmopgkoaaDoor
