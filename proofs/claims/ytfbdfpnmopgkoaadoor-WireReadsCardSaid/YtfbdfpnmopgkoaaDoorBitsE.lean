/- The walks of bits.trim and bits.Of. -/
import Derived.Test.YtfbdfpnmopgkoaaDoorWireF
import Derived.Test.YtfbdfpnmopgkoaaDoorInts
namespace Go.Proofs.YtfbdfpnmopgkoaaDoor
open Go.RowKit
set_option linter.unusedVariables false
set_option linter.unusedSimpArgs false

theorem top_zero {M k : Nat} (h : len2 64 M ≤ k + 1) : M / 2 ^ (64 * k) % 2 ^ 64 = 0 ↔ len2 64 M ≤ k := by
  have h1 := (len2_le (t := 64) (by omega)).1 h
  rw [Nat.mul_add, Nat.mul_one, Nat.pow_add] at h1
  rw [Nat.mod_eq_of_lt (Nat.div_lt_of_lt_mul h1), len2_le (by omega)]
  constructor
  · intro h
    exact (Nat.div_eq_zero_iff_lt (Nat.two_pow_pos _)).1 h
  · intro h
    exact Nat.div_eq_of_lt h

set_option maxRecDepth 100000 in
/-- trim. -/
theorem trim_any (g n M : Nat) (w : World) (h : Blk w g 38 ((fx 64 n M).map wv).toArray) (hn : n ≤ 64) (hM : len2 64 M ≤ n) :
    Calls Tryd.prog 61 #[.slice (some ⟨g, 0, none⟩) n n] w fun e w' => ∃ v', e = .returned v' ∧ SetAt w' w'.heap.size v' M ∧ Below w.heap.size w w' := by
  have bA : Below w.heap.size w (w.alloc (.cells #[.slice none 0 0] 48)) := (Below.refl _ _).alloc (Nat.le_refl _) _
  have h1 := h.on bA
  have bR := Blk.new w 48 #[.slice none 0 0]
  have hg := h.lt
  go_enter Tryd.func61, Tryd.ntmps61
  go_wp2_with fail
  go_loop [0] (fun v0 => ∃ k : Nat, v0 = .slice (some ⟨g, 0, none⟩) k n ∧ k ≤ n ∧ Hid (len2 64 M ≤ k)) (fun v0 => match v0 with | .slice _ k _ => k | _ => 0)
  case atStart => exact ⟨n, rfl, Nat.le_refl _, Lib.hid hM⟩
  case round =>
    obtain ⟨k, rfl, hk, HM⟩ := hrel
    have fin : ∀ k, k ≤ n → len2 64 M = k → ∀ w', w' = (w.alloc (.cells #[.slice (some ⟨g, 0, none⟩) k n] 48)) → SetAt w' w'.heap.size (.agg #[.slice (some ⟨g, 0, none⟩) k n]) M ∧ Below w.heap.size w w' := by
      rintro k hk hl w' rfl
      have bB : Below w.heap.size w (w.alloc (.cells #[.slice (some ⟨g, 0, none⟩) k n] 48)) := (Below.refl _ _).alloc (Nat.le_refl _) _
      have h2 := h.on bB
      refine ⟨⟨_, k, n, rfl, hk, by omega, hl, ?_, fun b o e _ => ?_⟩, bB⟩
      · have hs := h2.sees.take_ k
        rw [← List.map_take] at hs
        have e : (fx 64 n M).take k = dg 64 M := by
          rw [fx_pad (by omega) hM, hl, List.take_append_of_le_length (by rw [dg_length, hl]; exact Nat.le_refl _), List.take_of_length_le (by rw [dg_length, hl]; exact Nat.le_refl _)]
        rw [e] at hs
        exact hs
      · injection e with e
        injection e with e
        subst e
        exact ⟨_, h2⟩
    by_cases hk0 : k = 0
    · have hk0' : ¬ 0 < (k : Int) := by omega
      have hl0 : len2 64 M = k := by have := HM.out; omega
      subst hk0
      obtain ⟨f1, f2⟩ := fin 0 hk hl0 _ rfl
      clear fin hl0
      go_wp2_with fail
      exact ret_set rfl w.heap.size _ rfl (Blk.new _ _ _) rfl ⟨_, rfl, f1, f2⟩
    · obtain ⟨j, rfl⟩ : ∃ j, k = j + 1 := ⟨k - 1, by omega⟩
      have hj0 : 0 < ((j + 1 : Nat) : Int) := by omega
      have hj1 : ((j + 1 : Nat) : Int) - 1 = (j : Int) := by omega
      have hj2 : (j : Int) < ((j + 1 : Nat) : Int) := by omega
      obtain ⟨x, hx⟩ : ∃ x, x = M / 2 ^ (64 * j) % 2 ^ 64 := ⟨_, rfl⟩
      have hz := top_zero HM.out
      rw [← hx] at hz
      have hc := h1.wcell (k := j) (x := x) (by rw [hx]; exact fx_get (by omega))
      have Hx := Lib.hid hx
      have Hz := Lib.hid hz
      clear hx hz
      by_cases hx0 : x = 0
      · have hxb : ((x : Int) == 0) = true := by rw [hx0]; rfl
        have hl := Hz.out.1 hx0
        have HL := Lib.hid hl
        clear hx0 fin hl
        go_wp2_with fail
        go_round
        case rel => exact ⟨j, rfl, by omega, HL⟩
        case measure => show j < j + 1; omega
      · have hxb : ((x : Int) == 0) = false := beq_false_of_ne (by omega)
        have hl : len2 64 M = j + 1 := by
          have := HM.out
          have : ¬ len2 64 M ≤ j := fun h => hx0 (Hz.out.2 h)
          omega
        obtain ⟨f1, f2⟩ := fin (j + 1) hk hl _ rfl
        clear hx0 fin hl
        go_wp2_with fail
        exact ret_set rfl w.heap.size _ rfl (Blk.new _ _ _) rfl ⟨_, rfl, f1, f2⟩

/-- The members as a number. -/
def ofL (l : List Nat) : Nat := l.foldl (fun M i => M ||| 1 <<< i) 0
theorem ofL_snoc (l : List Nat) (i : Nat) : ofL (l ++ [i]) = ofL l ||| 1 <<< i := by unfold ofL; rw [List.foldl_append]; rfl
theorem ofL_take {l : List Nat} {k x : Nat} (h : l[k]? = some x) : ofL (l.take (k + 1)) = ofL (l.take k) ||| 1 <<< x := by
  rw [List.take_add_one, h]; exact ofL_snoc _ _
theorem ofL_lt (l : List Nat) (K : Nat) (h : ∀ i ∈ l, i < K) : ofL l < 2 ^ K := by
  have : ∀ (l : List Nat) (M : Nat), M < 2 ^ K → (∀ i ∈ l, i < K) → l.foldl (fun M i => M ||| 1 <<< i) M < 2 ^ K := by
    intro l
    induction l with
    | nil => intro M h _; exact h
    | cons a l ih =>
      intro M hM hl
      exact ih _ (or_lt_iff.2 ⟨hM, hl a (by simp)⟩) (fun i hi => hl i (by simp [hi]))
  exact this l 0 (Nat.two_pow_pos K) h
/-- The greatest of the first k. -/
def topL (l : List Nat) : Int := l.foldl (fun (t : Int) (i : Nat) => max t (i : Int)) (-1)
theorem topL_snoc (l : List Nat) (i : Nat) : topL (l ++ [i]) = max (topL l) (i : Int) := by unfold topL; rw [List.foldl_append]; rfl
theorem topL_take {l : List Nat} {k x : Nat} (h : l[k]? = some x) : topL (l.take (k + 1)) = max (topL (l.take k)) (x : Int) := by
  rw [List.take_add_one, h]; exact topL_snoc _ _
theorem topL_spec (l : List Nat) (K : Int) (h : ∀ i ∈ l, (i : Int) ≤ K) (hK : -1 ≤ K) : -1 ≤ topL l ∧ topL l ≤ K ∧ ∀ i ∈ l, (i : Int) ≤ topL l := by
  have : ∀ (l : List Nat) (t : Int), -1 ≤ t → t ≤ K → (∀ i ∈ l, (i : Int) ≤ K) → t ≤ l.foldl (fun (t : Int) (i : Nat) => max t (i : Int)) t ∧ l.foldl (fun (t : Int) (i : Nat) => max t (i : Int)) t ≤ K ∧ ∀ i ∈ l, (i : Int) ≤ l.foldl (fun (t : Int) (i : Nat) => max t (i : Int)) t := by
    intro l
    induction l with
    | nil => intro t h1 h2 _; exact ⟨Int.le_refl _, h2, by simp⟩
    | cons a l ih =>
      intro t h1 h2 hl
      have ha := hl a (by simp)
      obtain ⟨g1, g2, g3⟩ := ih (max t (a : Int)) (by omega) (by omega) (fun i hi => hl i (by simp [hi]))
      rw [List.foldl_cons]
      refine ⟨by omega, g2, fun i hi => ?_⟩
      rcases List.mem_cons.1 hi with rfl | hi
      · omega
      · exact g3 i hi
  exact this l (-1) (Int.le_refl _) hK h
def niv (l : List Nat) : List Value := (l.map fun i => ((i : Nat) : Int)).map iv

set_option maxHeartbeats 4000000 in
set_option maxRecDepth 100000 in
/-- bits.Of. -/
theorem of_any (A : Option Addr) (n c : Nat) (l : List Nat) (w : World) (h : Sees w w.heap.size A (niv l)) (hn : l.length = n) (hl : ∀ i ∈ l, i < 4096) (hb : n ≤ 1000000000000) :
    Calls Tryd.prog 25 #[.slice A n c] w fun e w' => ∃ v', e = .returned v' ∧ SetAt w' w'.heap.size v' (ofL l) ∧ Below w.heap.size w w' := by
  have bA : Below w.heap.size w (w.alloc (.cells #[.slice none 0 0] 48)) := (Below.refl _ _).alloc (Nat.le_refl _) _
  have h1 := h.on bA
  have bR := Blk.new w 48 #[.slice none 0 0]
  have hn1 : (n : Int) ≤ 1000000000000 := by omega
  have hLl : (l.map fun i => ((i : Nat) : Int)).length = n := by rw [List.length_map, hn]
  have HLl := Lib.hid hLl
  have Hn := Lib.hid hn
  obtain ⟨T, hT⟩ : ∃ T, Hid (T = topL l) := ⟨_, Lib.hid rfl⟩
  obtain ⟨t1, t2, t3⟩ := topL_spec l 4095 (fun i hi => by have := hl i hi; omega) (by omega)
  rw [← hT.out] at t1 t2 t3
  have Hl := Lib.hid hl
  have T3 := Lib.hid t3
  clear hLl hn hl t3
  go_enter Tryd.func25, Tryd.ntmps25
  go_wp2_with fail
  go_loop [3, 11] (fun v3 v11 => ∃ (k : Nat) (t : Int), v11 = .int .i64 k ∧ k ≤ n ∧ v3 = .int .i64 t ∧ Hid (t = topL (l.take k))) (fun _ v11 => n - (intOf v11).toNat)
  case atStart => exact ⟨0, -1, rfl, Nat.zero_le _, rfl, Lib.hid rfl⟩
  case round =>
    obtain ⟨k, t, rfl, hk, rfl, Ht⟩ := hrel
    by_cases hlt : k < n
    · have hlt' : (k : Int) < (n : Int) := by omega
      have hkl : k < l.length := by rw [Hn.out]; exact hlt
      have hx : l[k]? = some l[k] := List.getElem?_eq_getElem hkl
      obtain ⟨x, hxe⟩ : ∃ x, x = l[k] := ⟨_, rfl⟩
      have hx4 : x < 4096 := by rw [hxe]; exact Hl.out _ (List.getElem_mem _)
      obtain ⟨b, o, hA, hbb, hc⟩ := h1.at_ (k := k) (by unfold niv; rw [List.length_map, HLl.out]; exact hlt)
      have hcx : (niv l)[k]'(by unfold niv; rw [List.length_map, HLl.out]; exact hlt) = .int .i64 (x : Int) := by
        unfold niv
        rw [List.getElem_map, List.getElem_map, hxe]; rfl
      rw [hcx] at hc
      rw [← hxe] at hx
      have Hx := Lib.hid (topL_take hx)
      rw [← Ht.out] at Hx
      clear hcx hx hxe
      have hx5 : (x : Int) ≤ 4095 := by omega
      subst hA
      go_wp2_with fail
      go_round
      case rel => exact ⟨k + 1, max t (x : Int), by go_num, by omega, by first | rfl | skip, Lib.hid (by rw [Hx.out])⟩
      case measure => simp [intOf]; omega
    · obtain rfl : k = n := by omega
      have hTt : t = T := by
        have := Ht.out
        rw [List.take_of_length_le (by rw [Hn.out]; exact Nat.le_refl _), ← hT.out] at this
        exact this
      subst hTt
      by_cases hneg : t < 0
      · have hnil : l = [] := by
          cases l with
          | nil => rfl
          | cons a l =>
            have := T3.out a (by simp)
            omega
        go_wp2_with fail
        refine ret_set rfl w.heap.size (.slice none 0 0) rfl bR rfl ?_
        subst hnil
        exact ⟨_, rfl, SetAt.zero _ _ _ _, bA⟩
      · have hneg' : 0 ≤ t := by omega
        obtain ⟨n', hn', hn64⟩ : ∃ n' : Nat, t / 64 + 1 = (n' : Int) ∧ n' ≤ 64 := ⟨(t / 64 + 1).toNat, by omega, by omega⟩
        go_wp2_with (refine wpL_mkW _ rfl _ _ rfl _ _ n' rfl rfl (by omega) (by omega) (by omega) ?_
                     intro w2 G2 bw2 z2)
        have hM64 : len2 64 (ofL l) ≤ n' := by
          rw [len2_le (by omega)]
          refine ofL_lt l (64 * n') (fun i hi => ?_)
          have := T3.out i hi
          omega
        go_loopw [30] (fun i wr => ∃ (j : Nat), j ≤ k ∧ i = .int .i64 j ∧ Hid (Blk wr (w.heap.size + 1) 38 ((fx 64 n' (ofL (l.take j))).map wv).toArray) ∧ Below (w.alloc (.cells #[.slice none 0 0] 48)).heap.size (w.alloc (.cells #[.slice none 0 0] 48)) wr) (fun i _ => k - (intOf i).toNat)
        case atStart => exact ⟨0, Nat.zero_le _, rfl, Lib.hid (by rw [List.take_zero, show ofL [] = 0 from rfl, fx_zero]; have := G2.out; simpa using this), bw2⟩
        case round =>
          obtain ⟨j, hj, rfl, G, bw2⟩ := hrel
          by_cases hlt : j < k
          · have hlt' : (j : Int) < (k : Int) := by omega
            have hkl : j < l.length := by rw [Hn.out]; exact hlt
            have hx : l[j]? = some l[j] := List.getElem?_eq_getElem hkl
            obtain ⟨x, hxe⟩ : ∃ x, x = l[j] := ⟨_, rfl⟩
            have hxt : (x : Int) ≤ t := by rw [hxe]; exact T3.out _ (List.getElem_mem _)
            obtain ⟨b, o, hA, hbb, hc⟩ := (h1.on bw2).at_ (k := j) (by unfold niv; rw [List.length_map, HLl.out]; exact hlt)
            have hcx : (niv l)[j]'(by unfold niv; rw [List.length_map, HLl.out]; exact hlt) = .int .i64 (x : Int) := by
              unfold niv
              rw [List.getElem_map, List.getElem_map, hxe]; rfl
            rw [hcx] at hc
            rw [← hxe] at hx
            have Hx := Lib.hid (ofL_take hx)
            clear hcx hx hxe
            subst hA
            have hx0 : 0 ≤ (x : Int) := by omega
            obtain ⟨q, hq, hqn⟩ : ∃ q : Nat, (x : Int) / 64 = (q : Int) ∧ Hid (q = x / 64) := ⟨x / 64, by omega, Lib.hid rfl⟩
            obtain ⟨r, hr, hrn⟩ : ∃ r : Nat, (x : Int) % 64 = (r : Int) ∧ Hid (r = x % 64) := ⟨x % 64, by omega, Lib.hid rfl⟩
            have hr64 : r < 64 := by rw [hrn.out]; omega
            have hqn' : q < n' := by omega
            have hqz : (q : Int) < (n' : Int) := by omega
            obtain ⟨z, hzv, hz1⟩ : ∃ z : Nat, Hid (z = ofL (l.take j) / 2 ^ (64 * q) % 2 ^ 64) ∧ z < 18446744073709551616 := ⟨_, Lib.hid rfl, Nat.mod_lt _ (by omega)⟩
            obtain ⟨p, hp1, hp2, hp3⟩ := bit_u64 hr64
            have hcz := G.out.wcell (k := q) (x := z) (by rw [hzv.out]; exact fx_get hqn')
            have hfz := G.out.frozen q
            have hqw : IntKind.i64.wrap (q : Int) = (q : Int) := by rw [IntKind.wrap_i64]; omega
            have hqw1 : 0 ≤ IntKind.i64.wrap (q : Int) ∧ IntKind.i64.wrap (q : Int) < (n' : Int) := by rw [hqw]; omega
            have hrw : IntKind.i64.wrap (r : Int) = (r : Int) := by rw [IntKind.wrap_i64]; omega
            have hrt : (x : Int).tmod 64 = (r : Int) := by rw [Int.tmod_eq_emod_of_nonneg hx0]; exact hr
            have hqt : (x : Int).tdiv 64 = (q : Int) := by rw [Int.tdiv_eq_ediv_of_nonneg hx0]; exact hq
            go_wp2_with fail
            go_region
            have hor : bits BinOp.or IntKind.u64 (z : Int) (p : Int) = ((z ||| p : Nat) : Int) := bits_or_u64_nat z p hz1 hp2
            have hb4 := G.out.wset q (z ||| p)
            have hL : (fx 64 n' (ofL (l.take j))).set q (z ||| p) = fx 64 n' (ofL (l.take (j + 1))) := by
              rw [Hx.out, fx_bit, hzv.out, hp1.out, hrn.out, hqn.out]
            rw [hL] at hb4
            have Hb4 := Lib.hid (hb4.drewN 1)
            clear hb4 hL
            go_wp2_with fail
            go_roundw
            case rel => exact ⟨j + 1, by omega, by go_num, (by first | exact Hb4 | (rw [hor]; exact Hb4)), (bw2.setCell (p := ⟨w.heap.size + 1, q, none⟩) (by simp) _).drew⟩
            case measure => simp [intOf]; omega
          · obtain rfl : j = k := by omega
            have G' := G.out
            rw [List.take_of_length_le (by rw [Hn.out]; exact Nat.le_refl _)] at G'
            have b2 := bR.on bw2
            have HB2 := Lib.hid b2
            clear b2 bR
            go_wp2_with fail
            refine (trim_any (w.heap.size + 1) n' (ofL l) _ G' hn64 hM64).mono ?_
            rintro e w4 ⟨v4, rfl, hs4, hb4⟩
            obtain ⟨A4, n4, c4, rfl, _⟩ := id hs4
            have b4 := HB2.out.on hb4
            have c4' := b4.cell 0
            have f4' := b4.frozen 0
            simp at c4'
            have B4 := Lib.hid b4
            clear b4
            have hbs := bw2.size
            simp at hbs
            go_wp2_with fail
            refine ret_set rfl w.heap.size (.slice A4 n4 c4) rfl ?_ rfl ?_
            · have := B4.out.put 0 (.slice A4 n4 c4)
              simpa using this
            refine ⟨_, rfl, ?_, ((bA.trans (bw2.mono (by simp))).trans (hb4.mono (by omega))).setCell (Nat.le_refl _) _⟩
            exact hs4.off B4.out _
end Go.Proofs.YtfbdfpnmopgkoaaDoor
