/- The walks of the reference's PutBytes, PutFlag, SetBytes, PutSet. -/
import Derived.Test.YtfbdfpnmopgkoaaDoorRefB
import Derived.Test.YtfbdfpnmopgkoaaDoorBitsE
import Derived.Test.YtfbdfpnmopgkoaaDoorSrec
namespace Go.Proofs.YtfbdfpnmopgkoaaDoor
open Go.RowKit
set_option linter.unusedVariables false
set_option linter.unusedSimpArgs false

/-- PutBytes. -/
theorem putBytes_any (A : Option Addr) (n c : Nat) (l : List UInt8) (w : World) (h : Sees w w.heap.size A (l.map bv)) (hn : l.length = n) (hb : n ≤ 1000000000000) :
    Calls Tryd.prog 47 #[.slice A n c] w fun e w' => ∃ A' n' c', e = .returned (.slice A' n' c') ∧ OwnB w' w.heap.size (.slice A' n' c') n' (enc n ++ l) ∧ Below w.heap.size w w' := by
  have hn1 : (n : Int) ≤ 1000000000000 := by omega
  have hl := enc_len (v := n) (by omega)
  go_enter Tryd.func47, Tryd.ntmps47
  go_wp2_with fail
  refine (put_any n _ (by omega)).mono ?_
  rintro e w1 ⟨A1, n1, c1, rfl, o1, b1⟩
  have hl1 := o1.len
  go_wp2_with (at_builtin; refine wpL_appB _ rfl (.tmp 6) (.tmp 7) rfl w.heap.size _ n1 _ rfl o1 _ A n c l rfl hn (h.on b1) (by omega) b1.size (n1 + n) rfl _ rfl ?_; intro A' c' w2 o2 g2 _)
  go_ret
  exact ⟨A', n1 + n, c', rfl, o2, below_app b1 b1.size o1 g2⟩

/-- PutFlag. -/
theorem putFlag_any (b : Bool) (w : World) :
    Calls Tryd.prog 50 #[.bool b] w fun e w' => ∃ A' n' c', e = .returned (.slice A' n' c') ∧ OwnB w' w.heap.size (.slice A' n' c') n' (encF b) ∧ Below w.heap.size w w' := by
  have hx : ∀ x : UInt8, OwnB (w.alloc (.cells #[bv x] 5)) w.heap.size (.slice (some ⟨w.heap.size, 0, none⟩) 1 1) 1 [x] := fun x => OwnB.lit w #[bv x] 1 [x] (by unfold maxLen; omega) rfl rfl
  have hB : ∀ x : UInt8, Below w.heap.size w (w.alloc (.cells #[bv x] 5)) := fun x => (Below.refl _ _).alloc (Nat.le_refl _) _
  cases b with
  | true =>
    go_enter Tryd.func50, Tryd.ntmps50
    go_wp2_with fail
    go_ret
    exact ⟨_, 1, 1, rfl, hx 1, hB 1⟩
  | false =>
    go_enter Tryd.func50, Tryd.ntmps50
    go_wp2_with fail
    go_ret
    exact ⟨_, 1, 1, rfl, hx 0, hB 0⟩

theorem or8_bits : ∀ (d : Fin 256) (r : Fin 8), bits BinOp.or IntKind.u8 ((d.val : Nat) : Int) ((1 <<< r.val : Nat) : Int) = (((UInt8.ofNat (d.val ||| 1 <<< r.val)).toNat : Nat) : Int) := by decide +kernel
theorem bit_u8 : ∀ (r : Fin 8), IntKind.u8.wrap ((2 : Int) ^ r.val) = ((1 <<< r.val : Nat) : Int) := by decide +kernel

theorem ofL_mono (l : List Nat) : ∀ (M X : Nat), X ≤ M → X ≤ l.foldl (fun M i => M ||| 1 <<< i) M := by
  induction l with
  | nil => intro M X h; exact h
  | cons a l ih => intro M X h; exact ih _ X (Nat.le_trans h Nat.left_le_or)
theorem ofL_ge {l : List Nat} {i : Nat} (h : i ∈ l) : 2 ^ i ≤ ofL l := by
  have : ∀ (l : List Nat) (M : Nat), i ∈ l → 2 ^ i ≤ l.foldl (fun M i => M ||| 1 <<< i) M := by
    intro l
    induction l with
    | nil => intro M h; cases h
    | cons a l ih =>
      intro M h
      rcases List.mem_cons.1 h with rfl | h
      · refine ofL_mono l _ _ ?_
        show 2 ^ i ≤ M ||| 1 <<< i
        rw [Nat.shiftLeft_eq, Nat.one_mul]
        exact Nat.right_le_or
      · exact ih _ h
  exact this l 0 h
theorem topL_mem (l : List Nat) (h : l ≠ []) : ∃ i ∈ l, (i : Int) = topL l := by
  have : ∀ (l : List Nat) (t : Int), l.foldl (fun (t : Int) (i : Nat) => max t (i : Int)) t = t ∨ ∃ i ∈ l, (i : Int) = l.foldl (fun (t : Int) (i : Nat) => max t (i : Int)) t := by
    intro l
    induction l with
    | nil => intro t; exact .inl rfl
    | cons a l ih =>
      intro t
      rw [List.foldl_cons]
      rcases ih (max t (a : Int)) with e | ⟨i, hi, e⟩
      · rcases Int.le_total t (a : Int) with hta | hta
        · exact .inr ⟨a, by simp, by rw [e]; omega⟩
        · exact .inl (by rw [e]; omega)
      · exact .inr ⟨i, by simp [hi], e⟩
  rcases this l (-1) with e | e
  · cases l with
    | nil => exact absurd rfl h
    | cons a l =>
      have := (topL_spec (a :: l) (((a :: l).foldl (fun s i => s + i) 0 : Nat) : Int) (fun i hi => ?_) (by omega)).2.2 a (by simp)
      · unfold topL at this; rw [e] at this; omega
      · have key : ∀ (l : List Nat) (s : Nat), s ≤ l.foldl (fun s i => s + i) s ∧ ∀ i ∈ l, i ≤ l.foldl (fun s i => s + i) s := by
          intro l
          induction l with
          | nil => intro s; simp
          | cons b l ih =>
            intro s
            obtain ⟨h1, h2⟩ := ih (s + b)
            rw [List.foldl_cons]
            refine ⟨by omega, fun i hi => ?_⟩
            rcases List.mem_cons.1 hi with rfl | hi
            · omega
            · exact h2 i hi
        have := (key (a :: l) 0).2 i hi
        omega
  · exact e
theorem ofL_len8 {l : List Nat} {T : Nat} (h : l ≠ []) (hT : topL l = (T : Int)) (hm : ∀ i ∈ l, (i : Int) ≤ topL l) : len2 8 (ofL l) = T / 8 + 1 := by
  obtain ⟨i, hi, e⟩ := topL_mem l h
  have hiT : i = T := by omega
  subst hiT
  have h1 := ofL_ge hi
  have h2 : ofL l < 2 ^ (8 * (i / 8 + 1)) := ofL_lt l _ (fun j hj => by have := hm j hj; omega)
  have h3 : len2 8 (ofL l) ≤ i / 8 + 1 := (len2_le (by omega)).2 h2
  have h4 : ¬ len2 8 (ofL l) ≤ i / 8 := by
    rw [len2_le (by omega)]
    have : 2 ^ (8 * (i / 8)) ≤ 2 ^ i := Nat.pow_le_pow_right (by omega) (by omega)
    omega
  omega

set_option maxHeartbeats 4000000 in
set_option maxRecDepth 100000 in
/-- SetBytes. -/
theorem setBytesR_any (A : Option Addr) (n c : Nat) (l : List Nat) (w : World) (h1 : Sees w w.heap.size A (niv l)) (hn : l.length = n) (hl : ∀ i ∈ l, i < 4096) (hb : n ≤ 1000000000000) :
    Calls Tryd.prog 66 #[.slice A n c] w fun e w' => ∃ A' n' c', e = .returned (.slice A' n' c') ∧ OwnB w' w.heap.size (.slice A' n' c') n' (sbytes (ofL l)) ∧ Below w.heap.size w w' := by
  have hn1 : (n : Int) ≤ 1000000000000 := by omega
  have hLl : (l.map fun i => ((i : Nat) : Int)).length = n := by rw [List.length_map, hn]
  have HLl := Lib.hid hLl
  have Hn := Lib.hid hn
  obtain ⟨T, hT⟩ : ∃ T, Hid (T = topL l) := ⟨_, Lib.hid rfl⟩
  obtain ⟨t1, t2, t3⟩ := topL_spec l 4095 (fun i hi => by have := hl i hi; omega) (by omega)
  have T4 := Lib.hid t3
  rw [← hT.out] at t1 t2 t3
  have T3 := Lib.hid t3
  clear hLl hn hl t3
  go_enter Tryd.func66, Tryd.ntmps66
  go_wp2_with fail
  go_loop [3, 11] (fun v3 v11 => ∃ (k : Nat) (t : Int), v11 = .int .i64 k ∧ k ≤ n ∧ v3 = .int .i64 t ∧ Hid (t = topL (l.take k))) (fun _ v11 => n - (intOf v11).toNat)
  case atStart => exact ⟨0, -1, rfl, Nat.zero_le _, rfl, Lib.hid rfl⟩
  case round =>
    obtain ⟨k, t, rfl, hk, rfl, Ht⟩ := hrel
    by_cases hlt : k < n
    · have hlt' : (k : Int) < (n : Int) := by omega
      have hkl : k < l.length := by rw [Hn.out]; exact hlt
      have hx : l[k]? = some l[k] := List.getElem?_eq_getElem hkl
      obtain ⟨x, hxe⟩ : ∃ x, x = l[k] := ⟨_, rfl⟩
      obtain ⟨b, o, hA, hbb, hc⟩ := h1.at_ (k := k) (by unfold niv; rw [List.length_map, HLl.out]; exact hlt)
      have hcx : (niv l)[k]'(by unfold niv; rw [List.length_map, HLl.out]; exact hlt) = .int .i64 (x : Int) := by
        unfold niv
        rw [List.getElem_map, List.getElem_map, hxe]; rfl
      rw [hcx] at hc
      rw [← hxe] at hx
      have Hx := Lib.hid (topL_take hx)
      rw [← Ht.out] at Hx
      clear hcx hx hxe
      subst hA
      by_cases hgt : t < (x : Int)
      · go_wp2_with fail
        go_round
        case rel => exact ⟨k + 1, (x : Int), by go_num, by omega, rfl, Lib.hid (by rw [Hx.out]; omega)⟩
        case measure => simp [intOf]; omega
      · have hgt' : ¬ t < (x : Int) := hgt
        go_wp2_with fail
        go_round
        case rel => exact ⟨k + 1, t, by go_num, by omega, rfl, Lib.hid (by rw [Hx.out]; omega)⟩
        case measure => simp [intOf]; omega
    · obtain rfl : k = n := by omega
      have hTt : t = T := by
        have := Ht.out
        rw [List.take_of_length_le (by rw [Hn.out]; exact Nat.le_refl _), ← hT.out] at this
        exact this
      subst hTt
      by_cases hneg : t < 0
      · have hnil : l = [] := by
          cases l with
          | nil => rfl
          | cons a l =>
            have := T3.out a (by simp)
            omega
        go_wp2_with fail
        go_ret
        subst hnil
        exact ⟨none, 0, 0, rfl, OwnB.nil _ _, Below.refl _ _⟩
      · have hneg' : 0 ≤ t := by omega
        have hlne : l ≠ [] := by
          rintro rfl
          have := hT.out
          have e : topL [] = -1 := rfl
          omega
        obtain ⟨n', hn', hn64, hN8⟩ : ∃ n' : Nat, t / 8 + 1 = (n' : Int) ∧ n' ≤ 512 ∧ Hid (len2 8 (ofL l) = n') := by
          obtain ⟨T', rfl⟩ := Int.eq_ofNat_of_zero_le hneg'
          exact ⟨T' / 8 + 1, by omega, by omega, Lib.hid (ofL_len8 hlne hT.out.symm T4.out)⟩
        go_wp2_with (refine wpL_mkB _ rfl _ _ rfl _ _ n' rfl rfl (by omega) (by omega) (by omega) ?_
                     intro w2 G2 bw2 z2)
        go_loopw [28] (fun i wr => ∃ (j : Nat), j ≤ k ∧ i = .int .i64 j ∧ Hid (Blk wr w.heap.size 5 (((fx 8 n' (ofL (l.take j))).map UInt8.ofNat).map bv).toArray) ∧ Below w.heap.size w wr) (fun i _ => k - (intOf i).toNat)
        case atStart => exact ⟨0, Nat.zero_le _, rfl, Lib.hid (by rw [List.take_zero, show ofL [] = 0 from rfl, fx_zero, List.map_replicate]; exact G2.out), bw2⟩
        case round =>
          obtain ⟨j, hj, rfl, G, bw2⟩ := hrel
          by_cases hlt : j < k
          · have hlt' : (j : Int) < (k : Int) := by omega
            have hkl : j < l.length := by rw [Hn.out]; exact hlt
            have hx : l[j]? = some l[j] := List.getElem?_eq_getElem hkl
            obtain ⟨x, hxe⟩ : ∃ x, x = l[j] := ⟨_, rfl⟩
            have hxt : (x : Int) ≤ t := by rw [hxe]; exact T3.out _ (List.getElem_mem _)
            obtain ⟨b, o, hA, hbb, hc⟩ := (h1.on bw2).at_ (k := j) (by unfold niv; rw [List.length_map, HLl.out]; exact hlt)
            have hcx : (niv l)[j]'(by unfold niv; rw [List.length_map, HLl.out]; exact hlt) = .int .i64 (x : Int) := by
              unfold niv
              rw [List.getElem_map, List.getElem_map, hxe]; rfl
            rw [hcx] at hc
            rw [← hxe] at hx
            have Hx := Lib.hid (ofL_take hx)
            clear hcx hx hxe
            subst hA
            have hx0 : 0 ≤ (x : Int) := by omega
            obtain ⟨q, hq, hqn⟩ : ∃ q : Nat, (x : Int) / 8 = (q : Int) ∧ Hid (q = x / 8) := ⟨x / 8, by omega, Lib.hid rfl⟩
            obtain ⟨r, hr, hrn⟩ : ∃ r : Nat, (x : Int) % 8 = (r : Int) ∧ Hid (r = x % 8) := ⟨x % 8, by omega, Lib.hid rfl⟩
            have hr8 : r < 8 := by rw [hrn.out]; omega
            have hqn' : q < n' := by omega
            have hqz : (q : Int) < (n' : Int) := by omega
            obtain ⟨z, hzv, hz1⟩ : ∃ z : Nat, Hid (z = ofL (l.take j) / 2 ^ (8 * q) % 2 ^ 8) ∧ z < 256 := ⟨_, Lib.hid rfl, Nat.mod_lt _ (by omega)⟩
            have hcz : wr.cell? ⟨w.heap.size, q, none⟩ = some (.int .u8 (z : Int)) := by
              rw [G.out.cell]
              have e : (UInt8.ofNat z).toNat = z := by rw [UInt8.toNat_ofNat']; omega
              simp only [List.getElem?_toArray, List.getElem?_map, fx_get hqn']
              rw [← hzv.out]
              simp [bv, e]
            have hfz := G.out.frozen q
            obtain ⟨p, hp1, hp3⟩ : ∃ p : Nat, Hid (p = 1 <<< r) ∧ IntKind.u8.wrap ((2 : Int) ^ r) = (p : Int) := ⟨_, Lib.hid rfl, bit_u8 ⟨r, hr8⟩⟩
            obtain ⟨y, hy⟩ : ∃ y : UInt8, Hid (y = UInt8.ofNat (z ||| p)) := ⟨_, Lib.hid rfl⟩
            have hor : bits BinOp.or IntKind.u8 (z : Int) (p : Int) = ((y.toNat : Nat) : Int) := by rw [hy.out, hp1.out]; exact or8_bits ⟨z, hz1⟩ ⟨r, hr8⟩
            have hfx := fx_put (t := 8) (n := n') (M := ofL (l.take j)) (X := 1) (s := x) (u := 1) (by omega) (by omega) (by omega)
            have hL : ((fx 8 n' (ofL (l.take j))).map UInt8.ofNat).set q y = (fx 8 n' (ofL (l.take (j + 1)))).map UInt8.ofNat := by
              rw [Hx.out, hfx, List.map_set, hy.out, hzv.out, hp1.out, hrn.out, hqn.out]
            have hb4 := G.out.bset q y
            rw [hL] at hb4
            have Hb4 := Lib.hid hb4
            clear hb4 hL hfx
            go_wp2_with fail
            go_roundw
            case rel => exact ⟨j + 1, by omega, by go_num, Hb4, bw2.setCell (Nat.le_refl _) _⟩
            case measure => simp [intOf]; omega
          · obtain rfl : j = k := by omega
            have G' := G.out
            rw [List.take_of_length_le (by rw [Hn.out]; exact Nat.le_refl _)] at G'
            go_wp2_with fail
            go_ret
            have e : (fx 8 n' (ofL l)).map UInt8.ofNat = sbytes (ofL l) := by unfold sbytes dg; rw [hN8.out]
            rw [e] at G'
            exact ⟨_, n', n', rfl, OwnB.ofBlk G' (by rw [sbytes_length, hN8.out]) (by unfold maxLen; omega) (Nat.le_refl _), bw2⟩

/-- PutSet. -/
theorem putSet_any (A : Option Addr) (n c : Nat) (l : List Nat) (w : World) (h1 : Sees w w.heap.size A (niv l)) (hn : l.length = n) (hl : ∀ i ∈ l, i < 4096) (hb : n ≤ 1000000000000) :
    Calls Tryd.prog 53 #[.slice A n c] w fun e w' => ∃ A' n' c', e = .returned (.slice A' n' c') ∧ OwnB w' w.heap.size (.slice A' n' c') n' (srec (ofL l)) ∧ Below w.heap.size w w' := by
  have h512 : (sbytes (ofL l)).length ≤ 512 := by
    have hlt := ofL_lt l (8 * 512) (fun i hi => by have := hl i hi; omega)
    rw [sbytes_length, len2_le (t := 8) (n := 512) (by omega)]
    exact hlt
  go_enter Tryd.func53, Tryd.ntmps53
  go_wp2_with fail
  refine (setBytesR_any A n c l _ h1 hn hl hb).mono ?_
  rintro e w1 ⟨A1, m1, c1, rfl, o1, b1⟩
  have hl1 := o1.len
  go_wp2_with fail
  refine (putBytes_any A1 m1 c1 _ w1 o1.sees hl1 (by omega)).mono ?_
  rintro e w2 ⟨A2, m2, c2, rfl, o2, b2⟩
  go_wp2_with fail
  go_ret
  rw [← hl1] at o2
  exact ⟨A2, m2, c2, rfl, o2.more b1.size, b1.trans (b2.mono b1.size)⟩
end Go.Proofs.YtfbdfpnmopgkoaaDoor
