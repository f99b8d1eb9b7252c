/- The walk of matching.augment. (genaug.py) -/
import Derived.Test.YtfnhaoindehjdaaDoorMtM
import Derived.Test.YtfnhaoindehjdaaDoorPk
import Derived.Deep.RegionHeld3
import Derived.Deep.CutBlock
namespace Go.Proofs.YtfnhaoindehjdaaDoor
open Go.RowKit
set_option linter.unusedVariables false
set_option linter.unusedSimpArgs false

def unseen (s : MSt) : Nat := ((List.range 256).filter fun j => !s.S j).length
theorem filter_le {p q : Nat → Bool} (h : ∀ j, q j = true → p j = true) : ∀ l : List Nat, (l.filter q).length ≤ (l.filter p).length
  | [] => Nat.le_refl _
  | x :: l => by
    have ih := filter_le h l
    cases hq : q x with
    | true => rw [List.filter_cons_of_pos hq, List.filter_cons_of_pos (h x hq), List.length_cons, List.length_cons]; omega
    | false =>
      rw [List.filter_cons_of_neg (by rw [hq]; simp)]
      cases hp : p x with
      | true => rw [List.filter_cons_of_pos hp, List.length_cons]; omega
      | false => rw [List.filter_cons_of_neg (by rw [hp]; simp)]; exact ih
theorem filter_lt {p q : Nat → Bool} {x : Nat} (h : ∀ j, q j = true → p j = true) (hp : p x = true) (hq : q x = false) : ∀ l : List Nat, x ∈ l → (l.filter q).length + 1 ≤ (l.filter p).length
  | [], hx => by cases hx
  | y :: l, hx => by
    by_cases e : y = x
    · rw [e, List.filter_cons_of_neg (by rw [hq]; simp), List.filter_cons_of_pos hp, List.length_cons]
      have := filter_le h l
      omega
    · have ih := filter_lt h hp hq l (by rcases List.mem_cons.1 hx with e2 | e2; exact absurd e2.symm e; exact e2)
      cases hq2 : q y with
      | true => rw [List.filter_cons_of_pos hq2, List.filter_cons_of_pos (h y hq2), List.length_cons, List.length_cons]; omega
      | false =>
        rw [List.filter_cons_of_neg (by rw [hq2]; simp)]
        cases hp2 : p y with
        | true => rw [List.filter_cons_of_pos hp2, List.length_cons]; omega
        | false => rw [List.filter_cons_of_neg (by rw [hp2]; simp)]; exact ih
theorem unseen_more {s t : MSt} (h : ∀ j, s.S j = true → t.S j = true) : unseen t ≤ unseen s := filter_le (fun j hj => by
  cases hs : s.S j with
  | false => rfl
  | true => rw [h j hs] at hj; cases hj) _
theorem unseen_mark {s : MSt} {x : Nat} (hx : x < 256) (h : s.S x = false) : unseen (s.mark x) + 1 ≤ unseen s := filter_lt (x := x) (fun j hj => by
  replace hj : (!upd s.S x true j) = true := hj
  by_cases e : j = x
  · rw [e, upd_same] at hj; cases hj
  · rw [upd_ne _ _ e] at hj; exact hj) (by rw [h]; rfl) (by show (!upd s.S x true x) = false; rw [upd_same]; rfl) _ (List.mem_range.2 hx)
def AugPost (g l n cg cl : Nat) (Ag : Option Addr) (gr : Nat → List Nat) (F : Nat → Bool) (i : Nat) (s : MSt) (w : World) (e : Ending) (w' : World) : Prop :=
  ∃ b t, e = .returned (.bool b) ∧ Aug gr F i (gr i) s b t ∧ SrAt w' g l n cg cl Ag gr F t ∧ Kp w w' g l
set_option maxHeartbeats 16000000 in
set_option maxRecDepth 100000 in
theorem augment_step (g l n cg cl : Nat) (Ag : Option Addr) (gr : Nat → List Nat) (F : Nat → Bool) (hn : n ≤ 256) (hg : ∀ a, a < n → ∀ x ∈ gr a, x < 256) (M i : Nat) (s : MSt) (w : World) (hs : SrAt w g l n cg cl Ag gr F s) (hi : i < n) (hM : unseen s ≤ M) (hR : ∀ j k, s.R j = some k → k < n)
    (ih : ∀ M', M = M' + 1 → ∀ (i : Nat) (s : MSt) (w : World), SrAt w g l n cg cl Ag gr F s → i < n → unseen s ≤ M' → (∀ j k, s.R j = some k → k < n) → Calls Tryd.prog 91 #[.pointer (some ⟨g, 0, none⟩), .int .i64 (i : Int)] w fun e w' => AugPost g l n cg cl Ag gr F i s w e w') :
    Calls Tryd.prog 91 #[.pointer (some ⟨g, 0, none⟩), .int .i64 (i : Int)] w fun e w' => AugPost g l n cg cl Ag gr F i s w e w' := by
  go_enter Tryd.func91, Tryd.ntmps91
  have c0 := hs.c0
  obtain ⟨bg, og, Ar, mr, cr, rfl, hbg, hbl, hrow, hlen, hm256, hcells⟩ := hs.rows i hi
  have HLEN := Lib.hid hlen
  have hi' : (i : Int) < (n : Int) := by omega
  have hmr : (mr : Int) ≤ 256 := by omega
  have hnr : (n : Int) ≤ 256 := by omega
  clear hlen
  go_wp2_with fail
  go_loopw [15] (fun v15 wr => ∃ (k : Nat) (t : MSt), v15 = .int .i64 (k : Int) ∧ k ≤ mr ∧ SrAt wr g l n cg cl (some ⟨bg, og, none⟩) gr F t ∧ Kp w wr g l ∧ unseen t ≤ M ∧ (∀ j k, t.R j = some k → k < n) ∧ Hid (∀ b u, Aug gr F i ((gr i).drop k) t b u → Aug gr F i (gr i) s b u)) (fun v15 _ => mr - (intOf v15).toNat)
  case atStart => exact ⟨0, s, rfl, Nat.zero_le _, hs, Kp.refl _ _ _, hM, hR, Lib.hid (fun b u h => h)⟩
  case round =>
    obtain ⟨k, t, rfl, hk, ht, hKp, hMt, hRt, hA⟩ := hrel
    by_cases hlt : k < mr
    · have hlt' : (k : Int) < (mr : Int) := by omega
      obtain ⟨x, hx⟩ : ∃ x, (gr i)[k]? = some x := ⟨_, List.getElem?_eq_getElem (by rw [HLEN.out]; exact hlt)⟩
      obtain ⟨b', o', rfl, hb1, hb2, hcx⟩ := hcells k x hx
      have hxr : wr.cell? ⟨b', o' + k, none⟩ = some (.int .i64 (x : Int)) := (World.cell?_of_block (hKp.block b' hb1 hb2)).trans hcx
      have hx256 : x < 256 := hg i hi x (List.mem_of_getElem? hx)
      have hx' : (x : Int) < 256 := by omega
      have hdrop : (gr i).drop k = x :: (gr i).drop (k + 1) := by
        have h1 := List.drop_eq_getElem_cons (l := gr i) (i := k) (by rw [HLEN.out]; exact hlt)
        rw [List.getElem?_eq_getElem (by rw [HLEN.out]; exact hlt)] at hx
        injection hx with hx
        rw [h1, hx]
      have HD := Lib.hid hdrop
      obtain ⟨b1, hb1s⟩ : ∃ b, Hid (b = t.S x) := ⟨_, Lib.hid rfl⟩
      obtain ⟨b2, hb2s⟩ : ∃ b, Hid (b = F x) := ⟨_, Lib.hid rfl⟩
      have sn0 := ht.sn x hx256
      have fx0 := ht.fx x hx256
      rw [← hb1s.out] at sn0
      rw [← hb2s.out] at fx0
      clear hx hdrop
      cases b1
      · cases b2
        · have fgx := ht.fg (514 + x)
          go_upto_region 6 with fail
          have hm := ht.mark hx256
          have hKm : Kp w (wr.setCell ⟨g, 514 + x, none⟩ (.bool true)) g l := hKp.trans (Kp.set _ _ (Or.inl rfl))
          generalize (wr.setCell ⟨g, 514 + x, none⟩ (.bool true)) = w2 at hm hKm ⊢
          have rt0 : w2.cell? ⟨g, 2 + x, none⟩ = some (.int .i64 (oz (t.R x))) := hm.rt x hx256
          cases hRx : t.R x with
          | none =>
            rw [hRx] at rt0
            replace rt0 : w2.cell? ⟨g, 2 + x, none⟩ = some (.int .i64 (-1)) := rt0
            have HRx := Lib.hid hRx
            clear hRx
            go_upto_region 7 with fail
            have fl0 := hm.fl i
            have fg0 := hm.fg (2 + x)
            have c1V := hm.c1
            have lf0 := hm.lf i hi
            obtain ⟨SS, hSS⟩ : ∃ S : World → Prop, S = (fun W => W.cell? ⟨g, 1, none⟩ = some (.slice (some ⟨l, 0, none⟩) n cl)) := ⟨_, rfl⟩
            refine wp_region_F (fun _ => false) SS (by kernel_rfl) (by rw [hSS]; exact c1V) (fun hHeld => ?_)
            have hm := hm.drew
            have hKm := hKm.trans (Kp.drew w2 g l)
            have fl0 : (w2.drew).frozen? ⟨l, i, none⟩ = false := fl0
            have fg0 : (w2.drew).frozen? ⟨g, 2 + x, none⟩ = false := fg0
            have lf0 := hm.lf i hi
            generalize w2.drew = u3 at hm hKm fl0 fg0 lf0 hHeld ⊢
            refine wpAnyF_take (i := 0) (v := ?_) rfl (by kernel_rfl) (by kernel_rfl) (by kernel_rfl) (by kernel_rfl) (fun _ _ _ h => h) hHeld (Or.inl ⟨by rfl, ?_⟩) ?_
            rotate_left
            · (intro w hSw; (try rw [hSS] at hSw); (try dsimp only at hSw); go_simp; try with_reducible rfl)
            try simp only [Act.put, List.getElem_toArray, List.getElem_cons_zero, List.getElem_cons_succ, List.setIfInBounds_toArray, List.set_cons_zero, List.set_cons_succ]
            refine wpAnyF_take (i := 1) (v := ?_) rfl (by kernel_rfl) (by kernel_rfl) (by kernel_rfl) (by kernel_rfl) (fun _ _ _ h => h) hHeld (Or.inl ⟨by rfl, ?_⟩) ?_
            rotate_left
            · (intro w hSw; (try rw [hSS] at hSw); (try dsimp only at hSw); go_simp; try with_reducible rfl)
            try simp only [Act.put, List.getElem_toArray, List.getElem_cons_zero, List.getElem_cons_succ, List.setIfInBounds_toArray, List.set_cons_zero, List.set_cons_succ]
            refine wpAnyF_take (i := 2) (v := ?_) rfl (by kernel_rfl) (by kernel_rfl) (by kernel_rfl) (by kernel_rfl) (fun _ _ _ h => h) hHeld (Or.inl ⟨by rfl, ?_⟩) ?_
            rotate_left
            · (intro w hSw; (try rw [hSS] at hSw); (try dsimp only at hSw); go_simp; try with_reducible rfl)
            try simp only [Act.put, List.getElem_toArray, List.getElem_cons_zero, List.getElem_cons_succ, List.setIfInBounds_toArray, List.set_cons_zero, List.set_cons_succ]
            refine wpAnyF_take (i := 3) (v := ?_) rfl (by kernel_rfl) (by kernel_rfl) (by kernel_rfl) (by kernel_rfl) (fun _ _ _ h => h) hHeld (Or.inl ⟨by rfl, ?_⟩) ?_
            rotate_left
            · (intro w hSw; (try rw [hSS] at hSw); (try dsimp only at hSw); go_simp; try with_reducible rfl)
            try simp only [Act.put, List.getElem_toArray, List.getElem_cons_zero, List.getElem_cons_succ, List.setIfInBounds_toArray, List.set_cons_zero, List.set_cons_succ]
            refine wpAnyF_take (i := 4) (v := ?_) rfl (by kernel_rfl) (by kernel_rfl) (by kernel_rfl) (by kernel_rfl) (fun _ _ _ h => h) hHeld (Or.inl ⟨by rfl, ?_⟩) ?_
            rotate_left
            · (intro w hSw; (try rw [hSS] at hSw); (try dsimp only at hSw); go_simp; try with_reducible rfl)
            try simp only [Act.put, List.getElem_toArray, List.getElem_cons_zero, List.getElem_cons_succ, List.setIfInBounds_toArray, List.set_cons_zero, List.set_cons_succ]
            refine wpAnyF_take (i := 5) (v := ?_) rfl (by kernel_rfl) (by kernel_rfl) (by kernel_rfl) (by kernel_rfl) (fun _ _ _ h => h) hHeld (Or.inl ⟨by rfl, ?_⟩) ?_
            rotate_left
            · (intro w hSw; (try rw [hSS] at hSw); (try dsimp only at hSw); go_simp; try with_reducible rfl)
            try simp only [Act.put, List.getElem_toArray, List.getElem_cons_zero, List.getElem_cons_succ, List.setIfInBounds_toArray, List.set_cons_zero, List.set_cons_succ]
            refine wpAnyF_take (i := 6) (v := ?_) rfl (by kernel_rfl) (by kernel_rfl) (by kernel_rfl) (by kernel_rfl) (fun _ _ _ h => h) hHeld (Or.inl ⟨by rfl, ?_⟩) ?_
            rotate_left
            · (intro w hSw; (try rw [hSS] at hSw); (try dsimp only at hSw); go_simp; try with_reducible rfl)
            try simp only [Act.put, List.getElem_toArray, List.getElem_cons_zero, List.getElem_cons_succ, List.setIfInBounds_toArray, List.set_cons_zero, List.set_cons_succ]
            refine wpAnyF_take (i := 7) (v := ?_) rfl (by kernel_rfl) (by kernel_rfl) (by kernel_rfl) (by kernel_rfl) (fun _ _ _ h => h) hHeld (Or.inl ⟨by rfl, ?_⟩) ?_
            rotate_left
            · (intro w hSw; (try rw [hSS] at hSw); (try dsimp only at hSw); go_simp; try with_reducible rfl)
            try simp only [Act.put, List.getElem_toArray, List.getElem_cons_zero, List.getElem_cons_succ, List.setIfInBounds_toArray, List.set_cons_zero, List.set_cons_succ]
            refine wpAnyF_take (i := 8) (v := ?_) rfl (by kernel_rfl) (by kernel_rfl) (by kernel_rfl) (by kernel_rfl) (fun _ _ _ h => h) hHeld (Or.inl ⟨by rfl, ?_⟩) ?_
            rotate_left
            · (intro w hSw; (try rw [hSS] at hSw); (try dsimp only at hSw); go_simp; try with_reducible rfl)
            try simp only [Act.put, List.getElem_toArray, List.getElem_cons_zero, List.getElem_cons_succ, List.setIfInBounds_toArray, List.set_cons_zero, List.set_cons_succ]
            refine wpAnyF_take (i := 9) (v := ?_) rfl (by kernel_rfl) (by kernel_rfl) (by kernel_rfl) (by kernel_rfl) (fun _ _ _ h => h) hHeld (Or.inl ⟨by rfl, ?_⟩) ?_
            rotate_left
            · (intro w hSw; (try rw [hSS] at hSw); (try dsimp only at hSw); go_simp; try with_reducible rfl)
            try simp only [Act.put, List.getElem_toArray, List.getElem_cons_zero, List.getElem_cons_succ, List.setIfInBounds_toArray, List.set_cons_zero, List.set_cons_succ]
            refine wpAnyF_take (i := 11) (v := ?_) rfl (by kernel_rfl) (by kernel_rfl) (by kernel_rfl) (by kernel_rfl) (fun _ _ _ h => h) hHeld (Or.inl ⟨by rfl, ?_⟩) ?_
            rotate_left
            · (intro w hSw; (try rw [hSS] at hSw); (try dsimp only at hSw); go_simp; try with_reducible rfl)
            try simp only [Act.put, List.getElem_toArray, List.getElem_cons_zero, List.getElem_cons_succ, List.setIfInBounds_toArray, List.set_cons_zero, List.set_cons_succ]
            refine wpAnyF_take (i := 12) (v := ?_) rfl (by kernel_rfl) (by kernel_rfl) (by kernel_rfl) (by kernel_rfl) (fun _ _ _ h => h) hHeld (Or.inl ⟨by rfl, ?_⟩) ?_
            rotate_left
            · (intro w hSw; (try rw [hSS] at hSw); (try dsimp only at hSw); go_simp; try with_reducible rfl)
            try simp only [Act.put, List.getElem_toArray, List.getElem_cons_zero, List.getElem_cons_succ, List.setIfInBounds_toArray, List.set_cons_zero, List.set_cons_succ]
            refine wpAnyF_one (i := 10) (by kernel_rfl) rfl (fun K hK => ?_)
            go_simp
            refine hK.out _ _ (Or.inr (by rw [hSS]; exact (hm.setL hi (some x)).c1)) ?_
            clear hK K
            try simp only [Act.put, List.getElem_toArray, List.getElem_cons_zero, List.getElem_cons_succ, List.setIfInBounds_toArray, List.set_cons_zero, List.set_cons_succ]
            have hm2 := hm.setL hi (some x)
            have fg1 : (u3.setCell ⟨l, i, none⟩ (.int .i64 (x : Int))).frozen? ⟨g, 2 + x, none⟩ = false := hm2.fg (2 + x)
            have rt1 := hm2.rt x hx256
            have hm3 := hm2.setR hx256 (some i)
            have hK3 := (hKm.trans (Kp.set ⟨l, i, none⟩ (.int .i64 (x : Int)) (Or.inr rfl))).trans (Kp.set ⟨g, 2 + x, none⟩ (.int .i64 (i : Int)) (Or.inl rfl))
            unfold oz at rt1
            refine wpAnyF_one (i := 13) (by kernel_rfl) rfl (fun K hK => ?_)
            go_simp
            refine hK.out _ _ (Or.inr (by rw [hSS]; exact hm2.c1)) ?_
            clear hK K
            try simp only [Act.put, List.getElem_toArray, List.getElem_cons_zero, List.getElem_cons_succ, List.setIfInBounds_toArray, List.set_cons_zero, List.set_cons_succ]
            refine wpAnyF_one (i := 14) (by kernel_rfl) rfl (fun K hK => ?_)
            go_simp
            refine hK.out _ _ (Or.inr (by rw [hSS]; exact hm3.c1)) ?_
            clear hK K
            try simp only [Act.put, List.getElem_toArray, List.getElem_cons_zero, List.getElem_cons_succ, List.setIfInBounds_toArray, List.set_cons_zero, List.set_cons_succ]
            refine wpAnyF_done (by kernel_rfl) ?_ _
            go_wp2_with fail
            go_ret
            exact ⟨true, _, rfl, hA.out _ _ (by rw [HD.out]; exact Aug.free hb1s.out.symm hb2s.out.symm HRx.out), hm3, hK3⟩
          | some k' =>
            rw [hRx] at rt0
            replace rt0 : w2.cell? ⟨g, 2 + x, none⟩ = some (.int .i64 (k' : Int)) := rt0
            have hk'n : k' < n := hRt x k' hRx
            have hk0 : ¬ ((k' : Int) < 0) := by omega
            have HRx := Lib.hid hRx
            clear hRx
            have hun := unseen_mark hx256 hb1s.out.symm
            obtain ⟨M', rfl⟩ : ∃ M', M = M' + 1 := ⟨M - 1, by omega⟩
            have hih := ih M' rfl k' (t.mark x) w2 hm hk'n (by omega) hRt
            unfold AugPost at hih
            go_wp2_with fail
            refine hih.mono ?_
            rintro e w3 ⟨b3, t2, rfl, hA2, hm, hK2⟩
            have hKm := hKm.trans hK2
            cases b3
            · have v := hA2.vain rfl
              have hR2 : t2.R = t.R := v.R
              have hun2 := unseen_more (s := t.mark x) (t := t2) v.more
              go_wp2_with fail
              go_roundw
              case rel => exact ⟨k + 1, t2, by go_num, by omega, hm, hKm, by omega, by rw [hR2]; exact hRt, Lib.hid (fun b u h => hA.out b u (by rw [HD.out]; exact Aug.miss hb1s.out.symm hb2s.out.symm HRx.out hA2 h))⟩
              case measure => simp [intOf]; omega
            · go_upto_region 7 with fail
              have fl0 := hm.fl i
              have fg0 := hm.fg (2 + x)
              have c1V := hm.c1
              have lf0 := hm.lf i hi
              obtain ⟨SS, hSS⟩ : ∃ S : World → Prop, S = (fun W => W.cell? ⟨g, 1, none⟩ = some (.slice (some ⟨l, 0, none⟩) n cl)) := ⟨_, rfl⟩
              refine wp_region_F (fun _ => false) SS (by kernel_rfl) (by rw [hSS]; exact c1V) (fun hHeld => ?_)
              have hm := hm.drew
              have hKm := hKm.trans (Kp.drew w3 g l)
              have fl0 : (w3.drew).frozen? ⟨l, i, none⟩ = false := fl0
              have fg0 : (w3.drew).frozen? ⟨g, 2 + x, none⟩ = false := fg0
              have lf0 := hm.lf i hi
              generalize w3.drew = u3 at hm hKm fl0 fg0 lf0 hHeld ⊢
              refine wpAnyF_take (i := 0) (v := ?_) rfl (by kernel_rfl) (by kernel_rfl) (by kernel_rfl) (by kernel_rfl) (fun _ _ _ h => h) hHeld (Or.inl ⟨by rfl, ?_⟩) ?_
              rotate_left
              · (intro w hSw; (try rw [hSS] at hSw); (try dsimp only at hSw); go_simp; try with_reducible rfl)
              try simp only [Act.put, List.getElem_toArray, List.getElem_cons_zero, List.getElem_cons_succ, List.setIfInBounds_toArray, List.set_cons_zero, List.set_cons_succ]
              refine wpAnyF_take (i := 1) (v := ?_) rfl (by kernel_rfl) (by kernel_rfl) (by kernel_rfl) (by kernel_rfl) (fun _ _ _ h => h) hHeld (Or.inl ⟨by rfl, ?_⟩) ?_
              rotate_left
              · (intro w hSw; (try rw [hSS] at hSw); (try dsimp only at hSw); go_simp; try with_reducible rfl)
              try simp only [Act.put, List.getElem_toArray, List.getElem_cons_zero, List.getElem_cons_succ, List.setIfInBounds_toArray, List.set_cons_zero, List.set_cons_succ]
              refine wpAnyF_take (i := 2) (v := ?_) rfl (by kernel_rfl) (by kernel_rfl) (by kernel_rfl) (by kernel_rfl) (fun _ _ _ h => h) hHeld (Or.inl ⟨by rfl, ?_⟩) ?_
              rotate_left
              · (intro w hSw; (try rw [hSS] at hSw); (try dsimp only at hSw); go_simp; try with_reducible rfl)
              try simp only [Act.put, List.getElem_toArray, List.getElem_cons_zero, List.getElem_cons_succ, List.setIfInBounds_toArray, List.set_cons_zero, List.set_cons_succ]
              refine wpAnyF_take (i := 3) (v := ?_) rfl (by kernel_rfl) (by kernel_rfl) (by kernel_rfl) (by kernel_rfl) (fun _ _ _ h => h) hHeld (Or.inl ⟨by rfl, ?_⟩) ?_
              rotate_left
              · (intro w hSw; (try rw [hSS] at hSw); (try dsimp only at hSw); go_simp; try with_reducible rfl)
              try simp only [Act.put, List.getElem_toArray, List.getElem_cons_zero, List.getElem_cons_succ, List.setIfInBounds_toArray, List.set_cons_zero, List.set_cons_succ]
              refine wpAnyF_take (i := 4) (v := ?_) rfl (by kernel_rfl) (by kernel_rfl) (by kernel_rfl) (by kernel_rfl) (fun _ _ _ h => h) hHeld (Or.inl ⟨by rfl, ?_⟩) ?_
              rotate_left
              · (intro w hSw; (try rw [hSS] at hSw); (try dsimp only at hSw); go_simp; try with_reducible rfl)
              try simp only [Act.put, List.getElem_toArray, List.getElem_cons_zero, List.getElem_cons_succ, List.setIfInBounds_toArray, List.set_cons_zero, List.set_cons_succ]
              refine wpAnyF_take (i := 5) (v := ?_) rfl (by kernel_rfl) (by kernel_rfl) (by kernel_rfl) (by kernel_rfl) (fun _ _ _ h => h) hHeld (Or.inl ⟨by rfl, ?_⟩) ?_
              rotate_left
              · (intro w hSw; (try rw [hSS] at hSw); (try dsimp only at hSw); go_simp; try with_reducible rfl)
              try simp only [Act.put, List.getElem_toArray, List.getElem_cons_zero, List.getElem_cons_succ, List.setIfInBounds_toArray, List.set_cons_zero, List.set_cons_succ]
              refine wpAnyF_take (i := 6) (v := ?_) rfl (by kernel_rfl) (by kernel_rfl) (by kernel_rfl) (by kernel_rfl) (fun _ _ _ h => h) hHeld (Or.inl ⟨by rfl, ?_⟩) ?_
              rotate_left
              · (intro w hSw; (try rw [hSS] at hSw); (try dsimp only at hSw); go_simp; try with_reducible rfl)
              try simp only [Act.put, List.getElem_toArray, List.getElem_cons_zero, List.getElem_cons_succ, List.setIfInBounds_toArray, List.set_cons_zero, List.set_cons_succ]
              refine wpAnyF_take (i := 7) (v := ?_) rfl (by kernel_rfl) (by kernel_rfl) (by kernel_rfl) (by kernel_rfl) (fun _ _ _ h => h) hHeld (Or.inl ⟨by rfl, ?_⟩) ?_
              rotate_left
              · (intro w hSw; (try rw [hSS] at hSw); (try dsimp only at hSw); go_simp; try with_reducible rfl)
              try simp only [Act.put, List.getElem_toArray, List.getElem_cons_zero, List.getElem_cons_succ, List.setIfInBounds_toArray, List.set_cons_zero, List.set_cons_succ]
              refine wpAnyF_take (i := 8) (v := ?_) rfl (by kernel_rfl) (by kernel_rfl) (by kernel_rfl) (by kernel_rfl) (fun _ _ _ h => h) hHeld (Or.inl ⟨by rfl, ?_⟩) ?_
              rotate_left
              · (intro w hSw; (try rw [hSS] at hSw); (try dsimp only at hSw); go_simp; try with_reducible rfl)
              try simp only [Act.put, List.getElem_toArray, List.getElem_cons_zero, List.getElem_cons_succ, List.setIfInBounds_toArray, List.set_cons_zero, List.set_cons_succ]
              refine wpAnyF_take (i := 9) (v := ?_) rfl (by kernel_rfl) (by kernel_rfl) (by kernel_rfl) (by kernel_rfl) (fun _ _ _ h => h) hHeld (Or.inl ⟨by rfl, ?_⟩) ?_
              rotate_left
              · (intro w hSw; (try rw [hSS] at hSw); (try dsimp only at hSw); go_simp; try with_reducible rfl)
              try simp only [Act.put, List.getElem_toArray, List.getElem_cons_zero, List.getElem_cons_succ, List.setIfInBounds_toArray, List.set_cons_zero, List.set_cons_succ]
              refine wpAnyF_take (i := 11) (v := ?_) rfl (by kernel_rfl) (by kernel_rfl) (by kernel_rfl) (by kernel_rfl) (fun _ _ _ h => h) hHeld (Or.inl ⟨by rfl, ?_⟩) ?_
              rotate_left
              · (intro w hSw; (try rw [hSS] at hSw); (try dsimp only at hSw); go_simp; try with_reducible rfl)
              try simp only [Act.put, List.getElem_toArray, List.getElem_cons_zero, List.getElem_cons_succ, List.setIfInBounds_toArray, List.set_cons_zero, List.set_cons_succ]
              refine wpAnyF_take (i := 12) (v := ?_) rfl (by kernel_rfl) (by kernel_rfl) (by kernel_rfl) (by kernel_rfl) (fun _ _ _ h => h) hHeld (Or.inl ⟨by rfl, ?_⟩) ?_
              rotate_left
              · (intro w hSw; (try rw [hSS] at hSw); (try dsimp only at hSw); go_simp; try with_reducible rfl)
              try simp only [Act.put, List.getElem_toArray, List.getElem_cons_zero, List.getElem_cons_succ, List.setIfInBounds_toArray, List.set_cons_zero, List.set_cons_succ]
              refine wpAnyF_one (i := 10) (by kernel_rfl) rfl (fun K hK => ?_)
              go_simp
              refine hK.out _ _ (Or.inr (by rw [hSS]; exact (hm.setL hi (some x)).c1)) ?_
              clear hK K
              try simp only [Act.put, List.getElem_toArray, List.getElem_cons_zero, List.getElem_cons_succ, List.setIfInBounds_toArray, List.set_cons_zero, List.set_cons_succ]
              have hm2 := hm.setL hi (some x)
              have fg1 : (u3.setCell ⟨l, i, none⟩ (.int .i64 (x : Int))).frozen? ⟨g, 2 + x, none⟩ = false := hm2.fg (2 + x)
              have rt1 := hm2.rt x hx256
              have hm3 := hm2.setR hx256 (some i)
              have hK3 := (hKm.trans (Kp.set ⟨l, i, none⟩ (.int .i64 (x : Int)) (Or.inr rfl))).trans (Kp.set ⟨g, 2 + x, none⟩ (.int .i64 (i : Int)) (Or.inl rfl))
              unfold oz at rt1
              refine wpAnyF_one (i := 13) (by kernel_rfl) rfl (fun K hK => ?_)
              go_simp
              refine hK.out _ _ (Or.inr (by rw [hSS]; exact hm2.c1)) ?_
              clear hK K
              try simp only [Act.put, List.getElem_toArray, List.getElem_cons_zero, List.getElem_cons_succ, List.setIfInBounds_toArray, List.set_cons_zero, List.set_cons_succ]
              refine wpAnyF_one (i := 14) (by kernel_rfl) rfl (fun K hK => ?_)
              go_simp
              refine hK.out _ _ (Or.inr (by rw [hSS]; exact hm3.c1)) ?_
              clear hK K
              try simp only [Act.put, List.getElem_toArray, List.getElem_cons_zero, List.getElem_cons_succ, List.setIfInBounds_toArray, List.set_cons_zero, List.set_cons_succ]
              refine wpAnyF_done (by kernel_rfl) ?_ _
              go_wp2_with fail
              go_ret
              exact ⟨true, _, rfl, hA.out _ _ (by rw [HD.out]; exact Aug.hit hb1s.out.symm hb2s.out.symm HRx.out hA2), hm3, hK3⟩
        · go_wp2_with fail
          go_roundw
          case rel => exact ⟨k + 1, t, by go_num, by omega, ht, hKp, hMt, hRt, Lib.hid (fun b u h => hA.out b u (by rw [HD.out]; exact Aug.skip (Or.inr hb2s.out.symm) h))⟩
          case measure => simp [intOf]; omega
      · go_wp2_with fail
        go_roundw
        case rel => exact ⟨k + 1, t, by go_num, by omega, ht, hKp, hMt, hRt, Lib.hid (fun b u h => hA.out b u (by rw [HD.out]; exact Aug.skip (Or.inl hb1s.out.symm) h))⟩
        case measure => simp [intOf]; omega
    · obtain rfl : k = mr := by omega
      have hlt' : ¬ (k : Int) < (k : Int) := by omega
      go_wp2_with fail
      go_ret
      exact ⟨false, t, rfl, hA.out _ _ (by rw [List.drop_of_length_le (Nat.le_of_eq HLEN.out)]; exact Aug.nil _ _), ht, hKp⟩
/-- augment. -/
theorem augment_any (g l n cg cl : Nat) (Ag : Option Addr) (gr : Nat → List Nat) (F : Nat → Bool) (hn : n ≤ 256) (hg : ∀ a, a < n → ∀ x ∈ gr a, x < 256) : ∀ (M i : Nat) (s : MSt) (w : World), SrAt w g l n cg cl Ag gr F s → i < n → unseen s ≤ M → (∀ j k, s.R j = some k → k < n) →
    Calls Tryd.prog 91 #[.pointer (some ⟨g, 0, none⟩), .int .i64 (i : Int)] w fun e w' => AugPost g l n cg cl Ag gr F i s w e w'
  | 0, i, s, w, h1, h2, h3, h4 => augment_step g l n cg cl Ag gr F hn hg 0 i s w h1 h2 h3 h4 (fun M' e => by cases e)
  | M + 1, i, s, w, h1, h2, h3, h4 => augment_step g l n cg cl Ag gr F hn hg (M + 1) i s w h1 h2 h3 h4 (fun M' e => by
    obtain rfl : M = M' := by omega
    exact fun i s w => augment_any g l n cg cl Ag gr F hn hg M i s w)
end Go.Proofs.YtfnhaoindehjdaaDoor
