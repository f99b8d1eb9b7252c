/- The walk of matching.Least. (genls.py) -/
import Derived.Test.YtfnhaoindehjdaaDoorMtC
import Derived.Test.YtfnhaoindehjdaaDoorMtE
import Derived.Test.YtfnhaoindehjdaaDoorMtK
import Derived.Test.YtfnhaoindehjdaaDoorMtQ
import Derived.Test.YtfnhaoindehjdaaDoorPf
import Derived.Deep.CutBlock
import Derived.Deep.CutRange
namespace Go.Proofs.YtfnhaoindehjdaaDoor
open Go.RowKit
set_option linter.unusedVariables false
set_option linter.unusedSimpArgs false
theorem SrAt.setF {w : World} {g l n cg cl j : Nat} {Ag : Option Addr} {gr : Nat → List Nat} {F : Nat → Bool} {s : MSt} (h : SrAt w g l n cg cl Ag gr F s) (hj : j < 256) : SrAt (w.setCell ⟨g, 258 + j, none⟩ (.bool true)) g l n cg cl Ag gr (upd F j true) s := by
  refine ⟨h.ne, by rw [size_setCell]; exact h.ll, (cell_ne (by omega)).trans h.c0, (cell_ne (by omega)).trans h.c1, fun x hx => (cell_ne (by omega)).trans (h.rt x hx), fun x hx => ?_, fun x hx => (cell_ne (by omega)).trans (h.sn x hx),
    fun a ha => (cell_ne (Or.inl h.ne)).trans (h.lf a ha), fun x => by rw [World.frozen?_setCell]; exact h.fg x, fun x => by rw [World.frozen?_setCell]; exact h.fl x, h.rows' fun b o h1 h2 => cell_ne (Or.inl fun e => h1 e.symm)⟩
  show _ = some (Value.bool (upd F j true x))
  by_cases e : x = j
  · rw [e, upd_same]
    exact World.cell?_setCell_same w _ _ (h.fx j hj)
  · rw [upd_ne _ _ e]
    exact (cell_ne (by omega)).trans (h.fx x hx)
theorem LInv.same {n i : Nat} {g : Nat → List Nat} {F : Nat → Bool} {s t : MSt} (h : LInv n g i F s) (h1 : t.L = s.L) (h2 : t.R = s.R) : LInv n g i F t :=
  h.of (fun a x => by rw [h1, h2]; exact h.ok a x) (fun a j e => by rw [h1] at e; exact h.bnd a j e) (fun a ha => by rw [h1]; exact h.all a ha) (fun b hb => by rw [h1])
def LeastPost (n : Nat) (gr : Nat → List Nat) (w : World) (e : Ending) (w' : World) : Prop := Below w.heap.size w w' ∧ ((∃ l cl F s, e = .returned (.tuple #[.slice (some ⟨l, 0, none⟩) n cl, .bool true]) ∧ LInv n gr n F s ∧ Sees w' w'.heap.size (some ⟨l, 0, none⟩) (((List.range n).map fun a => oz (s.L a)).map iv)) ∨
      (e = .returned (.tuple #[.slice none 0 0, .bool false]) ∧ ∀ f, ¬ PM n gr f))
set_option maxHeartbeats 16000000 in
set_option maxRecDepth 100000 in
/-- Least. -/
theorem least_any (A : Option Addr) (n c : Nat) (elig : List Nat) (w : World) (h0 : SetsAt w w.heap.size A elig) (hn : elig.length = n) (hn256 : n ≤ 256) (hm : ∀ M ∈ elig, M.log2 < 256) (hT0 : Tab w) :
    Calls Tryd.prog 36 #[.slice A n c] w fun e w' => LeastPost n (grL elig) w e w' := by
  have Hn := Lib.hid hn
  have hg0 : 0 < w.heap.size := World.block_lt_of_cell? w _ (hT0 0 (by omega))
  have hb1 : (n : Int) ≤ 256 := by omega
  have hck := mcheck_any A n c elig w h0 hn hn256 hm
  have hbg := fun W (hW : Below w.heap.size w W) => begin2_any A n c elig W ((h0.below hW).more hW.size) hn hn256 hm (hT0.below hW hg0)
  obtain ⟨gr, hgr⟩ : ∃ gr, Hid (gr = grL elig) := ⟨_, Lib.hid rfl⟩
  have hg : ∀ a, a < n → ∀ x ∈ gr a, x < 256 := fun a ha x hx => by
    rw [hgr.out] at hx
    have hM : elig[a]? = some (elig[a]'(by omega)) := List.getElem?_eq_getElem (by omega)
    unfold grL at hx
    rw [hM] at hx
    exact (memM_256 (hm _ (List.mem_of_getElem? hM))).2 x hx
  have hso : ∀ a, (gr a).Pairwise (· < ·) := fun a => by rw [hgr.out]; exact memM_sorted _
  rw [← hgr.out] at hbg ⊢
  clear hn h0 hm hT0
  go_enter Tryd.func36, Tryd.ntmps36
  go_wp2_with fail
  refine hck.mono ?_
  rintro e w1 ⟨rfl, b1⟩
  go_wp2_with fail
  refine (hbg w1 b1).mono ?_
  rintro e w2 ⟨g, l, cg, Ag, rfl, hg1, hl1, h2, b2⟩
  have hwg : w.heap.size ≤ g := Nat.le_trans b1.size hg1
  have hwl : w.heap.size ≤ l := Nat.le_trans b1.size hl1
  have b2 := b1.trans (b2.mono b1.size)
  clear hck hbg b1 hg1 hl1
  have hmax := maximum_any g l n cg n Ag gr _ w2 h2 hn256 hg (MInv.start n gr _)
  go_wp2_with fail
  refine hmax.mono ?_
  rintro e w3 ⟨⟨v, rfl⟩, t, h3, hM, k3⟩
  have b3 : Below w.heap.size w w3 := b2.trans ((Kl.kp k3).toBelow hwg hwl b2.size)
  clear hmax h2 b2 k3
  have c13 := h3.c1
  have hct := contI_any (some ⟨l, 0, none⟩) n n ((List.range n).map fun a => oz (t.L a)) (-1) w3 h3.left (by simp) (by omega)
  obtain ⟨bc, hbc⟩ : ∃ b, Hid (b = ((List.range n).map fun a => oz (t.L a)).contains (-1)) := ⟨_, Lib.hid rfl⟩
  rw [← hbc.out] at hct
  go_wp2_with fail
  refine hct.mono ?_
  rintro e w3' ⟨rfl, rfl⟩
  cases bc
  · have hfull : ∀ a, a < n → t.L a ≠ none := fun a ha e => by
      have h5 := hbc.out
      have h6 : ((List.range n).map fun a => oz (t.L a)).contains (-1) = true := by
        rw [List.contains_iff_mem]
        exact List.mem_map.2 ⟨a, List.mem_range.2 ha, by rw [e]; rfl⟩
      rw [h6] at h5
      cases h5
    have hI := LInv.start hM hfull
    clear hM hfull hct c13
    have c03 := h3.c0
    go_wp2_with fail
    go_loopw [25] (fun v25 wr => ∃ (k l cl : Nat) (F : Nat → Bool) (s : MSt), v25 = .int .i64 (k : Int) ∧ k ≤ n ∧ SrAt wr g l n cg cl Ag gr F s ∧ LInv n gr k F s ∧ w.heap.size ≤ l ∧ Below w.heap.size w wr) (fun v25 _ => n - (intOf v25).toNat)
    case atStart => exact ⟨0, l, n, _, t, rfl, Nat.zero_le _, h3, hI, hwl, b3⟩
    case round =>
      clear h3 hI hwl b3 c03 hbc
      obtain ⟨k, l, cl, F, s, rfl, hk, hs, hI, hwl, hB⟩ := hrel
      by_cases hlt : k < n
      · have hlt' : (k : Int) < (n : Int) := by omega
        obtain ⟨bg, og, Ar, mr, cr, hAg, hbgg, hbgl, hrow, hlen, hm256, hcells⟩ := hs.rows k hlt
        subst hAg
        have c0 := hs.c0
        have HLEN := Lib.hid hlen
        have hmr : (mr : Int) ≤ 256 := by omega
        clear hlen
        go_upto_block 2 with fail
        go_cut [7] from 28 to 62 (fun v7 wx => ∃ (l2 cl2 : Nat) (s2 : MSt) (j1 : Nat), SrAt wx g l2 n cg cl2 (some ⟨bg, og, none⟩) gr F s2 ∧ LInv n gr k F s2 ∧ w.heap.size ≤ l2 ∧ Below w.heap.size w wx ∧ s2.L k = some j1 ∧ ∀ f, PM n gr f → (∀ b, b < k → s2.L b = some (f b)) → j1 ≤ f k)
        case first =>
          obtain ⟨w0, hw0⟩ : ∃ w0, w0 = wr := ⟨_, rfl⟩
          go_wp2_with fail
          go_loopw [36] (fun v36 wq => ∃ (q l2 cl2 : Nat) (s2 : MSt), v36 = .int .i64 (q : Int) ∧ q ≤ mr ∧ SrAt wq g l2 n cg cl2 (some ⟨bg, og, none⟩) gr F s2 ∧ LInv n gr k F s2 ∧ w.heap.size ≤ l2 ∧ Below w.heap.size w wq ∧ Kl w0 wq g l ∧ (l2 = l ∨ w0.heap.size ≤ l2) ∧ Hid (∀ f, PM n gr f → (∀ b, b < k → s2.L b = some (f b)) → f k ∈ (gr k).drop q)) (fun v36 _ => mr - (intOf v36).toNat)
          case atStart => exact ⟨0, l, cl, s, rfl, Nat.zero_le _, hs, hI, hwl, hB, (by rw [hw0]; exact Kl.refl _ _ _), Or.inl rfl, Lib.hid (fun f hf _ => hf.mem k hlt)⟩
          case round =>
            rw [← hw0] at hcells
            clear hs hI hwl hB hrow c0 hw0
            obtain ⟨q, l2, cl2, s2, rfl, hq, h2, hI2, hl2, hB2, hK2, hll2, hP2⟩ := hrel
            by_cases hlq : q < mr
            · have hlq' : (q : Int) < (mr : Int) := by omega
              obtain ⟨x, hx⟩ : ∃ x, (gr k)[q]? = some x := ⟨_, List.getElem?_eq_getElem (by rw [HLEN.out]; exact hlq)⟩
              obtain ⟨b', o', rfl, hb1, hb2, hcx⟩ := hcells q x hx
              have hblt := World.block_lt_of_cell? _ _ hcx
              have hxr : wr.cell? ⟨b', o' + q, none⟩ = some (.int .i64 (x : Int)) := (hK2.cell hblt hb1 hb2).trans hcx
              have hxm : x ∈ gr k := List.mem_of_getElem? hx
              have hx256 : x < 256 := hg k hlt x hxm
              have hx' : (x : Int) < 256 := by omega
              have hdrop : (gr k).drop q = x :: (gr k).drop (q + 1) := by
                have h1 := List.drop_eq_getElem_cons (l := gr k) (i := q) (by rw [HLEN.out]; exact hlq)
                rw [List.getElem?_eq_getElem (by rw [HLEN.out]; exact hlq)] at hx
                injection hx with hx
                rw [h1, hx]
              have HD := Lib.hid hdrop
              have hmore : Hid (∀ s3 : MSt, s3.L = s2.L → (∀ f, PM n gr f → (∀ b, b < k → s3.L b = some (f b)) → f k ≠ x) → ∀ f, PM n gr f → (∀ b, b < k → s3.L b = some (f b)) → f k ∈ (gr k).drop (q + 1)) := Lib.hid (fun s3 e h f hf hp => by
                have h1 := hP2.out f hf (by rw [← e]; exact hp)
                rw [HD.out] at h1
                rcases List.mem_cons.1 h1 with h4 | h4
                · exact absurd h4 (h f hf hp)
                · exact h4)
              obtain ⟨bF, hbF⟩ : ∃ b, Hid (b = F x) := ⟨_, Lib.hid rfl⟩
              have fx0 := h2.fx x hx256
              rw [← hbF.out] at fx0
              clear hx hdrop hcx
              cases bF
              · obtain ⟨j0, hj0⟩ : ∃ j0, s2.L k = some j0 := by
                  cases e : s2.L k with
                  | none => exact absurd e (hI2.all k hlt)
                  | some j0 => exact ⟨j0, rfl⟩
                have hj0m := (hI2.bnd k j0 hj0).2
                have hj0lt : j0 < 256 := hg k hlt j0 hj0m
                have c12 := h2.c1
                have lf2 : wr.cell? ⟨l2, k, none⟩ = some (.int .i64 (j0 : Int)) := by have := h2.lf k hlt; rw [hj0] at this; exact this
                have HJ := Lib.hid hj0
                clear hj0
                by_cases hxj : x = j0
                · have hxj' : ((x : Int) == (j0 : Int)) = true := by simp [hxj]
                  have hxe : (x : Int) = (j0 : Int) := by rw [hxj]
                  have HX := Lib.hid hxj
                  clear hxj hxe
                  go_wp2_with fail
                  go_meet
                  exact ⟨l2, cl2, s2, j0, h2, hI2, hl2, hB2, HJ.out, fun f hf hp => by
                    have h1 := hP2.out f hf hp
                    rw [HD.out] at h1
                    have h3 := hso k
                    rw [← List.take_append_drop q (gr k), HD.out] at h3
                    have h5 := List.pairwise_cons.1 (List.pairwise_append.1 h3).2.1
                    rcases List.mem_cons.1 h1 with h4 | h4
                    · rw [h4, HX.out]; exact Nat.le_refl _
                    · have := h5.1 _ h4; rw [HX.out] at this; omega⟩
                · have hxj' : ((x : Int) == (j0 : Int)) = false := beq_eq_false_iff_ne.2 (by omega)
                  have hxn : ¬ (x : Int) = (j0 : Int) := by omega
                  have hmv := move_any g l2 n cg cl2 k x j0 (some ⟨bg, og, none⟩) gr F s2 wr h2 hn256 hg hlt hx256 hj0lt HJ.out hxj (fun y a e => (hI2.bnd a y ((hI2.ok a y).2 e)).1)
                  have HXJ := Lib.hid hxj
                  clear hxj
                  go_wp2_with fail
                  refine hmv.mono ?_
                  rintro e w3 ⟨b, t, l3, cl3, rfl, hMv, h3, hl3, hK3⟩
                  clear hmv fx0 c12 lf2 hxr
                  have hB3 : Below w.heap.size w w3 := hB2.trans (hK3.toBelow hwg hl2 hB2.size)
                  have hl3' : w.heap.size ≤ l3 := by
                    rcases hl3 with e | e
                    · rw [e]; exact hl2
                    · exact Nat.le_trans hB2.size e
                  cases b
                  · obtain ⟨v1, v2, v3⟩ := hMv.vain rfl hI2 hlt HJ.out hbF.out.symm HXJ.out
                    have hI3 : LInv n gr k F t := hI2.same v1 v2
                    have hK3' := hK2.trans hK3 hll2
                    have hsz := hK2.size
                    go_wp2_with fail
                    go_roundw
                    case rel => exact ⟨q + 1, l3, cl3, t, by go_num, by omega, h3, hI3, hl3', hB3, hK3', (by rcases hl3 with e | e; (rw [e]; exact hll2); exact Or.inr (by omega)), Lib.hid (hmore.out t v1 (by rw [v1]; exact v3))⟩
                    case measure => simp [intOf]; omega
                  · obtain ⟨v1, v2, v3⟩ := hMv.good rfl hI2 hlt HJ.out hxm hbF.out.symm HXJ.out
                    go_wp2_with fail
                    go_meet
                    exact ⟨l3, cl3, t, x, h3, v1, hl3', hB3, v2, fun f hf hp => by
                      have h1 := hP2.out f hf (fun b hb => by rw [← v3 b hb]; exact hp b hb)
                      rw [HD.out] at h1
                      have h3 := hso k
                      rw [← List.take_append_drop q (gr k), HD.out] at h3
                      have h5 := List.pairwise_cons.1 (List.pairwise_append.1 h3).2.1
                      rcases List.mem_cons.1 h1 with h4 | h4
                      · omega
                      · have := h5.1 _ h4; omega⟩
              · go_wp2_with fail
                go_roundw
                case rel => exact ⟨q + 1, l2, cl2, s2, by go_num, by omega, h2, hI2, hl2, hB2, hK2, hll2, Lib.hid (hmore.out s2 rfl fun f hf hp => hI2.skip hlt hbF.out.symm hf hp)⟩
                case measure => simp [intOf]; omega
            · obtain rfl : q = mr := by omega
              have hlt' : ¬ (q : Int) < (q : Int) := by omega
              obtain ⟨j0, hj0⟩ : ∃ j0, s2.L k = some j0 := by
                cases e : s2.L k with
                | none => exact absurd e (hI2.all k hlt)
                | some j0 => exact ⟨j0, rfl⟩
              have hE : Hid ((gr k).drop q = []) := Lib.hid (List.drop_of_length_le (Nat.le_of_eq HLEN.out))
              go_wp2_with fail
              go_meet
              exact ⟨l2, cl2, s2, j0, h2, hI2, hl2, hB2, hj0, fun f hf hp => by
                have h1 := hP2.out f hf hp
                rw [hE.out] at h1
                cases h1⟩
        case rest =>
          obtain ⟨l2, cl2, s2, j1, h2, hI2, hl2, hB2, hj1, hP2⟩ := hcut
          have hj1lt : j1 < 256 := hg k hlt j1 (hI2.bnd k j1 hj1).2
          have hj1' : (j1 : Int) < 256 := by omega
          have HJ := Lib.hid hj1
          have HP := Lib.hid hP2
          clear hj1 hP2
          go_upto_region 16 with fail
          obtain ⟨SS, hSS⟩ : ∃ S : World → Prop, S = (fun W => W.cell? ⟨g, 1, none⟩ = some (.slice (some ⟨l2, 0, none⟩) n cl2) ∧ W.cell? ⟨l2, k, none⟩ = some (.int .i64 (j1 : Int))) := ⟨_, rfl⟩
          have lfi : ∀ W F, SrAt W g l2 n cg cl2 (some ⟨bg, og, none⟩) gr F s2 → W.cell? ⟨l2, k, none⟩ = some (.int .i64 (j1 : Int)) := fun W F h => by have := h.lf k hlt; rw [HJ.out] at this; exact this
          have c12 := h2.c1
          have lf2 := lfi wc F h2
          refine wp_region_F (fun _ => false) SS (by kernel_rfl) (by rw [hSS]; exact ⟨c12, lf2⟩) (fun hHeld => ?_)
          have h2 := h2.drew
          have hB2 := hB2.drew
          clear c12 lf2
          generalize wc.drew = w1 at h2 hB2 hHeld ⊢
          have fg1 := h2.fg (258 + j1)
          have fx1 := h2.fx j1 hj1lt
          refine wpAnyF_take (i := 0) (v := ?_) rfl (by kernel_rfl) (by kernel_rfl) (by kernel_rfl) (by kernel_rfl) (fun _ _ _ h => h) hHeld (Or.inl ⟨by rfl, ?_⟩) ?_
          rotate_left
          · (intro w hSw; (try rw [hSS] at hSw); (try dsimp only at hSw); go_simp; try with_reducible rfl)
          try simp only [Act.put, List.getElem_toArray, List.getElem_cons_zero, List.getElem_cons_succ, List.setIfInBounds_toArray, List.set_cons_zero, List.set_cons_succ]
          refine wpAnyF_take (i := 1) (v := ?_) rfl (by kernel_rfl) (by kernel_rfl) (by kernel_rfl) (by kernel_rfl) (fun _ _ _ h => h) hHeld (Or.inl ⟨by rfl, ?_⟩) ?_
          rotate_left
          · (intro w hSw; (try rw [hSS] at hSw); (try dsimp only at hSw); go_simp; try with_reducible rfl)
          try simp only [Act.put, List.getElem_toArray, List.getElem_cons_zero, List.getElem_cons_succ, List.setIfInBounds_toArray, List.set_cons_zero, List.set_cons_succ]
          refine wpAnyF_take (i := 2) (v := ?_) rfl (by kernel_rfl) (by kernel_rfl) (by kernel_rfl) (by kernel_rfl) (fun _ _ _ h => h) hHeld (Or.inl ⟨by rfl, ?_⟩) ?_
          rotate_left
          · (intro w hSw; (try rw [hSS] at hSw); (try dsimp only at hSw); go_simp; try with_reducible rfl)
          try simp only [Act.put, List.getElem_toArray, List.getElem_cons_zero, List.getElem_cons_succ, List.setIfInBounds_toArray, List.set_cons_zero, List.set_cons_succ]
          refine wpAnyF_take (i := 3) (v := ?_) rfl (by kernel_rfl) (by kernel_rfl) (by kernel_rfl) (by kernel_rfl) (fun _ _ _ h => h) hHeld (Or.inl ⟨by rfl, ?_⟩) ?_
          rotate_left
          · (intro w hSw; (try rw [hSS] at hSw); (try dsimp only at hSw); go_simp; try with_reducible rfl)
          try simp only [Act.put, List.getElem_toArray, List.getElem_cons_zero, List.getElem_cons_succ, List.setIfInBounds_toArray, List.set_cons_zero, List.set_cons_succ]
          refine wpAnyF_take (i := 4) (v := ?_) rfl (by kernel_rfl) (by kernel_rfl) (by kernel_rfl) (by kernel_rfl) (fun _ _ _ h => h) hHeld (Or.inl ⟨by rfl, ?_⟩) ?_
          rotate_left
          · (intro w hSw; (try rw [hSS] at hSw); (try dsimp only at hSw); go_simp; try with_reducible rfl)
          try simp only [Act.put, List.getElem_toArray, List.getElem_cons_zero, List.getElem_cons_succ, List.setIfInBounds_toArray, List.set_cons_zero, List.set_cons_succ]
          refine wpAnyF_take (i := 5) (v := ?_) rfl (by kernel_rfl) (by kernel_rfl) (by kernel_rfl) (by kernel_rfl) (fun _ _ _ h => h) hHeld (Or.inl ⟨by rfl, ?_⟩) ?_
          rotate_left
          · (intro w hSw; (try rw [hSS] at hSw); (try dsimp only at hSw); go_simp; try with_reducible rfl)
          try simp only [Act.put, List.getElem_toArray, List.getElem_cons_zero, List.getElem_cons_succ, List.setIfInBounds_toArray, List.set_cons_zero, List.set_cons_succ]
          refine wpAnyF_take (i := 6) (v := ?_) rfl (by kernel_rfl) (by kernel_rfl) (by kernel_rfl) (by kernel_rfl) (fun _ _ _ h => h) hHeld (Or.inl ⟨by rfl, ?_⟩) ?_
          rotate_left
          · (intro w hSw; (try rw [hSS] at hSw); (try dsimp only at hSw); go_simp; try with_reducible rfl)
          try simp only [Act.put, List.getElem_toArray, List.getElem_cons_zero, List.getElem_cons_succ, List.setIfInBounds_toArray, List.set_cons_zero, List.set_cons_succ]
          refine wpAnyF_take (i := 7) (v := ?_) rfl (by kernel_rfl) (by kernel_rfl) (by kernel_rfl) (by kernel_rfl) (fun _ _ _ h => h) hHeld (Or.inl ⟨by rfl, ?_⟩) ?_
          rotate_left
          · (intro w hSw; (try rw [hSS] at hSw); (try dsimp only at hSw); go_simp; try with_reducible rfl)
          try simp only [Act.put, List.getElem_toArray, List.getElem_cons_zero, List.getElem_cons_succ, List.setIfInBounds_toArray, List.set_cons_zero, List.set_cons_succ]
          refine wpAnyF_take (i := 8) (v := ?_) rfl (by kernel_rfl) (by kernel_rfl) (by kernel_rfl) (by kernel_rfl) (fun _ _ _ h => h) hHeld (Or.inl ⟨by rfl, ?_⟩) ?_
          rotate_left
          · (intro w hSw; (try rw [hSS] at hSw); (try dsimp only at hSw); go_simp; try with_reducible rfl)
          try simp only [Act.put, List.getElem_toArray, List.getElem_cons_zero, List.getElem_cons_succ, List.setIfInBounds_toArray, List.set_cons_zero, List.set_cons_succ]
          refine wpAnyF_take (i := 9) (v := ?_) rfl (by kernel_rfl) (by kernel_rfl) (by kernel_rfl) (by kernel_rfl) (fun _ _ _ h => h) hHeld (Or.inl ⟨by rfl, ?_⟩) ?_
          rotate_left
          · (intro w hSw; (try rw [hSS] at hSw); (try dsimp only at hSw); go_simp; try with_reducible rfl)
          try simp only [Act.put, List.getElem_toArray, List.getElem_cons_zero, List.getElem_cons_succ, List.setIfInBounds_toArray, List.set_cons_zero, List.set_cons_succ]
          refine wpAnyF_take (i := 10) (v := ?_) rfl (by kernel_rfl) (by kernel_rfl) (by kernel_rfl) (by kernel_rfl) (fun _ _ _ h => h) hHeld (Or.inl ⟨by rfl, ?_⟩) ?_
          rotate_left
          · (intro w hSw; (try rw [hSS] at hSw); (try dsimp only at hSw); go_simp; try with_reducible rfl)
          try simp only [Act.put, List.getElem_toArray, List.getElem_cons_zero, List.getElem_cons_succ, List.setIfInBounds_toArray, List.set_cons_zero, List.set_cons_succ]
          have h3 := h2.setF hj1lt
          have hB3 := hB2.setCell (p := ⟨g, 258 + j1, none⟩) hwg (.bool true)
          refine wpAnyF_one (i := 11) (by kernel_rfl) rfl (fun K hK => ?_)
          go_simp
          refine hK.out _ _ (Or.inr (by rw [hSS]; exact ⟨h3.c1, lfi _ _ h3⟩)) ?_
          clear hK K
          try simp only [Act.put, List.getElem_toArray, List.getElem_cons_zero, List.getElem_cons_succ, List.setIfInBounds_toArray, List.set_cons_zero, List.set_cons_succ]
          generalize (w1.setCell ⟨g, 258 + j1, none⟩ (.bool true)) = w2 at h3 hB3 ⊢
          refine wpAnyF_done (by kernel_rfl) ?_ _
          clear h2 hB2 fg1 fx1 hHeld hSS SS lfi
          have hI3 : LInv n gr (k + 1) (upd F j1 true) s2 := hI2.fix HJ.out HP.out
          go_wp2_with fail
          go_roundw
          case rel => exact ⟨k + 1, l2, cl2, _, s2, by go_num, by omega, h3, hI3, hl2, hB3⟩
          case measure => simp [intOf]; omega
      · obtain rfl : k = n := by omega
        have hlt' : ¬ (k : Int) < (k : Int) := by omega
        have c1 := hs.c1
        go_wp2_with fail
        go_ret2
        exact ⟨hB, Or.inl ⟨l, cl, F, s, rfl, hI, hs.left⟩⟩
  · have hno : ∀ f, ¬ PM n gr f := by
      rcases hM.full with h5 | h5
      · exfalso
        have h6 : ((List.range n).map fun a => oz (t.L a)).contains (-1) = true := hbc.out.symm
        rw [List.contains_iff_mem] at h6
        obtain ⟨a, ha, e⟩ := List.mem_map.1 h6
        cases e2 : t.L a with
        | none => exact h5 a (List.mem_range.1 ha) e2
        | some x => rw [e2] at e; have e : (x : Int) = -1 := e; omega
      · exact h5.2
    go_wp2_with fail
    go_ret2
    exact ⟨b3, Or.inr ⟨rfl, hno⟩⟩
end Go.Proofs.YtfnhaoindehjdaaDoor
