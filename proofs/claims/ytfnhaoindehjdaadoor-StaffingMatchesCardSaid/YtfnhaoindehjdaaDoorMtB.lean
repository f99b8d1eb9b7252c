/- The walk of matching.maximum. -/
import Derived.Test.YtfnhaoindehjdaaDoorMtA
import Derived.Deep.MidRow
namespace Go.Proofs.YtfnhaoindehjdaaDoor
open Go.RowKit
set_option linter.unusedVariables false
set_option linter.unusedSimpArgs false

theorem size_setCells (b : Nat) : ∀ (Z : List Value) (o : Nat) (w : World), (w.setCells b o Z).heap.size = w.heap.size
  | [], o, w => rfl
  | v :: Z, o, w => by rw [World.setCells, size_setCells b Z, size_setCell]
theorem SrAt.fresh {w : World} {g l n cg cl : Nat} {Ag : Option Addr} {gr : Nat → List Nat} {F : Nat → Bool} {s : MSt} (h : SrAt w g l n cg cl Ag gr F s) : SrAt (w.setCells g 514 (List.replicate 256 (.bool false))) g l n cg cl Ag gr F ⟨s.L, s.R, fun _ => false⟩ := by
  have out : ∀ b o, (b ≠ g ∨ o < 514) → (w.setCells g 514 (List.replicate 256 (.bool false))).cell? ⟨b, o, none⟩ = w.cell? ⟨b, o, none⟩ := fun b o hb => by
    refine World.cell?_setCells_out _ _ _ _ _ (fun h1 _ => ?_)
    have h1 : b = g := h1
    show o < 514 ∨ _
    rcases hb with hb | hb
    · exact absurd h1 hb
    · exact Or.inl hb
  have hne := fun e => h.ne (Eq.symm e)
  refine ⟨h.ne, by rw [size_setCells]; exact h.ll, (out _ _ (by omega)).trans h.c0, (out _ _ (by omega)).trans h.c1, fun x hx => (out _ _ (by omega)).trans (h.rt x hx), fun x hx => (out _ _ (by omega)).trans (h.fx x hx), fun x hx => ?_,
    fun a ha => (out _ _ (Or.inl hne)).trans (h.lf a ha), fun x => by rw [World.frozen?_setCells]; exact h.fg x, fun x => by rw [World.frozen?_setCells]; exact h.fl x, h.rows' fun b o h1 h2 => out b o (Or.inl h1)⟩
  have h1 := World.cell?_setCells_in g (List.replicate 256 (.bool false)) 514 w (fun j hj => by rw [List.length_replicate] at hj; rw [h.sn j hj]; rfl) x (by rw [List.length_replicate]; exact hx)
  rw [h1, List.getElem_replicate]
theorem SrAt.seenThere {w : World} {g l n cg cl : Nat} {Ag : Option Addr} {gr : Nat → List Nat} {F : Nat → Bool} {s : MSt} (h : SrAt w g l n cg cl Ag gr F s) : w.there g 514 256 := fun j hj => ⟨by rw [h.sn j hj]; rfl, h.fg _⟩
theorem blt137 (a : Act) : (Tryd.prog.built 137 ((#[] : Array (Nat × Operand)).map fun (i, x) => (i, a.eval x)).toList).getD #[] = (List.replicate 256 (.bool false)).toArray := by kernel_rfl
theorem Kp.sets {g l : Nat} : ∀ (Z : List Value) (o : Nat) (w : World), Kp w (w.setCells g o Z) g l
  | [], o, w => Kp.refl _ _ _
  | v :: Z, o, w => by
    rw [World.setCells]
    exact (Kp.set ⟨g, o, none⟩ v (Or.inl rfl)).trans (Kp.sets Z (o + 1) _)
theorem unseen_le (s : MSt) : unseen s ≤ 256 := Nat.le_trans (List.length_filter_le _ _) (by rw [List.length_range]; exact Nat.le_refl _)
theorem info137 : (Tryd.prog.info? 137).map (·.size) = some 256 := by kernel_rfl
set_option maxHeartbeats 8000000 in
set_option maxRecDepth 100000 in
/-- maximum. -/
theorem maximum_any (g l n cg cl : Nat) (Ag : Option Addr) (gr : Nat → List Nat) (s : MSt) (w : World) (hs : SrAt w g l n cg cl Ag gr (fun _ => false) s) (hn : n ≤ 256) (hg : ∀ a, a < n → ∀ x ∈ gr a, x < 256) (h0 : MInv n gr 0 s) :
    Calls Tryd.prog 76 #[.pointer (some ⟨g, 0, none⟩)] w fun e w' => (∃ v, e = .returned v) ∧ ∃ t, SrAt w' g l n cg cl Ag gr (fun _ => false) t ∧ MInv n gr n t ∧ Kp w w' g l := by
  have c0 := hs.c0
  go_enter Tryd.func76, Tryd.ntmps76
  have hmn : (n : Int) ≤ 256 := by omega
  go_wp2_with fail
  go_loopw [8] (fun v8 wr => ∃ (k : Nat) (t : MSt), v8 = .int .i64 (k : Int) ∧ k ≤ n ∧ SrAt wr g l n cg cl Ag gr (fun _ => false) t ∧ MInv n gr k t ∧ Kp w wr g l) (fun v8 _ => n - (intOf v8).toNat)
  case atStart => exact ⟨0, s, rfl, Nat.zero_le _, hs, h0, Kp.refl _ _ _⟩
  case round =>
    obtain ⟨k, t, rfl, hk, ht, hI, hK0⟩ := hrel
    by_cases hlt : k < n
    · have hlt' : (k : Int) < (n : Int) := by omega
      go_upto_region 3 with fail
      obtain ⟨Z, hZ⟩ : ∃ Z : List Value, Hid (Z = List.replicate 256 (.bool false)) := ⟨_, Lib.hid rfl⟩
      refine wp_region_list ?_
      refine wpList_plain rfl fun K hK => ?_
      go_simp
      refine hK _ _ ?_
      clear hK K
      try simp only [Act.put, List.getElem_toArray, List.getElem_cons_zero, List.getElem_cons_succ, List.setIfInBounds_toArray, List.set_cons_zero, List.set_cons_succ]
      refine wpList_build rfl _ _ rfl (by kernel_rfl) ?_
      rw [blt137, ← hZ.out]
      try simp only [Act.put, List.getElem_toArray, List.getElem_cons_zero, List.getElem_cons_succ, List.setIfInBounds_toArray, List.set_cons_zero, List.set_cons_succ]
      refine wpList_plain rfl fun K hK => ?_
      go_simp
      refine hK _ _ ?_
      clear hK K
      try simp only [Act.put, List.getElem_toArray, List.getElem_cons_zero, List.getElem_cons_succ, List.setIfInBounds_toArray, List.set_cons_zero, List.set_cons_succ]
      refine wpList_plain rfl fun K hK => ?_
      go_simp
      refine hK _ _ ?_
      clear hK K
      try simp only [Act.put, List.getElem_toArray, List.getElem_cons_zero, List.getElem_cons_succ, List.setIfInBounds_toArray, List.set_cons_zero, List.set_cons_succ]
      refine wpList_store_mid rfl _ (.tmp 14) (.tmp 12) rfl g 514 _ rfl rfl ?_ ?_ ?_ ?_
      · rw [hZ.out]; simpa using ht.seenThere
      · rw [hZ.out, info137]; simp
      · rw [hZ.out]; simp [Value.oneCell']
      have hf := ht.fresh
      rw [← hZ.out] at hf
      have hKf : Kp wr (wr.setCells g 514 Z) g l := Kp.sets Z 514 wr
      generalize (wr.setCells g 514 Z) = w2 at hf hKf ⊢
      have hih := augment_any g l n cg cl Ag gr (fun _ => false) hn hg 256 k ⟨t.L, t.R, fun _ => false⟩ w2 hf hlt (unseen_le _) (fun j k9 e => by have h1 := (hI.bnd k9 j ((hI.ok k9 j).2 e)).1; omega)
      unfold AugPost at hih
      simp only [wpList, Act.put]
      go_wp2_with fail
      refine hih.mono ?_
      rintro e w3 ⟨b, t2, rfl, hA2, hs2, hK2⟩
      go_wp2_with fail
      go_roundw
      case rel => exact ⟨k + 1, t2, by go_num, by omega, hs2, hI.step hlt hA2, hK0.trans (hKf.trans hK2)⟩
      case measure => simp [intOf]; omega
    · obtain rfl : k = n := by omega
      have hlt' : ¬ (k : Int) < (k : Int) := by omega
      go_wp2_with fail
      refine bodyPost_end (results_none rfl _ _ _) rfl ?_
      exact ⟨⟨_, rfl⟩, t, ht, hI, hK0⟩
end Go.Proofs.YtfnhaoindehjdaaDoor
