/- The walks of Number, Count, Fail whatever the error, and of refute.list. -/
import Derived.Test.YtcnofhlgiffkjaaGreatDoorRdP
namespace Go.Proofs.YtcnofhlgiffkjaaGreatDoor
open Go.RowKit
set_option linter.unusedVariables false
set_option linter.unusedSimpArgs false

theorem nU_any (g : Nat) (p : List UInt8) (er : Int) (most : Nat) (w : World) (h : RdAt w g p er) (hm : most ≤ 9223372036854775807) :
    Calls Tryz.prog 41 #[.pointer (some ⟨g, 0, none⟩), .int .i64 (most : Int)] w fun e w' => e = .returned (.int .i64 ((nU most p er).1 : Nat)) ∧ RdAt w' g (nU most p er).2.1 (nU most p er).2.2 ∧ Only w w' g := by
  unfold nU
  by_cases c : er = 0
  · subst c
    rw [if_pos rfl]
    exact rNumber_any g p most w h hm
  · rw [if_neg c]
    refine (rNumber_bad g p er most w h c).mono ?_
    rintro e w' ⟨rfl, rfl⟩
    exact ⟨rfl, h, Mvd.refl _ _ _⟩
theorem nC_any (g : Nat) (p : List UInt8) (er : Int) (most : Nat) (w : World) (h : RdAt w g p er) (hm : most ≤ 9223372036854775807) :
    Calls Tryz.prog 39 #[.pointer (some ⟨g, 0, none⟩), .int .i64 (most : Int)] w fun e w' => e = .returned (.int .i64 ((nC most p er).1 : Nat)) ∧ RdAt w' g (nC most p er).2.1 (nC most p er).2.2 ∧ Only w w' g := by
  unfold nC
  by_cases c : er = 0
  · subst c
    rw [if_pos rfl]
    exact rCount_any g p most w h hm
  · rw [if_neg c]
    refine (rCount_bad g p er most w h c).mono ?_
    rintro e w' ⟨rfl, rfl⟩
    exact ⟨rfl, h, Mvd.refl _ _ _⟩
theorem nF_any (g : Nat) (p : List UInt8) (e0 er : Int) (w : World) (h : RdAt w g p e0) :
    Calls Tryz.prog 42 #[.pointer (some ⟨g, 0, none⟩), .int .i64 er] w fun e w' => e = .returned (.tuple #[]) ∧ RdAt w' g p (nF e0 er) ∧ Only w w' g := by
  unfold nF
  by_cases c : e0 = 0
  · subst c
    rw [if_pos rfl]
    exact fail_any g p er w h
  · rw [if_neg c]
    have hk := ok_any g p e0 w h
    rw [beq_false_of_ne c] at hk
    go_enter Tryz.func42, Tryz.ntmps42
    go_wp2_with fail
    refine hk.mono ?_
    rintro e w1 ⟨rfl, rfl⟩
    go_wp2_with fail
    go_end0
    exact ⟨rfl, h, Mvd.refl _ _ _⟩
theorem RdAt.belowB {w w' : World} {g B : Nat} {p : List UInt8} {e : Int} (h : RdAt w g p e) (hb : Below B w w') (hg : g < B) : RdAt w' g p e := by
  obtain ⟨A, n, c, h⟩ := h
  refine ⟨A, n, c, (hb.block g hg).trans h.blk, fun hn => ?_, h.len, h.room, h.big, h.low⟩
  obtain ⟨b, o, e, hbs, hc⟩ := h.sees hn
  have := h.low _ e
  exact ⟨b, o, e, Nat.lt_of_lt_of_le hbs hb.size, fun j u hu => (World.cell?_of_block (a := ⟨b, o + j, none⟩) (hb.block b (Nat.lt_trans this hg))).trans (hc j u hu)⟩
theorem Only.belowB {w w1 w2 : World} {g : Nat} (h : Only w w1 g) (hb : Below w.heap.size w1 w2) : Only w w2 g :=
  ⟨hb.os.trans h.os, hb.tape.trans h.tape, hb.output.trans h.output, Nat.le_trans h.size hb.size, fun k hk hg hr => (hb.block k hk).trans (h.block k hk hg hr)⟩
theorem row_only {w w' : World} {B g n e s : Nat} {v : Value} {xs : List Value} (h : w.ownsRow B e s v n xs) (ho : Only w w' g) (hg : g < B) : w'.ownsRow B e s v n xs := by
  have hk : ∀ k, v.ownBlock = some k → k < w.heap.size ∧ k ≠ g := fun k hv => by
    have := h.lt k hv
    omega
  refine ⟨h.1, ?_⟩
  rcases h.2 with h2 | ⟨k, cap, cur, e1, e2, e3, e4⟩
  · exact .inl h2
  · refine .inr ⟨k, cap, cur, e1, e2, ?_, e4⟩
    obtain ⟨a1, a2⟩ := hk k (by rw [e1]; simp [Value.ownBlock])
    rw [ho.block k a1 a2 (by simp)]
    exact e3
theorem RdAt.lt {w : World} {g : Nat} {p : List UInt8} {e : Int} (h : RdAt w g p e) : g < w.heap.size := by
  obtain ⟨A, n, c, h⟩ := h
  exact h.blk.lt
theorem goL_len : ∀ (k : Nat) (p : List UInt8) (e : Int), (goL k p e).1.length ≤ k
  | 0, _, _ => Nat.le_refl _
  | k + 1, p, e => by
    rw [goL]
    by_cases c : e = 0
    · rw [if_pos c]
      have := goL_len k (nU 2147483647 p e).2.1 (nU 2147483647 p e).2.2
      show (List.length _ + 1) ≤ k + 1
      omega
    · rw [if_neg c]; exact Nat.zero_le _
theorem nC_le (most : Nat) (p : List UInt8) (e : Int) : (nC most p e).1 ≤ most ∧ (nC most p e).2.1.length ≤ p.length := by
  unfold nC rdC
  by_cases c : e = 0
  · rw [if_pos c]
    by_cases c2 : (num p).2 = 0
    · rw [if_pos c2]; exact ⟨Nat.zero_le _, Nat.le_refl _⟩
    · rw [if_neg c2]
      by_cases c3 : most < (num p).1
      · rw [if_pos c3]; exact ⟨Nat.zero_le _, Nat.le_refl _⟩
      · rw [if_neg c3]; exact ⟨by show (num p).1 ≤ most; omega, by show (p.drop _).length ≤ _; rw [List.length_drop]; omega⟩
  · rw [if_neg c]; exact ⟨Nat.zero_le _, Nat.le_refl _⟩
set_option maxHeartbeats 16000000 in
set_option maxRecDepth 100000 in
/-- list. -/
theorem rlist_walk (g : Nat) (p : List UInt8) (er : Int) (w : World) (h : RdAt w g p er) (hp : p.length ≤ 1000000) :
    Calls Tryz.prog 43 #[.pointer (some ⟨g, 0, none⟩)] w fun e w' => ∃ A n c, e = .returned (.slice A n c) ∧ OwnI w' w.heap.size (.slice A n c) n (liR p er).1 ∧ RdAt w' g (liR p er).2.1 (liR p er).2.2 ∧ Only w w' g ∧ n ≤ 1000000 := by
  have hC := nC_any g p er p.length w h (by omega)
  have hl := left_any g p er w h
  have hle := nC_le p.length p er
  have hgw := h.lt
  unfold liR
  obtain ⟨c, q, e1⟩ : ∃ x, x = nC p.length p er := ⟨_, rfl⟩
  generalize nC p.length p er = x at hC hle ⊢
  obtain ⟨c, q, e1⟩ := x
  simp only [] at hC hle ⊢
  have hcb : c ≤ 1000000 := by omega
  have hci : (c : Int) ≤ 1000000 := by omega
  obtain ⟨L, pf, ef⟩ : ∃ x, x = goL c q e1 := ⟨_, rfl⟩
  have hgl := goL_len c q e1
  obtain ⟨fin, hfin⟩ : ∃ x, Hid (x = goL c q e1) := ⟨_, Lib.hid rfl⟩
  rw [← hfin.out] at hgl ⊢
  go_enter Tryz.func43, Tryz.ntmps43
  go_wp2_with fail
  refine hl.mono ?_
  rintro e u0 ⟨rfl, rfl⟩
  go_wp2_with fail
  refine hC.mono ?_
  rintro e u1 ⟨rfl, h1, o1⟩
  clear hC hl h hle
  go_wp2_with fail
  go_loopw [3, 4] (fun v3 v4 wr => ∃ (k m cc : Nat) (Ak : Option Addr) (L1 : List Int) (p1 : List UInt8) (e2 : Int), v4 = .int .i64 k ∧ v3 = .slice Ak m cc ∧ m + k ≤ c ∧ OwnI wr w.heap.size (.slice Ak m cc) m L1 ∧ RdAt wr g p1 e2 ∧ Only w wr g ∧ Hid (fin = (L1 ++ (goL k p1 e2).1, (goL k p1 e2).2))) (fun _ v4 _ => (intOf v4).toNat)
  case atStart => exact ⟨c, 0, 0, none, [], q, e1, rfl, rfl, by omega, OwnI.nil _ _, h1, o1, Lib.hid (by rw [hfin.out]; rfl)⟩
  case round =>
    obtain ⟨k, m, cc, Ak, L1, p1, e2, rfl, rfl, hmk, hI, hR, hO, hF⟩ := hrel
    rename_i wr
    obtain ⟨W0, rfl⟩ : ∃ W0, W0 = wr := ⟨_, rfl⟩
    have herr := err_any g p1 e2 W0 hR
    cases k with
    | zero =>
      go_wp2_with fail
      go_ret
      rw [hF.out]
      exact ⟨Ak, m, cc, rfl, by simpa [goL] using hI, hR, hO, by omega⟩
    | succ k =>
      have hk0 : (0 : Int) < ((k + 1 : Nat) : Int) := by omega
      have hkb : ((k + 1 : Nat) : Int) ≤ 1000000 := by omega
      by_cases c2 : e2 = 0
      · subst c2
        have hF2 : Hid (fin = (L1 ++ ((nU 2147483647 p1 0).1 : Int) :: (goL k (nU 2147483647 p1 0).2.1 (nU 2147483647 p1 0).2.2).1, (goL k (nU 2147483647 p1 0).2.1 (nU 2147483647 p1 0).2.2).2)) := Lib.hid (by rw [hF.out, goL, if_pos rfl])
        have hN := nU_any g p1 0 2147483647 W0 hR (by omega)
        have hle := rdU_le 2147483647 p1
        have hle2 : (nU 2147483647 p1 0).1 ≤ 2147483647 := by unfold nU; rw [if_pos rfl]; exact hle
        generalize nU 2147483647 p1 0 = x at hN hF2 hle2
        obtain ⟨V, p2, e3⟩ := x
        simp only [] at hN hF2 hle2
        have hVi : (V : Int) ≤ 2147483647 := by omega
        clear hle hF
        go_wp2_with fail
        refine herr.mono ?_
        rintro e u2 ⟨rfl, rfl⟩
        go_wp2_with fail
        refine hN.mono ?_
        rintro e u3 ⟨rfl, h3, o3⟩
        have hI3 : OwnI u3 w.heap.size (.slice Ak m cc) m L1 := row_only hI o3 hgw
        have hO3 := hO.trans o3
        go_wp2_with (at_builtin; refine wpL_appI1 _ rfl (.tmp 18) (.tmp 21) rfl u3 w.heap.size _ m _ rfl hI3 ((V : Nat) : Int) rfl _ rfl rfl (by omega) hO3.size (m + 1) rfl ?_; intro A9 c9 w9 o9 g9 b9)
        go_roundw
        case rel => exact ⟨k, m + 1, c9, A9, L1 ++ [(V : Int)], p2, e3, rfl, rfl, by omega, o9, h3.belowB b9 hgw, hO3.belowB b9, Lib.hid (by rw [hF2.out]; simp)⟩
        case measure => simp [intOf]
      · have c2' : (e2 == 0) = false := beq_false_of_ne c2
        go_wp2_with fail
        refine herr.mono ?_
        rintro e u2 ⟨rfl, rfl⟩
        go_wp2_with fail
        go_ret
        rw [hF.out, goL, if_neg c2]
        exact ⟨Ak, m, cc, rfl, by simpa using hI, hR, hO, by omega⟩
end Go.Proofs.YtcnofhlgiffkjaaGreatDoor
