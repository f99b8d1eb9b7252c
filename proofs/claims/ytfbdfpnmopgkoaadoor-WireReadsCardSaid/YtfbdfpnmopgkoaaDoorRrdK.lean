/- The methods Count, Raw, Bytes and Flag of the reference's reader, no error yet. -/
import Derived.Test.YtfbdfpnmopgkoaaDoorRrdM
namespace Go.Proofs.YtfbdfpnmopgkoaaDoor
open Go.RowKit
set_option linter.unusedVariables false
set_option linter.unusedSimpArgs false

theorem RrIs.on {w w' : World} {B g n c : Nat} {A : Option Addr} {p : List UInt8} {e : Int} (h : RrIs w B g A n c p e) (hb : Below w.heap.size w w') : RrIs w' B g A n c p e :=
  ⟨h.blk.on hb, h.sees.below (hb.mono h.sz), h.len, h.room, h.max, h.big, h.base⟩
set_option maxHeartbeats 4000000 in
set_option maxRecDepth 100000 in
/-- Count. -/
theorem rrCount_any (B g : Nat) (p : List UInt8) (most : Int) (w : World) (h : RrAt w B g p 0) (hm : most ≤ 9223372036854775807) :
    Calls Tryd.prog 39 #[.pointer (some ⟨g, 0, none⟩), .int .i64 most] w fun e w' => e = .returned (.int .i64 ((rdC most p).1 : Nat)) ∧ RrAt w' B g (rdC most p).2.1 (rdC most p).2.2 ∧ Only w w' g := by
  obtain ⟨l1, l2⟩ := num_le p
  by_cases c1 : most < 0
  · have e : rdC most p = (0, p, 1) := by unfold rdC; rw [if_pos c1]
    rw [e]
    clear e
    obtain ⟨A, n, c, hI⟩ := h
    obtain ⟨d0, d1, f0, f1⟩ := hI.cells
    go_enter Tryd.func39, Tryd.ntmps39
    go_wp2_with fail
    go_ret
    exact ⟨rfl, ⟨A, n, c, hI.setErr 1⟩, only_set _⟩
  · have c1' : 0 ≤ most := by omega
    by_cases c2 : (num p).2 = 0
    · have e : rdC most p = (0, p, 6) := by unfold rdC; rw [if_neg c1, if_pos c2]
      rw [e]
      clear e
      have hnum := rrNum_no B g p 0 w h c2
      obtain ⟨A, n, c, hI⟩ := h
      obtain ⟨d0, d1, f0, f1⟩ := hI.cells
      go_enter Tryd.func39, Tryd.ntmps39
      go_wp2_with fail
      refine hnum.mono ?_
      rintro e w1 ⟨rfl, h1, o1⟩
      go_wp2_with fail
      go_ret
      exact ⟨rfl, h1, o1⟩
    · have hnum := rrNum_yes B g p 0 w h c2
      obtain ⟨A, n, c, hI⟩ := h
      obtain ⟨d0, d1, f0, f1⟩ := hI.cells
      obtain ⟨N, hN⟩ : ∃ N, N = (num p).2 := ⟨_, rfl⟩
      obtain ⟨V, hV⟩ : ∃ V, V = (num p).1 := ⟨_, rfl⟩
      have e0 : rdC most p = if most < (V : Nat) then (0, p, 3) else (V, p.drop N, 0) := by
        unfold rdC; rw [if_neg c1, if_neg c2, ← hN, ← hV]
      rw [← hN, ← hV] at hnum
      rw [← hN] at l2 c2
      rw [← hV] at l1
      clear hN hV
      have hlen := hI.len
      have hbig := hI.big
      rw [hlen] at l2
      by_cases c3 : most < (V : Int)
      · rw [if_pos c3] at e0
        rw [e0]
        clear e0
        go_enter Tryd.func39, Tryd.ntmps39
        go_wp2_with fail
        refine hnum.mono ?_
        rintro e w1 ⟨rfl, rfl⟩
        go_wp2_with fail
        go_ret
        exact ⟨rfl, ⟨A, n, c, hI.setErr 3⟩, only_set _⟩
      · rw [if_neg c3] at e0
        rw [e0]
        clear e0
        have c3' : (V : Int) ≤ 9223372036854775807 := by omega
        have hkn : N ≤ n := by omega
        have hkni : ((N : Nat) : Int) ≤ (n : Int) := by omega
        have hnc := hI.room
        have hnci : (n : Int) ≤ (c : Int) := by omega
        have hkci : ((N : Nat) : Int) ≤ (c : Int) := by omega
        by_cases hc : c = N
        · have fE := fun W (hW : RrIs W B g A n c p 0) => hW.dropE hkn hc
          go_enter Tryd.func39, Tryd.ntmps39
          go_wp2_with fail
          refine hnum.mono ?_
          rintro e w1 ⟨rfl, rfl⟩
          go_wp2_with fail
          go_ret
          exact ⟨rfl, fE _ hI, only_set _⟩
        · have fE := fun W (hW : RrIs W B g A n c p 0) => hW.dropN hkn hc
          go_enter Tryd.func39, Tryd.ntmps39
          go_wp2_with fail
          refine hnum.mono ?_
          rintro e w1 ⟨rfl, rfl⟩
          go_wp2_with fail
          go_ret
          exact ⟨rfl, fE _ hI, only_set _⟩
set_option maxHeartbeats 4000000 in
set_option maxRecDepth 100000 in
/-- Raw. -/
theorem rrRaw_any (B g : Nat) (p : List UInt8) (most : Int) (w : World) (h : RrAt w B g p 0) (hm : most ≤ 9223372036854775807) :
    Calls Tryd.prog 37 #[.pointer (some ⟨g, 0, none⟩), .int .i64 most] w fun e w' => ∃ A n c, e = .returned (.slice A n c) ∧ OwnB w' w.heap.size (.slice A n c) n (rdZ most p).1 ∧ RrAt w' B g (rdZ most p).2.1 (rdZ most p).2.2 ∧ Only w w' g := by
  obtain ⟨l1, l2⟩ := num_le p
  by_cases c1 : most < 0
  · have e : rdZ most p = ([], p, 1) := by unfold rdZ; rw [if_pos c1]
    rw [e]
    clear e
    obtain ⟨A, n, c, hI⟩ := h
    obtain ⟨d0, d1, f0, f1⟩ := hI.cells
    go_enter Tryd.func37, Tryd.ntmps37
    go_wp2_with fail
    go_ret
    exact ⟨none, 0, 0, rfl, OwnB.nil _ _, ⟨A, n, c, hI.setErr 1⟩, only_set _⟩
  · obtain ⟨K, rfl⟩ := Int.eq_ofNat_of_zero_le (show 0 ≤ most by omega)
    have e0 : rdZ (K : Int) p = if p.length < K then ([], p, 6) else (p.take K, p.drop K, 0) := by
      unfold rdZ rdR
      rw [if_neg c1, Int.toNat_natCast]
    obtain ⟨A, n, c, hI⟩ := h
    obtain ⟨d0, d1, f0, f1⟩ := hI.cells
    have hlen := hI.len
    have hbig := hI.big
    rw [hlen] at e0
    by_cases c2 : n < K
    · rw [if_pos c2] at e0
      rw [e0]
      clear e0
      have c2' : (n : Int) < (K : Int) := by omega
      go_enter Tryd.func37, Tryd.ntmps37
      go_wp2_with fail
      go_ret
      exact ⟨none, 0, 0, rfl, OwnB.nil _ _, ⟨A, n, c, hI.setErr 6⟩, only_set _⟩
    · rw [if_neg c2] at e0
      rw [e0]
      clear e0
      have c2' : ¬ (n : Int) < (K : Int) := by omega
      have hlK : (p.take K).length = K := by rw [List.length_take]; omega
      have hsK : Sees w B A ((p.take K).map bv) := by rw [List.map_take]; exact hI.sees.take_ K
      have HlK := Lib.hid hlK
      have da : ∀ o, (w.alloc o).cell? ⟨g, 0, none⟩ = some (.slice A n c) := fun o => (World.cell?_alloc_lt w o _ hI.blk.lt).trans d0
      clear hlK hlen
      have hkn : K ≤ n := by omega
      have hkni : ((K : Nat) : Int) ≤ (n : Int) := by omega
      have hnc := hI.room
      have hnci : (n : Int) ≤ (c : Int) := by omega
      have hkci : ((K : Nat) : Int) ≤ (c : Int) := by omega
      by_cases hc : c = K
      · have fE := fun W (hW : RrIs W B g A n c p 0) => hW.dropE hkn hc
        go_enter Tryd.func37, Tryd.ntmps37
        go_wp2_with (at_builtin; refine wpL_appB _ rfl (.tmp 26) (.tmp 32) rfl w.heap.size _ 0 [] rfl (OwnB.made0 _) B A K _ (p.take K) rfl HlK.out (Sees.alloc hsK hI.sz _) (by omega) (by simp) K (by omega) (p.take K) rfl ?_; intro A' c' w1 hown hg _; have bw1 := below_app ((Below.refl _ _).alloc (Nat.le_refl _) _) (by simp) (OwnB.made0 w) hg; have hI1 := hI.on bw1; obtain ⟨q0, q1, q2, q3⟩ := hI1.cells)
        go_ret
        exact ⟨A', K, c', rfl, hown.kept (grownBy_setCell w1 g 0 _) (.inr fun e => by have := (hown.lt g e).1; have := hI.blk.lt; omega), fE _ hI1, (Mvd.ofBelow bw1 g none).setCell _⟩
      · have fE := fun W (hW : RrIs W B g A n c p 0) => hW.dropN hkn hc
        go_enter Tryd.func37, Tryd.ntmps37
        go_wp2_with (at_builtin; refine wpL_appB _ rfl (.tmp 26) (.tmp 32) rfl w.heap.size _ 0 [] rfl (OwnB.made0 _) B A K _ (p.take K) rfl HlK.out (Sees.alloc hsK hI.sz _) (by omega) (by simp) K (by omega) (p.take K) rfl ?_; intro A' c' w1 hown hg _; have bw1 := below_app ((Below.refl _ _).alloc (Nat.le_refl _) _) (by simp) (OwnB.made0 w) hg; have hI1 := hI.on bw1; obtain ⟨q0, q1, q2, q3⟩ := hI1.cells)
        go_ret
        exact ⟨A', K, c', rfl, hown.kept (grownBy_setCell w1 g 0 _) (.inr fun e => by have := (hown.lt g e).1; have := hI.blk.lt; omega), fE _ hI1, (Mvd.ofBelow bw1 g none).setCell _⟩
set_option maxHeartbeats 4000000 in
set_option maxRecDepth 100000 in
/-- Bytes. -/
theorem rrBytes_any (B g : Nat) (p : List UInt8) (most : Int) (w : World) (h : RrAt w B g p 0) (hm : most ≤ 9223372036854775807) :
    Calls Tryd.prog 34 #[.pointer (some ⟨g, 0, none⟩), .int .i64 most] w fun e w' => ∃ A n c, e = .returned (.slice A n c) ∧ OwnB w' w.heap.size (.slice A n c) n (rdB most p).1 ∧ RrAt w' B g (rdB most p).2.1 (rdB most p).2.2 ∧ Only w w' g := by
  obtain ⟨l1, l2⟩ := num_le p
  by_cases c1 : most < 0
  · have e : rdB most p = ([], p, 1) := by unfold rdB; rw [if_pos c1]
    rw [e]
    clear e
    obtain ⟨A, n, c, hI⟩ := h
    obtain ⟨d0, d1, f0, f1⟩ := hI.cells
    go_enter Tryd.func34, Tryd.ntmps34
    go_wp2_with fail
    go_ret
    exact ⟨none, 0, 0, rfl, OwnB.nil _ _, ⟨A, n, c, hI.setErr 1⟩, only_set _⟩
  · have c1' : 0 ≤ most := by omega
    by_cases c2 : (num p).2 = 0
    · have e : rdB most p = ([], p, 6) := by unfold rdB; rw [if_neg c1, if_pos c2]
      rw [e]
      clear e
      have hnum := rrNum_no B g p 0 w h c2
      obtain ⟨A, n, c, hI⟩ := h
      obtain ⟨d0, d1, f0, f1⟩ := hI.cells
      go_enter Tryd.func34, Tryd.ntmps34
      go_wp2_with fail
      refine hnum.mono ?_
      rintro e w1 ⟨rfl, h1, o1⟩
      go_wp2_with fail
      go_ret
      exact ⟨none, 0, 0, rfl, OwnB.nil _ _, h1, o1⟩
    · have hnum := rrNum_yes B g p 0 w h c2
      obtain ⟨A, n, c, hI⟩ := h
      obtain ⟨d0, d1, f0, f1⟩ := hI.cells
      obtain ⟨N, hN⟩ : ∃ N, N = (num p).2 := ⟨_, rfl⟩
      obtain ⟨V, hV⟩ : ∃ V, V = (num p).1 := ⟨_, rfl⟩
      have e0 : rdB most p = if most < (V : Nat) then ([], p, 3) else if p.length - N < V then ([], p, 6) else ((p.drop N).take V, (p.drop N).drop V, 0) := by
        unfold rdB; rw [if_neg c1, if_neg c2, ← hN, ← hV]
      rw [← hN, ← hV] at hnum
      rw [← hN] at l2 c2
      rw [← hV] at l1
      clear hN hV
      have hlen := hI.len
      have hbig := hI.big
      rw [hlen] at l2
      rw [hlen, List.drop_drop] at e0
      by_cases c3 : most < (V : Int)
      · rw [if_pos c3] at e0
        rw [e0]
        clear e0
        go_enter Tryd.func34, Tryd.ntmps34
        go_wp2_with fail
        refine hnum.mono ?_
        rintro e w1 ⟨rfl, rfl⟩
        go_wp2_with fail
        go_ret
        exact ⟨none, 0, 0, rfl, OwnB.nil _ _, ⟨A, n, c, hI.setErr 3⟩, only_set _⟩
      · rw [if_neg c3] at e0
        have c3' : (V : Int) ≤ 9223372036854775807 := by omega
        have hnN : 0 ≤ (n : Int) - (N : Int) := by omega
        have hnN2 : (n : Int) - (N : Int) ≤ 1000000000000 := by omega
        by_cases c4 : n - N < V
        · rw [if_pos c4] at e0
          rw [e0]
          clear e0
          have c4' : (n : Int) - (N : Int) < (V : Int) := by omega
          go_enter Tryd.func34, Tryd.ntmps34
          go_wp2_with fail
          refine hnum.mono ?_
          rintro e w1 ⟨rfl, rfl⟩
          go_wp2_with fail
          go_ret
          exact ⟨none, 0, 0, rfl, OwnB.nil _ _, ⟨A, n, c, hI.setErr 6⟩, only_set _⟩
        · rw [if_neg c4] at e0
          rw [e0]
          clear e0
          have c4' : ¬ (n : Int) - (N : Int) < (V : Int) := by omega
          have hNV : N + V ≤ n := by omega
          have hNVi : (N : Int) + (V : Int) ≤ (n : Int) := by omega
          have hNi : (N : Int) ≤ (N : Int) + (V : Int) := by omega
          have hnc := hI.room
          have hnci : (n : Int) ≤ (c : Int) := by omega
          have hNVc : (N : Int) + (V : Int) ≤ (c : Int) := by omega
          have hNc : (N : Int) ≤ (c : Int) := by omega
          have hlK : ((p.drop N).take V).length = V := by rw [List.length_take, List.length_drop]; omega
          have HlK := Lib.hid hlK
          have da : ∀ o, (w.alloc o).cell? ⟨g, 0, none⟩ = some (.slice A n c) := fun o => (World.cell?_alloc_lt w o _ hI.blk.lt).trans d0
          have hss := hI.sees.drop_ (k := N) (c := c) (by rw [List.length_map]; omega) (by rw [List.length_map]; omega)
          clear hlK hlen
          by_cases hcN : c = N
          · rw [if_pos hcN] at hss
            have hsK : Sees w B A (((p.drop N).take V).map bv) := by rw [List.map_take, List.map_drop]; exact hss.take_ V
            have hc : c = N + V := by omega
            have fE := fun W (hW : RrIs W B g A n c p 0) => hW.dropE hNV hc
            go_enter Tryd.func34, Tryd.ntmps34
            go_wp2_with fail
            refine hnum.mono ?_
            rintro e w1 ⟨rfl, rfl⟩
            go_wp2_with (at_builtin; refine wpL_appB _ rfl (.tmp 47) (.tmp 57) rfl w.heap.size _ 0 [] rfl (OwnB.made0 _) B A (N + V - N) _ ((p.drop N).take V) rfl (by rw [HlK.out]; omega) (Sees.alloc hsK hI.sz _) (by omega) (by simp) V (by omega) ((p.drop N).take V) rfl ?_; intro A' c' w1 hown hg _; have bw1 := below_app ((Below.refl _ _).alloc (Nat.le_refl _) _) (by simp) (OwnB.made0 w) hg; have hI1 := hI.on bw1; obtain ⟨q0, q1, q2, q3⟩ := hI1.cells)
            go_ret
            exact ⟨A', V, c', rfl, hown.kept (grownBy_setCell w1 g 0 _) (.inr fun e => by have := (hown.lt g e).1; have := hI.blk.lt; omega), fE _ hI1, (Mvd.ofBelow bw1 g none).setCell _⟩
          · rw [if_neg hcN] at hss
            have hsK : Sees w B (A.map (·.add N)) (((p.drop N).take V).map bv) := by rw [List.map_take, List.map_drop]; exact hss.take_ V
            by_cases hc : c = N + V
            · have fE := fun W (hW : RrIs W B g A n c p 0) => hW.dropE hNV hc
              go_enter Tryd.func34, Tryd.ntmps34
              go_wp2_with fail
              refine hnum.mono ?_
              rintro e w1 ⟨rfl, rfl⟩
              go_wp2_with (at_builtin; refine wpL_appB _ rfl (.tmp 47) (.tmp 57) rfl w.heap.size _ 0 [] rfl (OwnB.made0 _) B (A.map (·.add N)) (N + V - N) _ ((p.drop N).take V) rfl (by rw [HlK.out]; omega) (Sees.alloc hsK hI.sz _) (by omega) (by simp) V (by omega) ((p.drop N).take V) rfl ?_; intro A' c' w1 hown hg _; have bw1 := below_app ((Below.refl _ _).alloc (Nat.le_refl _) _) (by simp) (OwnB.made0 w) hg; have hI1 := hI.on bw1; obtain ⟨q0, q1, q2, q3⟩ := hI1.cells)
              go_ret
              exact ⟨A', V, c', rfl, hown.kept (grownBy_setCell w1 g 0 _) (.inr fun e => by have := (hown.lt g e).1; have := hI.blk.lt; omega), fE _ hI1, (Mvd.ofBelow bw1 g none).setCell _⟩
            · have fE := fun W (hW : RrIs W B g A n c p 0) => hW.dropN hNV hc
              go_enter Tryd.func34, Tryd.ntmps34
              go_wp2_with fail
              refine hnum.mono ?_
              rintro e w1 ⟨rfl, rfl⟩
              go_wp2_with (at_builtin; refine wpL_appB _ rfl (.tmp 47) (.tmp 57) rfl w.heap.size _ 0 [] rfl (OwnB.made0 _) B (A.map (·.add N)) (N + V - N) _ ((p.drop N).take V) rfl (by rw [HlK.out]; omega) (Sees.alloc hsK hI.sz _) (by omega) (by simp) V (by omega) ((p.drop N).take V) rfl ?_; intro A' c' w1 hown hg _; have bw1 := below_app ((Below.refl _ _).alloc (Nat.le_refl _) _) (by simp) (OwnB.made0 w) hg; have hI1 := hI.on bw1; obtain ⟨q0, q1, q2, q3⟩ := hI1.cells)
              go_ret
              exact ⟨A', V, c', rfl, hown.kept (grownBy_setCell w1 g 0 _) (.inr fun e => by have := (hown.lt g e).1; have := hI.blk.lt; omega), fE _ hI1, (Mvd.ofBelow bw1 g none).setCell _⟩
set_option maxHeartbeats 4000000 in
set_option maxRecDepth 100000 in
/-- Flag. -/
theorem rrFlag_any (B g : Nat) (p : List UInt8) (w : World) (h : RrAt w B g p 0) :
    Calls Tryd.prog 35 #[.pointer (some ⟨g, 0, none⟩)] w fun e w' => e = .returned (.bool (rdF p).1) ∧ RrAt w' B g (rdF p).2.1 (rdF p).2.2 ∧ Only w w' g := by
  obtain ⟨A, n, c, hI⟩ := h
  obtain ⟨d0, d1, f0, f1⟩ := hI.cells
  have hl := hI.len
  cases p with
  | nil =>
    obtain rfl : n = 0 := hl.symm
    unfold rdF
    clear hl
    go_enter Tryd.func35, Tryd.ntmps35
    go_wp2_with fail
    go_ret
    exact ⟨rfl, ⟨A, 0, c, hI.setErr 6⟩, only_set _⟩
  | cons x l =>
    have hn0 : ((n : Int) == 0) = false := beq_false_of_ne (by simp at hl; omega)
    have hn1 : 0 < (n : Int) := by simp at hl; omega
    have hn2 : 0 < n := by omega
    obtain ⟨b, o, y, rfl, hb1, hy, hyb, hc1⟩ := Sees.byte (k := 0) hI.sees (by simp)
    obtain rfl : x = y := by have := hy.out; simpa using this
    rw [Nat.add_zero] at hc1
    clear hl
    by_cases h1 : 1 < x.toNat
    · have e : rdF (x :: l) = (false, x :: l, 6) := by unfold rdF; simp only []; rw [if_pos h1]
      rw [e]
      have h1i : (1 : Int) < ((x.toNat : Nat) : Int) := by omega
      clear e
      go_enter Tryd.func35, Tryd.ntmps35
      go_wp2_with fail
      go_ret
      exact ⟨rfl, ⟨_, n, c, hI.setErr 6⟩, only_set _⟩
    · have e : rdF (x :: l) = (decide (x.toNat = 1), l, 0) := by unfold rdF; simp only []; rw [if_neg h1]
      rw [e, ← beq_one]
      have h1i : ¬ (1 : Int) < ((x.toNat : Nat) : Int) := by omega
      clear e
      have hnc := hI.room
      have hnci : (n : Int) ≤ (c : Int) := by omega
      have hkci : (1 : Int) ≤ (c : Int) := by omega
      by_cases hc : c = 1
      · have fE := hI.dropE (k := 1) (by omega) hc
        rw [List.drop_one, List.tail_cons] at fE
        subst hc
        obtain rfl : n = 1 := by omega
        go_enter Tryd.func35, Tryd.ntmps35
        go_wp2_with fail
        go_ret
        exact ⟨rfl, fE, only_set _⟩
      · have fE := hI.dropN (k := 1) (by omega) hc
        rw [List.drop_one, List.tail_cons] at fE
        go_enter Tryd.func35, Tryd.ntmps35
        go_wp2_with fail
        go_ret
        exact ⟨rfl, fE, only_set _⟩
end Go.Proofs.YtfbdfpnmopgkoaaDoor
