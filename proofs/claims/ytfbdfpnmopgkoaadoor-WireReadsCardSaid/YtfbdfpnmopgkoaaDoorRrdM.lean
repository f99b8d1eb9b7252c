/- The methods of the reference's reader that read, no error yet. -/
import Derived.Test.YtfbdfpnmopgkoaaDoorRrdB
import Derived.Test.YtfbdfpnmopgkoaaDoorWireI
namespace Go.Proofs.YtfbdfpnmopgkoaaDoor
open Go.RowKit
set_option linter.unusedVariables false
set_option linter.unusedSimpArgs false

/-- What is left behind k bytes. -/
theorem RrIs.dropE {w : World} {B g n c k : Nat} {A : Option Addr} {p : List UInt8} {e : Int} (h : RrIs w B g A n c p e) (hk : k ≤ n) (hc : c = k) : RrAt (w.setCell ⟨g, 0, none⟩ (.slice A (n - k) 0)) B g (p.drop k) e := by
  have h1 := h.len
  have h2 := h.room
  have hd : p.drop k = [] := List.drop_eq_nil_of_le (by omega)
  rw [hd, show n - k = 0 by omega]
  exact ⟨A, 0, 0, h.setLeft (Sees.nil _ _ _) rfl (Nat.le_refl _) (by omega) (by omega)⟩
theorem RrIs.dropN {w : World} {B g n c k : Nat} {A : Option Addr} {p : List UInt8} {e : Int} (h : RrIs w B g A n c p e) (hk : k ≤ n) (hc : c ≠ k) : RrAt (w.setCell ⟨g, 0, none⟩ (.slice (A.map (·.add k)) (n - k) (c - k))) B g (p.drop k) e := by
  have h1 := h.len
  have h2 := h.room
  have h3 := h.max
  have h4 := h.big
  have hs := h.sees.drop_ (k := k) (c := c) (by rw [List.length_map]; omega) (by rw [List.length_map]; omega)
  rw [if_neg hc, ← List.map_drop] at hs
  exact ⟨_, n - k, c - k, h.setLeft hs (by rw [List.length_drop]; omega) (by omega) (by omega) (by omega)⟩
def rdN (most : Int) (p : List UInt8) : Int × List UInt8 × Int := if most < 0 then (0, p, 1) else (((rdU most.toNat p).1 : Nat), (rdU most.toNat p).2)
def rdC (most : Int) (p : List UInt8) : Nat × List UInt8 × Int := if most < 0 then (0, p, 1) else if (num p).2 = 0 then (0, p, 6) else if most < ((num p).1 : Nat) then (0, p, 3) else ((num p).1, p.drop (num p).2, 0)
def rdZ (k : Int) (p : List UInt8) : List UInt8 × List UInt8 × Int := if k < 0 then ([], p, 1) else rdR k.toNat p

theorem rdU_le (most : Nat) (p : List UInt8) : (rdU most p).1 ≤ most := by
  unfold rdU
  split
  · exact Nat.zero_le _
  · split
    · exact Nat.zero_le _
    · show (num p).1 ≤ most
      omega
/-- number, there is none. -/
theorem rrNum_no (B g : Nat) (p : List UInt8) (er : Int) (w : World) (h : RrAt w B g p er) (hz : (num p).2 = 0) :
    Calls Tryd.prog 62 #[.pointer (some ⟨g, 0, none⟩)] w fun e w' => e = .returned (.tuple #[.int .u64 0, .int .i64 0, .bool false]) ∧ RrAt w' B g p 6 ∧ Only w w' g := by
  obtain ⟨A, n, c, hI⟩ := h
  obtain ⟨d0, d1, f0, f1⟩ := hI.cells
  have hg := get_any A n c p w (hI.sees.more hI.sz) hI.len hI.big
  rw [hz] at hg
  go_enter Tryd.func62, Tryd.ntmps62
  go_wp2_with fail
  refine hg.mono ?_
  rintro e w1 ⟨rfl, rfl⟩
  go_wp2_with fail
  refine bodyPost_ret (results_tmp3 rfl _ _ _) rfl ?_
  exact ⟨rfl, ⟨A, n, c, hI.setErr 6⟩, only_set _⟩
/-- number. -/
theorem rrNum_yes (B g : Nat) (p : List UInt8) (er : Int) (w : World) (h : RrAt w B g p er) (hz : (num p).2 ≠ 0) :
    Calls Tryd.prog 62 #[.pointer (some ⟨g, 0, none⟩)] w fun e w' => e = .returned (.tuple #[.int .u64 ((num p).1 : Nat), .int .i64 ((num p).2 : Nat), .bool true]) ∧ w = w' := by
  obtain ⟨A, n, c, hI⟩ := h
  obtain ⟨d0, d1, f0, f1⟩ := hI.cells
  have hg := get_any A n c p w (hI.sees.more hI.sz) hI.len hI.big
  have hb : (((num p).2 : Int) == 0) = false := beq_false_of_ne (by omega)
  generalize (num p).2 = N at hg hb ⊢
  generalize (num p).1 = V at hg ⊢
  clear hz
  go_enter Tryd.func62, Tryd.ntmps62
  go_wp2_with fail
  refine hg.mono ?_
  rintro e w1 ⟨rfl, rfl⟩
  go_wp2_with fail
  refine bodyPost_ret (results_tmp3 rfl _ _ _) rfl ?_
  exact ⟨rfl, rfl⟩

set_option maxHeartbeats 4000000 in
set_option maxRecDepth 100000 in
/-- Uint. -/
theorem rrUint_any (B g : Nat) (p : List UInt8) (most : Nat) (w : World) (h : RrAt w B g p 0) :
    Calls Tryd.prog 28 #[.pointer (some ⟨g, 0, none⟩), .int .u64 (most : Int)] w fun e w' => e = .returned (.int .u64 ((rdU most p).1 : Nat)) ∧ RrAt w' B g (rdU most p).2.1 (rdU most p).2.2 ∧ Only w w' g := by
  obtain ⟨l1, l2⟩ := num_le p
  by_cases c2 : (num p).2 = 0
  · have e : rdU most p = (0, p, 6) := by unfold rdU; rw [if_pos c2]
    rw [e]
    clear e
    have hnum := rrNum_no B g p 0 w h c2
    obtain ⟨A, n, c, hI⟩ := h
    obtain ⟨d0, d1, f0, f1⟩ := hI.cells
    go_enter Tryd.func28, Tryd.ntmps28
    go_wp2_with fail
    refine hnum.mono ?_
    rintro e w1 ⟨rfl, h1, o1⟩
    go_wp2_with fail
    go_ret
    exact ⟨rfl, h1, o1⟩
  · have hnum := rrNum_yes B g p 0 w h c2
    obtain ⟨A, n, c, hI⟩ := h
    obtain ⟨d0, d1, f0, f1⟩ := hI.cells
    obtain ⟨N, hN⟩ : ∃ N, N = (num p).2 := ⟨_, rfl⟩
    obtain ⟨V, hV⟩ : ∃ V, V = (num p).1 := ⟨_, rfl⟩
    have e0 : rdU most p = if most < V then (0, p, 2) else (V, p.drop N, 0) := by
      unfold rdU; rw [if_neg c2, ← hN, ← hV]
    rw [← hN, ← hV] at hnum
    rw [← hN] at l2 c2
    rw [← hV] at l1
    clear hN hV
    have hlen := hI.len
    have hbig := hI.big
    rw [hlen] at l2
    by_cases c3 : most < V
    · rw [if_pos c3] at e0
      rw [e0]
      clear e0
      have c3' : (most : Int) < (V : Int) := by omega
      go_enter Tryd.func28, Tryd.ntmps28
      go_wp2_with fail
      refine hnum.mono ?_
      rintro e w1 ⟨rfl, rfl⟩
      go_wp2_with fail
      go_ret
      exact ⟨rfl, ⟨A, n, c, hI.setErr 2⟩, only_set _⟩
    · rw [if_neg c3] at e0
      rw [e0]
      clear e0
      have c3' : ¬ (most : Int) < (V : Int) := by omega
      have hkn : N ≤ n := by omega
      have hkni : ((N : Nat) : Int) ≤ (n : Int) := by omega
      have hnc := hI.room
      have hnci : (n : Int) ≤ (c : Int) := by omega
      have hkci : ((N : Nat) : Int) ≤ (c : Int) := by omega
      by_cases hc : c = N
      · have fE := hI.dropE hkn hc
        go_enter Tryd.func28, Tryd.ntmps28
        go_wp2_with fail
        refine hnum.mono ?_
        rintro e w1 ⟨rfl, rfl⟩
        go_wp2_with fail
        go_ret
        exact ⟨rfl, fE, only_set _⟩
      · have fN := hI.dropN hkn hc
        go_enter Tryd.func28, Tryd.ntmps28
        go_wp2_with fail
        refine hnum.mono ?_
        rintro e w1 ⟨rfl, rfl⟩
        go_wp2_with fail
        go_ret
        exact ⟨rfl, fN, only_set _⟩
set_option maxHeartbeats 4000000 in
set_option maxRecDepth 100000 in
/-- Number. -/
theorem rrNumber_any (B g : Nat) (p : List UInt8) (most : Int) (w : World) (h : RrAt w B g p 0) (hm : most ≤ 9223372036854775807) :
    Calls Tryd.prog 30 #[.pointer (some ⟨g, 0, none⟩), .int .i64 most] w fun e w' => e = .returned (.int .i64 (rdN most p).1) ∧ RrAt w' B g (rdN most p).2.1 (rdN most p).2.2 ∧ Only w w' g := by
  by_cases c1 : most < 0
  · have e : rdN most p = (0, p, 1) := by unfold rdN; rw [if_pos c1]
    rw [e]
    clear e
    obtain ⟨A, n, c, hI⟩ := h
    obtain ⟨d0, d1, f0, f1⟩ := hI.cells
    have hu := rrUint_bad 0 B g p 1 _ ⟨A, n, c, hI.setErr 1⟩ (by omega)
    go_enter Tryd.func30, Tryd.ntmps30
    have hmx : max most 0 = 0 := by omega
    go_wp2_with fail
    refine hu.mono ?_
    rintro e w1 ⟨rfl, rfl⟩
    go_wp2_with fail
    go_ret
    exact ⟨rfl, ⟨A, n, c, hI.setErr 1⟩, only_set _⟩
  · have e : rdN most p = ((((rdU most.toNat p).1 : Nat) : Int), (rdU most.toNat p).2) := by unfold rdN; rw [if_neg c1]
    rw [e]
    clear e
    obtain ⟨M, rfl⟩ := Int.eq_ofNat_of_zero_le (show 0 ≤ most by omega)
    have hu := rrUint_any B g p M w h
    have hle : (rdU M p).1 ≤ M := rdU_le M p
    simp only [Int.toNat_natCast]
    generalize rdU M p = R at hu hle ⊢
    obtain ⟨A, n, c, hI⟩ := h
    obtain ⟨d0, d1, f0, f1⟩ := hI.cells
    go_enter Tryd.func30, Tryd.ntmps30
    have hmx : max (M : Int) 0 = (M : Int) := by omega
    go_wp2_with fail
    refine hu.mono ?_
    rintro e w1 ⟨rfl, h1, o1⟩
    go_wp2_with fail
    go_ret
    exact ⟨rfl, h1, o1⟩

set_option maxHeartbeats 4000000 in
set_option maxRecDepth 100000 in
/-- Int. -/
theorem rrInt_any (B g : Nat) (p : List UInt8) (low high : Int) (w : World) (h : RrAt w B g p 0) :
    Calls Tryd.prog 32 #[.pointer (some ⟨g, 0, none⟩), .int .i64 low, .int .i64 high] w fun e w' => e = .returned (.int .i64 (rdI low high p).1) ∧ RrAt w' B g (rdI low high p).2.1 (rdI low high p).2.2 ∧ Only w w' g := by
  obtain ⟨l1, l2⟩ := num_le p
  by_cases c1 : high < low
  · have e : rdI low high p = (0, p, 1) := by unfold rdI; rw [if_pos c1]
    rw [e]
    clear e
    obtain ⟨A, n, c, hI⟩ := h
    obtain ⟨d0, d1, f0, f1⟩ := hI.cells
    go_enter Tryd.func32, Tryd.ntmps32
    go_wp2_with fail
    go_ret
    exact ⟨rfl, ⟨A, n, c, hI.setErr 1⟩, only_set _⟩
  · have hlh : low ≤ high := by omega
    by_cases c2 : (num p).2 = 0
    · have e : rdI low high p = (0, p, 6) := by unfold rdI; rw [if_neg c1, if_pos c2]
      rw [e]
      clear e
      have hnum := rrNum_no B g p 0 w h c2
      obtain ⟨A, n, c, hI⟩ := h
      obtain ⟨d0, d1, f0, f1⟩ := hI.cells
      go_enter Tryd.func32, Tryd.ntmps32
      go_wp2_with fail
      refine hnum.mono ?_
      rintro e w1 ⟨rfl, h1, o1⟩
      go_wp2_with fail
      go_ret
      exact ⟨rfl, h1, o1⟩
    · have hnum := rrNum_yes B g p 0 w h c2
      obtain ⟨A, n, c, hI⟩ := h
      obtain ⟨d0, d1, f0, f1⟩ := hI.cells
      obtain ⟨N, hN⟩ : ∃ N, N = (num p).2 := ⟨_, rfl⟩
      obtain ⟨V, hV⟩ : ∃ V, V = (num p).1 := ⟨_, rfl⟩
      have e0 : rdI low high p = if zag V < low ∨ high < zag V then (0, p, 2) else (zag V, p.drop N, 0) := by
        unfold rdI; rw [if_neg c1, if_neg c2, ← hN, ← hV]
      rw [← hN, ← hV] at hnum
      rw [← hN] at l2 c2
      rw [← hV] at l1
      clear hN hV
      have hlen := hI.len
      have hbig := hI.big
      rw [hlen] at l2
      have hz := Lib.hid (zag_bounds l1)
      have hV2 : (V : Int) / 2 ≤ 9223372036854775807 := by omega
      have hV3 : 0 ≤ (V : Int) / 2 := by omega
      by_cases hpar : V % 2 = 1
      · have hpb : ((V : Int) % 2 == 1) = true := by rw [show (V : Int) % 2 = 1 by omega]; rfl
        have hzv : zag V = -((V : Int) / 2) - 1 := by unfold zag; rw [if_pos hpar]; omega
        rw [hzv] at e0
        clear hzv hpar hz
        by_cases c3 : -((V : Int) / 2) - 1 < low
        · rw [if_pos (.inl c3)] at e0
          rw [e0]
          clear e0
          go_enter Tryd.func32, Tryd.ntmps32
          go_wp2_with fail
          refine hnum.mono ?_
          rintro e w1 ⟨rfl, rfl⟩
          go_wp2_with fail
          go_ret
          exact ⟨rfl, ⟨A, n, c, hI.setErr 2⟩, only_set _⟩
        · by_cases c4 : high < -((V : Int) / 2) - 1
          · rw [if_pos (.inr c4)] at e0
            rw [e0]
            clear e0
            go_enter Tryd.func32, Tryd.ntmps32
            go_wp2_with fail
            refine hnum.mono ?_
            rintro e w1 ⟨rfl, rfl⟩
            go_wp2_with fail
            go_ret
            exact ⟨rfl, ⟨A, n, c, hI.setErr 2⟩, only_set _⟩
          · rw [if_neg (by rintro (h | h); exact c3 h; exact c4 h)] at e0
            rw [e0]
            clear e0
            have hkn : N ≤ n := by omega
            have hkni : ((N : Nat) : Int) ≤ (n : Int) := by omega
            have hnc := hI.room
            have hnci : (n : Int) ≤ (c : Int) := by omega
            have hkci : ((N : Nat) : Int) ≤ (c : Int) := by omega
            by_cases hc : c = N
            · have fE := hI.dropE hkn hc
              go_enter Tryd.func32, Tryd.ntmps32
              go_wp2_with fail
              refine hnum.mono ?_
              rintro e w1 ⟨rfl, rfl⟩
              go_wp2_with fail
              go_ret
              exact ⟨rfl, fE, only_set _⟩
            · have fN := hI.dropN hkn hc
              go_enter Tryd.func32, Tryd.ntmps32
              go_wp2_with fail
              refine hnum.mono ?_
              rintro e w1 ⟨rfl, rfl⟩
              go_wp2_with fail
              go_ret
              exact ⟨rfl, fN, only_set _⟩
      · have hpb : ((V : Int) % 2 == 1) = false := by rw [show (V : Int) % 2 = 0 by omega]; rfl
        have hzv : zag V = (V : Int) / 2 := by unfold zag; rw [if_neg hpar]; omega
        rw [hzv] at e0
        clear hzv hpar hz
        by_cases c3 : (V : Int) / 2 < low
        · rw [if_pos (.inl c3)] at e0
          rw [e0]
          clear e0
          go_enter Tryd.func32, Tryd.ntmps32
          go_wp2_with fail
          refine hnum.mono ?_
          rintro e w1 ⟨rfl, rfl⟩
          go_wp2_with fail
          go_ret
          exact ⟨rfl, ⟨A, n, c, hI.setErr 2⟩, only_set _⟩
        · by_cases c4 : high < (V : Int) / 2
          · rw [if_pos (.inr c4)] at e0
            rw [e0]
            clear e0
            go_enter Tryd.func32, Tryd.ntmps32
            go_wp2_with fail
            refine hnum.mono ?_
            rintro e w1 ⟨rfl, rfl⟩
            go_wp2_with fail
            go_ret
            exact ⟨rfl, ⟨A, n, c, hI.setErr 2⟩, only_set _⟩
          · rw [if_neg (by rintro (h | h); exact c3 h; exact c4 h)] at e0
            rw [e0]
            clear e0
            have hkn : N ≤ n := by omega
            have hkni : ((N : Nat) : Int) ≤ (n : Int) := by omega
            have hnc := hI.room
            have hnci : (n : Int) ≤ (c : Int) := by omega
            have hkci : ((N : Nat) : Int) ≤ (c : Int) := by omega
            by_cases hc : c = N
            · have fE := hI.dropE hkn hc
              go_enter Tryd.func32, Tryd.ntmps32
              go_wp2_with fail
              refine hnum.mono ?_
              rintro e w1 ⟨rfl, rfl⟩
              go_wp2_with fail
              go_ret
              exact ⟨rfl, fE, only_set _⟩
            · have fN := hI.dropN hkn hc
              go_enter Tryd.func32, Tryd.ntmps32
              go_wp2_with fail
              refine hnum.mono ?_
              rintro e w1 ⟨rfl, rfl⟩
              go_wp2_with fail
              go_ret
              exact ⟨rfl, fN, only_set _⟩
end Go.Proofs.YtfbdfpnmopgkoaaDoor
