/- The walk of wire.Reader's Set. -/
import Derived.Test.YtfbdfpnmopgkoaaDoorWireE
namespace Go.Proofs.YtfbdfpnmopgkoaaDoor
open Go.RowKit
set_option linter.unusedVariables false
set_option linter.unusedSimpArgs false

theorem Blk.only {w w' : World} {k g : Nat} {t : TypeId} {cs : Array Value} (h : Blk w k t cs) (ho : Only w w' g) (hk : k ≠ g) : Blk w' k t cs :=
  (ho.block k h.lt hk (by simp)).trans h

/-- What holds numbers does not lie in a cell that holds a slice. -/
theorem Sees.off {w : World} {B k i : Nat} {A : Option Addr} {xs : List Value} {t : TypeId} {X : Option Addr} {y z : Nat} (h : Sees w B A xs) (hx : ∀ v ∈ xs, ∃ q r, v = .int q r) (hk : Blk w k t #[.slice X y z]) (u : Value) : Sees (w.setCell ⟨k, i, none⟩ u) B A xs := fun hn => by
  obtain ⟨b, o, e, hb, hc⟩ := h hn
  refine ⟨b, o, e, hb, fun j v hj => ?_⟩
  have hcj := hc j v hj
  have hne : b ≠ k := by
    rintro rfl
    obtain ⟨q, r, rfl⟩ := hx v (List.mem_of_getElem? hj)
    rw [hk.cell] at hcj
    rcases Nat.eq_zero_or_pos (o + j) with h0 | h0
    · rw [h0] at hcj; simp at hcj
    · rw [Array.getElem?_eq_none (by show 1 ≤ o + j; omega)] at hcj
      cases hcj
  rw [← hcj]
  exact World.cell?_of_block (a := ⟨b, o + j, none⟩) (Below.heap_setCell w ⟨k, i, none⟩ u b hne)
theorem setCell_only {w w' : World} {g i : Nat} (h : Only w w' g) (u : Value) : Only w (w'.setCell ⟨w.heap.size, i, none⟩ u) g :=
  ⟨h.os, h.tape, h.output, by have := h.size; simpa using this, fun k hk hg hr => (Below.heap_setCell w' ⟨w.heap.size, i, none⟩ u k (by simp; omega)).trans (h.block k hk hg hr)⟩
theorem ints_bv (l : List UInt8) : ∀ v ∈ l.map bv, ∃ q r, v = .int q r := by
  intro v hv
  obtain ⟨x, _, rfl⟩ := List.mem_map.1 hv
  exact ⟨_, _, rfl⟩
theorem ints_wv (l : List Nat) : ∀ v ∈ l.map wv, ∃ q r, v = .int q r := by
  intro v hv
  obtain ⟨x, _, rfl⟩ := List.mem_map.1 hv
  exact ⟨_, _, rfl⟩
theorem RdAt.off {w : World} {g k i : Nat} {p : List UInt8} {e : Int} {t : TypeId} {X : Option Addr} {y z : Nat} (h : RdAt w g p e) (hk : Blk w k t #[.slice X y z]) (hg : k ≠ g) (u : Value) : RdAt (w.setCell ⟨k, i, none⟩ u) g p e := by
  obtain ⟨A, n, c, h⟩ := h
  refine ⟨A, n, c, h.blk.far (p := ⟨k, i, none⟩) (fun e => hg e.symm) u, ?_, h.len, h.room, h.big, h.low⟩
  have := h.sees.off (ints_bv p) hk u (i := i)
  simpa using this
theorem SetAt.off {w : World} {k i M : Nat} {v : Value} {t : TypeId} {X : Option Addr} {y z : Nat} (h : SetAt w w.heap.size v M) (hk : Blk w k t #[.slice X y z]) (u : Value) (ht : 38 ≠ t := by decide) : SetAt (w.setCell ⟨k, i, none⟩ u) (w.setCell ⟨k, i, none⟩ u).heap.size v M := by
  obtain ⟨A, n, c, e, h1, h2, h3, s, r⟩ := h
  refine ⟨A, n, c, e, h1, h2, h3, ?_, fun b o e h0 => ?_⟩
  · have := s.off (ints_wv _) hk u (i := i)
    simpa using this
  · obtain ⟨cs, hc⟩ := r b o e h0
    exact ⟨cs, hc.far (p := ⟨k, i, none⟩) (hc.apart hk ht) u⟩

/-- What Set reads, where there is no error yet: the set, what is left, the error. -/
def rdS (most : Int) (p : List UInt8) : Nat × List UInt8 × Int :=
  if (rdB 512 p).2.2 ≠ 0 then (0, (rdB 512 p).2.1, (rdB 512 p).2.2) else if canon (rdB 512 p).1 = false then (0, p, 6)
  else if bval (rdB 512 p).1 ≠ 0 ∧ most < ((bval (rdB 512 p).1).log2 : Nat) then (0, p, 2) else (bval (rdB 512 p).1, (rdB 512 p).2.1, 0)

theorem rdB_bad {most : Int} {p : List UInt8} (h : (rdB most p).2.2 ≠ 0) : (rdB most p).1 = [] := by
  unfold rdB at h ⊢
  split
  · rfl
  · split
    · rfl
    · split
      · rfl
      · split
        · rfl
        · rename_i h1 h2 h3 h4
          rw [if_neg h1, if_neg h2, if_neg h3, if_neg h4] at h
          exact absurd rfl h

theorem rdB_len (most : Int) (p : List UInt8) : (rdB most p).1.length ≤ p.length := by
  unfold rdB
  split
  · exact Nat.zero_le _
  · split
    · exact Nat.zero_le _
    · split
      · exact Nat.zero_le _
      · split
        · exact Nat.zero_le _
        · rw [List.length_take, List.length_drop]
          omega

/-- Set, behind an error. -/
theorem rSet_bad (g : Nat) (p : List UInt8) (er most : Int) (w : World) (h : RdAt w g p er) (he : er ≠ 0) :
    Calls Tryd.prog 18 #[.pointer (some ⟨g, 0, none⟩), .int .i64 most] w fun e w' => ∃ v', e = .returned v' ∧ SetAt w' w'.heap.size v' 0 ∧ RdAt w' g p er ∧ Only w w' g := by
  have bA : Below w.heap.size w (w.alloc (.cells #[.slice none 0 0] 48)) := (Below.refl _ _).alloc (Nat.le_refl _) _
  have h1 := h.on bA
  have hk := ok_any g p er _ h1
  rw [beq_false_of_ne he] at hk
  go_enter Tryd.func18, Tryd.ntmps18
  go_wp2_with fail
  refine hk.mono ?_
  rintro e w1 ⟨rfl, rfl⟩
  go_wp2_with fail
  refine ret_set rfl w.heap.size (.slice none 0 0) rfl (Blk.new _ _ _) rfl ?_
  exact ⟨_, rfl, SetAt.zero _ _ _ _, h1, Mvd.ofBelow bA g none⟩

set_option maxHeartbeats 4000000 in
set_option maxRecDepth 100000 in
/-- Set. -/
theorem rSet_any (g : Nat) (p : List UInt8) (most : Int) (w : World) (h : RdAt w g p 0) :
    Calls Tryd.prog 18 #[.pointer (some ⟨g, 0, none⟩), .int .i64 most] w fun e w' => ∃ v', e = .returned v' ∧ SetAt w' w'.heap.size v' (rdS most p).1 ∧ RdAt w' g (rdS most p).2.1 (rdS most p).2.2 ∧ Only w w' g := by
  have bA : Below w.heap.size w (w.alloc (.cells #[.slice none 0 0] 48)) := (Below.refl _ _).alloc (Nat.le_refl _) _
  have bR := Blk.new w 48 #[.slice none 0 0]
  obtain ⟨A, n, c, hI⟩ := h
  have h1 := (show RdAt w g p 0 from ⟨A, n, c, hI⟩).on bA
  have hg := hI.blk.lt
  have hk := ok_any g p 0 _ h1
  obtain ⟨d0, d1, f0, f1⟩ := (hI.on bA).cells
  have hB5 := rBytes_any g p 512 _ h1 (by omega) (by omega)
  have hbad := rdB_bad (most := 512) (p := p)
  have hrd : rdS most p = if (rdB 512 p).2.2 ≠ 0 then (0, (rdB 512 p).2.1, (rdB 512 p).2.2) else if canon (rdB 512 p).1 = false then (0, p, 6)
    else if bval (rdB 512 p).1 ≠ 0 ∧ most < ((bval (rdB 512 p).1).log2 : Nat) then (0, p, 2) else (bval (rdB 512 p).1, (rdB 512 p).2.1, 0) := rfl
  have hlen : (rdB 512 p).1.length ≤ p.length := rdB_len _ _
  rw [hrd]
  clear hrd
  obtain ⟨out, hout⟩ : ∃ out, out = (rdB 512 p).1 := ⟨_, rfl⟩
  obtain ⟨p2, hp2⟩ : ∃ p2, p2 = (rdB 512 p).2.1 := ⟨_, rfl⟩
  obtain ⟨e2, he2⟩ : ∃ e2, e2 = (rdB 512 p).2.2 := ⟨_, rfl⟩
  rw [← hout, ← hp2, ← he2] at hB5
  rw [← hout, ← he2] at hbad
  rw [← hout] at hlen
  rw [← hout, ← hp2, ← he2]
  clear hout hp2 he2
  have hread : ∀ A2 n2 c2 w2, Sees w2 w2.heap.size A2 (out.map bv) → out.length = n2 → Calls Tryd.prog 57 #[.slice A2 n2 c2] w2 fun e w' => ∃ v', e = .returned (.tuple #[v', .int .i64 (if canon out then 0 else 6)]) ∧ SetAt w' w'.heap.size v' (if canon out then bval out else 0) ∧ Below w2.heap.size w2 w' :=
    fun A2 n2 c2 w2 h1 h2 => read_any A2 n2 c2 out w2 h1 h2 (by have := hI.len; have := hI.big; omega)
  by_cases he : e2 ≠ 0
  · obtain rfl : out = [] := hbad he
    rw [if_pos he]
    rw [show canon [] = true from rfl] at hread
    simp only [if_true] at hread
    rw [bval_nil] at hread
    have heb := beq_false_of_ne he
    go_enter Tryd.func18, Tryd.ntmps18
    go_wp2_with fail
    refine hk.mono ?_
    rintro e w1 ⟨rfl, rfl⟩
    go_wp2_with fail
    refine hB5.mono ?_
    rintro e w2 ⟨A2, n2, c2, rfl, ho2, hr2, hm2⟩
    have hS2 := ho2.sees
    have hL2 := ho2.len
    have bR2 := bR.only hm2 (by omega)
    go_wp2_with fail
    refine (hread A2 n2 c2 w2 hS2 hL2).mono ?_
    rintro e w3 ⟨v3, rfl, hs3, hb3⟩
    have bR3 := bR2.on hb3
    have hz3 := hb3.size
    have hz2 := hm2.size
    have hlt2 := bR2.lt
    rw [World.size_alloc] at hz2
    obtain ⟨A3, n3, c3, rfl, _⟩ := id hs3
    have bw5 : Below w3.heap.size w3 (w3.alloc (.cells #[.slice A3 n3 c3] 48)) := (Below.refl _ _).alloc (Nat.le_refl _) _
    have bS5 := Blk.new w3 48 #[.slice A3 n3 c3]
    go_wp2_with fail
    generalize (w3.alloc (.cells #[.slice A3 n3 c3] 48)) = w5 at bw5 bS5 ⊢
    have hr5 := (hr2.on hb3).on bw5
    have hs5 := hs3.on bw5
    have bR5 := bR3.on bw5
    have hmA : Only (w.alloc (.cells #[.slice none 0 0] 48)) w5 g := Only.trans (Only.trans hm2 (Mvd.ofBelow hb3 g none)) (Mvd.ofBelow bw5 g none)
    have hm5 : Only w w5 g := Only.trans (Mvd.ofBelow bA g none) hmA
    have xS := bS5.cell 0
    have xR := bR5.cell 0
    have yR := bR5.frozen 0
    simp at xS xR
    have hz5 := bw5.size
    have HS := Lib.hid bS5
    have HR := Lib.hid bR5
    clear bS5 bR5 bR2 bR3
    have hk5 := ok_any g p2 e2 w5 hr5
    rw [heb] at hk5
    refine hk5.mono ?_
    rintro e w6 ⟨rfl, rfl⟩
    go_wp2_with fail
    refine ret_set rfl w.heap.size (.slice none 0 0) rfl ?_ rfl ?_
    · have := HR.out.put 0 (.slice none 0 0)
      simpa using this
    exact ⟨_, rfl, SetAt.zero _ _ _ _, hr5.off HR.out (by omega) _, setCell_only hm5 _⟩
  · rw [if_neg he]
    obtain rfl : e2 = 0 := Decidable.not_not.1 he
    clear hbad he
    by_cases hc : canon out = false
    · rw [if_pos hc]
      rw [hc] at hread
      simp only [Bool.false_eq_true, if_false] at hread
      go_enter Tryd.func18, Tryd.ntmps18
      go_wp2_with fail
      refine hk.mono ?_
      rintro e w1 ⟨rfl, rfl⟩
      go_wp2_with fail
      refine hB5.mono ?_
      rintro e w2 ⟨A2, n2, c2, rfl, ho2, hr2, hm2⟩
      have hS2 := ho2.sees
      have hL2 := ho2.len
      have bR2 := bR.only hm2 (by omega)
      go_wp2_with fail
      refine (hread A2 n2 c2 w2 hS2 hL2).mono ?_
      rintro e w3 ⟨v3, rfl, hs3, hb3⟩
      have bR3 := bR2.on hb3
      have hz3 := hb3.size
      have hz2 := hm2.size
      have hlt2 := bR2.lt
      rw [World.size_alloc] at hz2
      obtain ⟨A3, n3, c3, rfl, _⟩ := id hs3
      have bw5 : Below w3.heap.size w3 (w3.alloc (.cells #[.slice A3 n3 c3] 48)) := (Below.refl _ _).alloc (Nat.le_refl _) _
      have bS5 := Blk.new w3 48 #[.slice A3 n3 c3]
      go_wp2_with fail
      generalize (w3.alloc (.cells #[.slice A3 n3 c3] 48)) = w5 at bw5 bS5 ⊢
      have hr5 := (hr2.on hb3).on bw5
      have hs5 := hs3.on bw5
      have bR5 := bR3.on bw5
      have hmA : Only (w.alloc (.cells #[.slice none 0 0] 48)) w5 g := Only.trans (Only.trans hm2 (Mvd.ofBelow hb3 g none)) (Mvd.ofBelow bw5 g none)
      have hm5 : Only w w5 g := Only.trans (Mvd.ofBelow bA g none) hmA
      have xS := bS5.cell 0
      have xR := bR5.cell 0
      have yR := bR5.frozen 0
      simp at xS xR
      have hz5 := bw5.size
      have HS := Lib.hid bS5
      have HR := Lib.hid bR5
      clear bS5 bR5 bR2 bR3
      have hk5 := ok_any g p2 0 w5 hr5
      refine hk5.mono ?_
      rintro e w6 ⟨rfl, rfl⟩
      go_wp2_with fail
      refine (greatest_any _ 0 w5 hs5).mono ?_
      rintro e w6 ⟨rfl, hb6⟩
      have hz6 := hb6.size
      have hr6 := hr5.on hb6
      have HR6 := Lib.hid (HR.out.on hb6)
      have HS6 := Lib.hid (HS.out.on hb6)
      have hm6 : Only w w6 g := Only.trans hm5 (Mvd.ofBelow hb6 g none)
      obtain ⟨A6, n6, c6, R6⟩ := hr6
      have R7 := R6.setErr 6
      have sA : Sees (w6.setCell ⟨g, 1, none⟩ (.int .i64 6)) (w6.setCell ⟨g, 1, none⟩ (.int .i64 6)).heap.size A (p.map bv) := hI.sees.only (Only.trans hm6 (only_set _)) hI.far
      have R8 := R7.setLeft sA hI.len hI.room hI.big hI.low
      obtain ⟨k0, k1, k2, k3⟩ := R6.cells
      obtain ⟨m0, m1, m2, m3⟩ := R7.cells
      obtain ⟨o0, o1, o2, o3⟩ := R8.cells
      have HR7 := HR6.out.far (p := ⟨g, 1, none⟩) (by simp; omega) (.int .i64 6)
      have HR8 := HR7.far (p := ⟨g, 0, none⟩) (by simp; omega) (.slice A n c)
      have xR8 := HR8.cell 0
      have yR8 := HR8.frozen 0
      simp at xR8
      have G8 := Lib.hid HR8
      have Q8 := Lib.hid R8
      have hm8 : Only w ((w6.setCell ⟨g, 1, none⟩ (.int .i64 6)).setCell ⟨g, 0, none⟩ (.slice A n c)) g := (hm6.setCell _).setCell _
      clear HR7 HR8 R6 R7 R8
      go_wp2_with fail
      refine ret_set rfl w.heap.size (.slice none 0 0) rfl ?_ rfl ?_
      · have := G8.out.put 0 (.slice none 0 0)
        simpa using this
      exact ⟨_, rfl, SetAt.zero _ _ _ _, RdAt.off ⟨_, _, _, Q8.out⟩ G8.out (by omega) _, setCell_only hm8 _⟩
    · rw [if_neg hc]
      have hc' : canon out = true := by simpa using hc
      rw [hc'] at hread
      simp only [if_true] at hread
      by_cases hg2 : bval out ≠ 0 ∧ most < ((bval out).log2 : Nat)
      · rw [if_pos hg2]
        have hdt : decide (bval out ≠ 0) = true := by simpa using hg2.1
        have hml := hg2.2
        clear hc hc' hg2
        go_enter Tryd.func18, Tryd.ntmps18
        go_wp2_with fail
        refine hk.mono ?_
        rintro e w1 ⟨rfl, rfl⟩
        go_wp2_with fail
        refine hB5.mono ?_
        rintro e w2 ⟨A2, n2, c2, rfl, ho2, hr2, hm2⟩
        have hS2 := ho2.sees
        have hL2 := ho2.len
        have bR2 := bR.only hm2 (by omega)
        go_wp2_with fail
        refine (hread A2 n2 c2 w2 hS2 hL2).mono ?_
        rintro e w3 ⟨v3, rfl, hs3, hb3⟩
        have bR3 := bR2.on hb3
        have hz3 := hb3.size
        have hz2 := hm2.size
        have hlt2 := bR2.lt
        rw [World.size_alloc] at hz2
        obtain ⟨A3, n3, c3, rfl, _⟩ := id hs3
        have bw5 : Below w3.heap.size w3 (w3.alloc (.cells #[.slice A3 n3 c3] 48)) := (Below.refl _ _).alloc (Nat.le_refl _) _
        have bS5 := Blk.new w3 48 #[.slice A3 n3 c3]
        go_wp2_with fail
        generalize (w3.alloc (.cells #[.slice A3 n3 c3] 48)) = w5 at bw5 bS5 ⊢
        have hr5 := (hr2.on hb3).on bw5
        have hs5 := hs3.on bw5
        have bR5 := bR3.on bw5
        have hmA : Only (w.alloc (.cells #[.slice none 0 0] 48)) w5 g := Only.trans (Only.trans hm2 (Mvd.ofBelow hb3 g none)) (Mvd.ofBelow bw5 g none)
        have hm5 : Only w w5 g := Only.trans (Mvd.ofBelow bA g none) hmA
        have xS := bS5.cell 0
        have xR := bR5.cell 0
        have yR := bR5.frozen 0
        simp at xS xR
        have hz5 := bw5.size
        have HS := Lib.hid bS5
        have HR := Lib.hid bR5
        clear bS5 bR5 bR2 bR3
        have hk5 := ok_any g p2 0 w5 hr5
        refine hk5.mono ?_
        rintro e w6 ⟨rfl, rfl⟩
        go_wp2_with fail
        have hgr := greatest_any _ (bval out) w5 hs5
        rw [hdt] at hgr
        refine hgr.mono ?_
        rintro e w6 ⟨rfl, hb6⟩
        have hz6 := hb6.size
        have hr6 := hr5.on hb6
        have HR6 := Lib.hid (HR.out.on hb6)
        have HS6 := Lib.hid (HS.out.on hb6)
        have hm6 : Only w w6 g := Only.trans hm5 (Mvd.ofBelow hb6 g none)
        obtain ⟨A6, n6, c6, R6⟩ := hr6
        have R7 := R6.setErr 2
        have sA : Sees (w6.setCell ⟨g, 1, none⟩ (.int .i64 2)) (w6.setCell ⟨g, 1, none⟩ (.int .i64 2)).heap.size A (p.map bv) := hI.sees.only (Only.trans hm6 (only_set _)) hI.far
        have R8 := R7.setLeft sA hI.len hI.room hI.big hI.low
        obtain ⟨k0, k1, k2, k3⟩ := R6.cells
        obtain ⟨m0, m1, m2, m3⟩ := R7.cells
        obtain ⟨o0, o1, o2, o3⟩ := R8.cells
        have HR7 := HR6.out.far (p := ⟨g, 1, none⟩) (by simp; omega) (.int .i64 2)
        have HR8 := HR7.far (p := ⟨g, 0, none⟩) (by simp; omega) (.slice A n c)
        have xR8 := HR8.cell 0
        have yR8 := HR8.frozen 0
        simp at xR8
        have G8 := Lib.hid HR8
        have Q8 := Lib.hid R8
        have hm8 : Only w ((w6.setCell ⟨g, 1, none⟩ (.int .i64 2)).setCell ⟨g, 0, none⟩ (.slice A n c)) g := (hm6.setCell _).setCell _
        clear HR7 HR8 R6 R7 R8
        go_wp2_with fail
        refine ret_set rfl w.heap.size (.slice none 0 0) rfl ?_ rfl ?_
        · have := G8.out.put 0 (.slice none 0 0)
          simpa using this
        exact ⟨_, rfl, SetAt.zero _ _ _ _, RdAt.off ⟨_, _, _, Q8.out⟩ G8.out (by omega) _, setCell_only hm8 _⟩
      · rw [if_neg hg2]
        by_cases hb0 : bval out = 0
        · have hdt : decide (bval out ≠ 0) = false := by simpa using hb0
          clear hc hc' hg2 hb0
          go_enter Tryd.func18, Tryd.ntmps18
          go_wp2_with fail
          refine hk.mono ?_
          rintro e w1 ⟨rfl, rfl⟩
          go_wp2_with fail
          refine hB5.mono ?_
          rintro e w2 ⟨A2, n2, c2, rfl, ho2, hr2, hm2⟩
          have hS2 := ho2.sees
          have hL2 := ho2.len
          have bR2 := bR.only hm2 (by omega)
          go_wp2_with fail
          refine (hread A2 n2 c2 w2 hS2 hL2).mono ?_
          rintro e w3 ⟨v3, rfl, hs3, hb3⟩
          have bR3 := bR2.on hb3
          have hz3 := hb3.size
          have hz2 := hm2.size
          have hlt2 := bR2.lt
          rw [World.size_alloc] at hz2
          obtain ⟨A3, n3, c3, rfl, _⟩ := id hs3
          have bw5 : Below w3.heap.size w3 (w3.alloc (.cells #[.slice A3 n3 c3] 48)) := (Below.refl _ _).alloc (Nat.le_refl _) _
          have bS5 := Blk.new w3 48 #[.slice A3 n3 c3]
          go_wp2_with fail
          generalize (w3.alloc (.cells #[.slice A3 n3 c3] 48)) = w5 at bw5 bS5 ⊢
          have hr5 := (hr2.on hb3).on bw5
          have hs5 := hs3.on bw5
          have bR5 := bR3.on bw5
          have hmA : Only (w.alloc (.cells #[.slice none 0 0] 48)) w5 g := Only.trans (Only.trans hm2 (Mvd.ofBelow hb3 g none)) (Mvd.ofBelow bw5 g none)
          have hm5 : Only w w5 g := Only.trans (Mvd.ofBelow bA g none) hmA
          have xS := bS5.cell 0
          have xR := bR5.cell 0
          have yR := bR5.frozen 0
          simp at xS xR
          have hz5 := bw5.size
          have HS := Lib.hid bS5
          have HR := Lib.hid bR5
          clear bS5 bR5 bR2 bR3
          have hk5 := ok_any g p2 0 w5 hr5
          refine hk5.mono ?_
          rintro e w6 ⟨rfl, rfl⟩
          go_wp2_with fail
          have hgr := greatest_any _ (bval out) w5 hs5
          rw [hdt] at hgr
          refine hgr.mono ?_
          rintro e w6 ⟨rfl, hb6⟩
          have hz6 := hb6.size
          have hr6 := hr5.on hb6
          have HR6 := Lib.hid (HR.out.on hb6)
          have HS6 := Lib.hid (HS.out.on hb6)
          have hm6 : Only w w6 g := Only.trans hm5 (Mvd.ofBelow hb6 g none)
          have hs6 := hs5.on hb6
          have xS6 := HS6.out.cell 0
          have xR6 := HR6.out.cell 0
          have yR6 := HR6.out.frozen 0
          simp at xS6 xR6
          go_wp2_with fail
          refine ret_set rfl w.heap.size (.slice A3 n3 c3) rfl ?_ rfl ?_
          · have := HR6.out.put 0 (.slice A3 n3 c3)
            simpa using this
          exact ⟨_, rfl, hs6.off HR6.out _, hr6.off HR6.out (by omega) _, setCell_only hm6 _⟩
        · have hdt : decide (bval out ≠ 0) = true := by simpa using hb0
          have hnl : ¬ most < ((bval out).log2 : Nat) := fun h => hg2 ⟨hb0, h⟩
          have hnl' : ((bval out).log2 : Nat) ≤ most := by omega
          clear hc hc' hg2 hb0
          go_enter Tryd.func18, Tryd.ntmps18
          go_wp2_with fail
          refine hk.mono ?_
          rintro e w1 ⟨rfl, rfl⟩
          go_wp2_with fail
          refine hB5.mono ?_
          rintro e w2 ⟨A2, n2, c2, rfl, ho2, hr2, hm2⟩
          have hS2 := ho2.sees
          have hL2 := ho2.len
          have bR2 := bR.only hm2 (by omega)
          go_wp2_with fail
          refine (hread A2 n2 c2 w2 hS2 hL2).mono ?_
          rintro e w3 ⟨v3, rfl, hs3, hb3⟩
          have bR3 := bR2.on hb3
          have hz3 := hb3.size
          have hz2 := hm2.size
          have hlt2 := bR2.lt
          rw [World.size_alloc] at hz2
          obtain ⟨A3, n3, c3, rfl, _⟩ := id hs3
          have bw5 : Below w3.heap.size w3 (w3.alloc (.cells #[.slice A3 n3 c3] 48)) := (Below.refl _ _).alloc (Nat.le_refl _) _
          have bS5 := Blk.new w3 48 #[.slice A3 n3 c3]
          go_wp2_with fail
          generalize (w3.alloc (.cells #[.slice A3 n3 c3] 48)) = w5 at bw5 bS5 ⊢
          have hr5 := (hr2.on hb3).on bw5
          have hs5 := hs3.on bw5
          have bR5 := bR3.on bw5
          have hmA : Only (w.alloc (.cells #[.slice none 0 0] 48)) w5 g := Only.trans (Only.trans hm2 (Mvd.ofBelow hb3 g none)) (Mvd.ofBelow bw5 g none)
          have hm5 : Only w w5 g := Only.trans (Mvd.ofBelow bA g none) hmA
          have xS := bS5.cell 0
          have xR := bR5.cell 0
          have yR := bR5.frozen 0
          simp at xS xR
          have hz5 := bw5.size
          have HS := Lib.hid bS5
          have HR := Lib.hid bR5
          clear bS5 bR5 bR2 bR3
          have hk5 := ok_any g p2 0 w5 hr5
          refine hk5.mono ?_
          rintro e w6 ⟨rfl, rfl⟩
          go_wp2_with fail
          have hgr := greatest_any _ (bval out) w5 hs5
          rw [hdt] at hgr
          refine hgr.mono ?_
          rintro e w6 ⟨rfl, hb6⟩
          have hz6 := hb6.size
          have hr6 := hr5.on hb6
          have HR6 := Lib.hid (HR.out.on hb6)
          have HS6 := Lib.hid (HS.out.on hb6)
          have hm6 : Only w w6 g := Only.trans hm5 (Mvd.ofBelow hb6 g none)
          have hs6 := hs5.on hb6
          have xS6 := HS6.out.cell 0
          have xR6 := HR6.out.cell 0
          have yR6 := HR6.out.frozen 0
          simp at xS6 xR6
          go_wp2_with fail
          refine ret_set rfl w.heap.size (.slice A3 n3 c3) rfl ?_ rfl ?_
          · have := HR6.out.put 0 (.slice A3 n3 c3)
            simpa using this
          exact ⟨_, rfl, hs6.off HR6.out _, hr6.off HR6.out (by omega) _, setCell_only hm6 _⟩
end Go.Proofs.YtfbdfpnmopgkoaaDoor
