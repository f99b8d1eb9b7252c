/- A pack of texts: ContP, Val. -/
import Derived.Test.YtcnofhlgiffkjaaGreatDoorPe
import Derived.Test.YtcnofhlgiffkjaaGreatDoorPd
import Derived.Test.YtcnofhlgiffkjaaGreatDoorPc
/- slices.Index and slices.Contains at pairs. -/
namespace Go.Proofs.YtcnofhlgiffkjaaGreatDoor
open Go.RowKit
set_option linter.unusedVariables false
set_option linter.unusedSimpArgs false

theorem contains_snoc {α : Type} [BEq α] [LawfulBEq α] {l : List α} {k : Nat} {x z : α} (h : l[k]? = some z) : (l.take (k + 1)).contains x = ((l.take k).contains x || x == z) := by
  rw [List.take_add_one, h, List.contains_eq_any_beq, List.any_append, ← List.contains_eq_any_beq]
  simp [List.contains_eq_any_beq]
theorem contains_take {α : Type} [BEq α] [LawfulBEq α] {l : List α} {k : Nat} {x : α} (h : (l.take k).contains x = true) : l.contains x = true := by
  rw [List.contains_iff_mem] at h ⊢
  exact List.mem_of_mem_take h

theorem eql_pair (a b c d : Int) (w : World) : (binOp .eql 77 (.agg #[.int .i64 a, .int .i64 b]) (.agg #[.int .i64 c, .int .i64 d])).run Tryz.prog w = .ok (.bool (a == c && b == d)) w := by
  have hsz : ∀ w, (sizeOf 3).run Tryz.prog w = .ok 1 w := fun w => by
    obtain ⟨i0, hi, hz0, hz1, hz2⟩ := info_parts int_info
    simp [sizeOf, typeInfo, hi, hz1]
  have p0 : ∀ (x y : Int) w, (part 3 #[.int .i64 x, .int .i64 y] 0).run Tryz.prog w = .ok (.int .i64 x) w := fun x y w => by
    simp [part, isAgg, run_underlying Tryz.underlying3]
  have p1 : ∀ (x y : Int) w, (part 3 #[.int .i64 x, .int .i64 y] 1).run Tryz.prog w = .ok (.int .i64 y) w := fun x y w => by
    simp [part, isAgg, run_underlying Tryz.underlying3]
  have pe : ∀ (x y : Int) w, (Op.equalIn 9999 3 (.int .i64 x) (.int .i64 y)).run Tryz.prog w = .ok (x == y) w := fun x y w => run_equalIn_int w 9998 _ .i64 .i64 x y Tryz.underlying3
  rw [run_eql_struct, Op.equalIn]
  simp only [Sem.run_bind, run_underlying Tryz.underlying77, Result.andThen_ok, hsz, Std.Legacy.Range.forIn_eq_forIn_range', Std.Legacy.Range.size, Nat.sub_zero, Nat.add_sub_cancel, Nat.div_one, List.range', List.forIn_cons, Nat.zero_mul, Nat.zero_add, Nat.one_mul, p0, p1, pe]
  by_cases h1 : a = c <;> by_cases h2 : b = d <;> simp [h1, h2, p1, pe]

set_option maxHeartbeats 4000000 in
set_option maxRecDepth 100000 in
/-- slices.Index. -/
theorem idxP_any (A : Option Addr) (n c : Nat) (l : List (Int × Int)) (x y : Int) (w : World) (h : PairsAt w w.heap.size A l) (hn : l.length = n) (hb : n ≤ 1000000) :
    Calls Tryz.prog 99 #[.slice A n c, .agg #[.int .i64 x, .int .i64 y]] w fun e w' => (∃ z : Int, e = .returned (.int .i64 z) ∧ Hid (decide (0 ≤ z) = l.contains (x, y))) ∧ Below w.heap.size w w' := by
  have Hn := Lib.hid hn
  have hb1 : (n : Int) ≤ 1000000 := by omega
  clear hn
  have b1 : Below w.heap.size w (w.alloc (.cells #[.int .i64 x, .int .i64 y] 77)) := (Below.refl _ _).alloc (Nat.le_refl _) _
  have bX := Blk.new w 77 #[.int .i64 x, .int .i64 y]
  go_enter Tryz.func99, Tryz.ntmps99
  go_wp2_with fail
  generalize (w.alloc (.cells #[.int .i64 x, .int .i64 y] 77)) = W1 at b1 bX ⊢
  go_loopw [8] (fun i wr => ∃ k : Nat, k ≤ n ∧ i = .int .i64 k ∧ Hid ((l.take k).contains (x, y) = false) ∧ Below W1.heap.size W1 wr) (fun i _ => n - (intOf i).toNat)
  case atStart => exact ⟨0, Nat.zero_le _, rfl, Lib.hid rfl, Below.refl _ _⟩
  case round =>
    obtain ⟨k, hk, rfl, HP, hB⟩ := hrel
    have bw := b1.trans (hB.mono b1.size)
    by_cases hlt : k < n
    · have hlt' : (k : Int) < (n : Int) := by omega
      obtain ⟨⟨p, q⟩, hx⟩ : ∃ x, l[k]? = some x := ⟨_, List.getElem?_eq_getElem (by rw [Hn.out]; exact hlt)⟩
      obtain ⟨b, o, rfl, hb2, hcx, hcy⟩ := (h.below bw) k _ hx
      simp only [] at hcx hcy
      have hnext := contains_snoc (x := (x, y)) hx
      rw [HP.out, Bool.false_or] at hnext
      have Hnext := Lib.hid hnext
      clear hnext hx
      have x0 := ((bX.on hB).cell 0).trans rfl
      have x1 := ((bX.on hB).cell 1).trans rfl
      have hBd := fun q => hB.trans ((below_drewN (Below.refl wr.heap.size wr) q).mono hB.size)
      by_cases e1 : x = p
      · subst e1
        by_cases e2 : y = q
        · subst e2
          have e1 : Hid (l.contains (x, y) = true) := Lib.hid (contains_take (by rw [Hnext.out]; simp))
          have heq := fun W => eql_pair x y x y W
          rw [beq_self_eq_true, beq_self_eq_true, Bool.and_self] at heq
          clear Hnext
          go_wp2_with fail
          go_quiet (fail)
          go_wp2_with fail
          go_ret
          exact ⟨⟨k, rfl, Lib.hid (by rw [e1.out, decide_eq_true (by omega)])⟩, b1.trans ((hBd _).mono b1.size)⟩
        · have hzb : (y == q) = false := by simpa using e2
          have e1 : Hid ((l.take (k + 1)).contains (x, y) = false) := Lib.hid (by rw [Hnext.out]; simp [e2])
          have heq := fun W => eql_pair x y x q W
          rw [hzb, Bool.and_false] at heq
          clear Hnext
          go_wp2_with fail
          go_quiet (fail)
          go_wp2_with fail
          go_roundw
          case rel => exact ⟨k + 1, by omega, by go_num, e1, hBd _⟩
          case measure => simp [intOf]; omega
      · have hzb : (x == p) = false := by simpa using e1
        have e1 : Hid ((l.take (k + 1)).contains (x, y) = false) := Lib.hid (by rw [Hnext.out]; simp [e1])
        have heq := fun W => eql_pair x y p q W
        rw [hzb, Bool.false_and] at heq
        clear Hnext
        go_wp2_with fail
        go_quiet (fail)
        go_wp2_with fail
        go_roundw
        case rel => exact ⟨k + 1, by omega, by go_num, e1, hBd _⟩
        case measure => simp [intOf]; omega
    · obtain rfl : k = n := by omega
      go_wp2_with fail
      go_ret
      refine ⟨⟨-1, rfl, Lib.hid ?_⟩, bw⟩
      have h1 := HP.out
      rw [List.take_of_length_le (by rw [Hn.out]; exact Nat.le_refl _)] at h1
      rw [h1]
      rfl
/-- slices.Contains. -/
theorem contP_any (A : Option Addr) (n c : Nat) (l : List (Int × Int)) (x y : Int) (w : World) (h : PairsAt w w.heap.size A l) (hn : l.length = n) (hb : n ≤ 1000000) :
    Calls Tryz.prog 75 #[.slice A n c, .agg #[.int .i64 x, .int .i64 y]] w fun e w' => e = .returned (.bool (l.contains (x, y))) ∧ Below w.heap.size w w' := by
  have b1 : Below w.heap.size w (w.alloc (.cells #[.int .i64 x, .int .i64 y] 77)) := (Below.refl _ _).alloc (Nat.le_refl _) _
  have hi := idxP_any A n c l x y _ ((h.below b1).more b1.size) hn hb
  go_enter Tryz.func75, Tryz.ntmps75
  go_wp2_with fail
  refine hi.mono ?_
  rintro e w1 ⟨⟨z, rfl, hz⟩, bw1⟩
  go_wp2_with fail
  go_ret
  exact ⟨ret_bool hz.out, b1.trans (bw1.mono b1.size)⟩
end Go.Proofs.YtcnofhlgiffkjaaGreatDoor
/- slices.Index and slices.Contains at ints; proper, Broken, Valid. -/
namespace Go.Proofs.YtcnofhlgiffkjaaGreatDoor
open Go.RowKit
set_option linter.unusedVariables false
set_option linter.unusedSimpArgs false

/-- slices.Index. -/
theorem idxI_any (A : Option Addr) (n c : Nat) (l : List Int) (x : Int) (w : World) (h : Sees w w.heap.size A (l.map iv)) (hn : l.length = n) (hb : n ≤ 1000000) :
    Calls Tryz.prog 66 #[.slice A n c, .int .i64 x] w fun e w' => (∃ z : Int, e = .returned (.int .i64 z) ∧ Hid (decide (0 ≤ z) = l.contains x)) ∧ w = w' := by
  have Hn := Lib.hid hn
  have hb1 : (n : Int) ≤ 1000000 := by omega
  clear hn
  go_enter Tryz.func66, Tryz.ntmps66
  go_wp2_with fail
  go_loopw [8] (fun i wr => ∃ k : Nat, k ≤ n ∧ i = .int .i64 k ∧ Hid ((l.take k).contains x = false) ∧ w = wr) (fun i _ => n - (intOf i).toNat)
  case atStart => exact ⟨0, Nat.zero_le _, rfl, Lib.hid rfl, rfl⟩
  case round =>
    obtain ⟨k, hk, rfl, HP, rfl⟩ := hrel
    by_cases hlt : k < n
    · have hlt' : (k : Int) < (n : Int) := by omega
      obtain ⟨b, o, z, rfl, hb2, Hz, hc⟩ := Sees.int (k := k) h (by rw [Hn.out]; exact hlt)
      have hnext : (l.take (k + 1)).contains x = ((l.take k).contains x || x == z) := by
        rw [List.take_add_one, Hz.out, List.contains_eq_any_beq, List.any_append, ← List.contains_eq_any_beq]
        simp [List.contains_eq_any_beq]
      rw [HP.out, Bool.false_or] at hnext
      have Hnext := Lib.hid hnext
      clear hnext
      by_cases hz : x = z
      · have hzb : (x == z) = true := by simpa using hz
        have e1 : Hid (l.contains x = true) := Lib.hid (by
          have h1 := Hnext.out
          rw [hzb] at h1
          rw [List.contains_iff_mem] at h1 ⊢
          exact List.mem_of_mem_take h1)
        clear hz Hnext
        go_wp2_with fail
        go_ret
        exact ⟨⟨k, rfl, Lib.hid (by rw [e1.out, decide_eq_true (by omega)])⟩, rfl⟩
      · have hzb : (x == z) = false := by simpa using hz
        have e1 : Hid ((l.take (k + 1)).contains x = false) := Lib.hid (by rw [Hnext.out, hzb])
        clear hz Hnext
        go_wp2_with fail
        go_roundw
        case rel => exact ⟨k + 1, by omega, by go_num, e1, by simp⟩
        case measure => simp [intOf]; omega
    · obtain rfl : k = n := by omega
      go_wp2_with fail
      go_ret
      refine ⟨⟨-1, rfl, Lib.hid ?_⟩, rfl⟩
      have h1 := HP.out
      rw [List.take_of_length_le (by rw [Hn.out]; exact Nat.le_refl _)] at h1
      rw [h1]
      rfl
/-- slices.Contains. -/
theorem contI_any (A : Option Addr) (n c : Nat) (l : List Int) (x : Int) (w : World) (h : Sees w w.heap.size A (l.map iv)) (hn : l.length = n) (hb : n ≤ 1000000) :
    Calls Tryz.prog 33 #[.slice A n c, .int .i64 x] w fun e w' => e = .returned (.bool (l.contains x)) ∧ w = w' := by
  have hi := idxI_any A n c l x w h hn hb
  go_enter Tryz.func33, Tryz.ntmps33
  go_wp2_with fail
  refine hi.mono ?_
  rintro e w1 ⟨⟨z, rfl, hz⟩, rfl⟩
  go_wp2_with fail
  go_ret
  exact ⟨ret_bool hz.out, rfl⟩

def properB (P : Pr) (l : List Int) : Bool := decide (chkP P = 0) && decide (l.length = P.elig.length) && !l.any fixBad
theorem proper_ok {P : Pr} {l : List Int} (h : properB P l = true) : chkP P = 0 ∧ l.length = P.elig.length ∧ ∀ u ∈ l, 0 ≤ u ∧ u ≤ 256 := by
  unfold properB at h
  simp only [Bool.and_eq_true, decide_eq_true_eq, Bool.not_eq_true'] at h
  refine ⟨h.1.1, h.1.2, fun u hu => ?_⟩
  have hb : fixBad u = false := by
    rcases he : fixBad u with _ | _
    · rfl
    · have := List.any_eq_true.2 ⟨u, hu, he⟩
      rw [h.2] at this
      cases this
  unfold fixBad at hb
  simp at hb
  omega
set_option maxHeartbeats 4000000 in
set_option maxRecDepth 100000 in
/-- proper. -/
theorem proper_any (p : PrV) (P : Pr) (A : Option Addr) (n c : Nat) (l : List Int) (w : World) (h : PrAt w w.heap.size p P) (hl : Sees w w.heap.size A (l.map iv)) (hn : l.length = n) (hb : n ≤ 1000000) :
    Calls Tryz.prog 32 #[p.v, .slice A n c] w fun e w' => e = .returned (.bool (properB P l)) ∧ Below w.heap.size w w' := by
  obtain ⟨z, hz⟩ : ∃ z, Hid (z = chkP P) := ⟨_, Lib.hid rfl⟩
  obtain ⟨fb, hfb⟩ : ∃ fb, Hid (fb = l.any fixBad) := ⟨_, Lib.hid rfl⟩
  have hchk := fun W (hW : Below w.heap.size w W) => chkP_any p P W (h.on hW)
  have hcf := fun W (hW : Below w.heap.size w W) => cf_pro A n c l W (hl.on hW) hn hb
  rw [← hz.out] at hchk
  rw [← hfb.out] at hcf
  have hdef : properB P l = (decide (z = 0) && decide (n = p.s1.n) && !fb) := by unfold properB; rw [hz.out, hfb.out, hn, h.l1]
  obtain ⟨r, hr⟩ : ∃ r, Hid (r = properB P l) := ⟨_, Lib.hid rfl⟩
  rw [← hr.out] at hdef ⊢
  have Hdef := Lib.hid hdef
  clear hdef h hl hn
  obtain ⟨⟨A1, n1, c1⟩, ⟨A2, n2, c2⟩, ⟨A3, n3, c3⟩, ⟨A4, n4, c4⟩, ⟨A5, n5, c5⟩⟩ := p
  have b1 : Below w.heap.size w (w.alloc (.cells #[.slice A1 n1 c1, .slice A2 n2 c2, .slice A3 n3 c3, .slice A4 n4 c4, .slice A5 n5 c5] 37)) := (Below.refl _ _).alloc (Nat.le_refl _) _
  have bP := Blk.new w 37 #[.slice A1 n1 c1, .slice A2 n2 c2, .slice A3 n3 c3, .slice A4 n4 c4, .slice A5 n5 c5]
  unfold PrV.v Sl.v at hchk ⊢
  simp only [] at hchk Hdef ⊢
  have hb1 : (n : Int) ≤ 1000000 := by omega
  by_cases q1 : z = 0
  · subst q1
    by_cases q2 : n = n1
    · subst q2
      have H2 : Hid (r = !fb) := Lib.hid (by rw [Hdef.out]; simp)
      clear Hdef
      go_enter Tryz.func32, Tryz.ntmps32
      go_wp2_with fail
      refine (hchk _ b1).mono ?_
      rintro e w1 ⟨rfl, bw1⟩
      have b2 := b1.trans (bw1.mono b1.size)
      have r0 := ((bP.on bw1).cell 0).trans rfl
      go_wp2_with fail
      refine (hcf _ b2).mono ?_
      rintro e w2 ⟨rfl, rfl⟩
      go_wp2_with fail
      go_ret
      exact ⟨ret_bool H2.out.symm, b2⟩
    · have q2b : ((n : Int) == (n1 : Int)) = false := by simp; omega
      have H2 : Hid (r = false) := Lib.hid (by rw [Hdef.out]; simp [q2])
      clear Hdef q2
      go_enter Tryz.func32, Tryz.ntmps32
      go_wp2_with fail
      refine (hchk _ b1).mono ?_
      rintro e w1 ⟨rfl, bw1⟩
      have b2 := b1.trans (bw1.mono b1.size)
      have r0 := ((bP.on bw1).cell 0).trans rfl
      go_wp2_with fail
      go_ret
      exact ⟨ret_bool H2.out.symm, b2⟩
  · have q1b : (z == 0) = false := by simpa using q1
    have H2 : Hid (r = false) := Lib.hid (by rw [Hdef.out]; simp [q1])
    clear Hdef q1
    go_enter Tryz.func32, Tryz.ntmps32
    go_wp2_with fail
    refine (hchk _ b1).mono ?_
    rintro e w1 ⟨rfl, bw1⟩
    have b2 := b1.trans (bw1.mono b1.size)
    go_wp2_with fail
    go_ret
    exact ⟨ret_bool H2.out.symm, b2⟩

def BrokenB (P : Pr) (l : List Int) : Bool := properB P l && brk P l
set_option maxHeartbeats 4000000 in
set_option maxRecDepth 100000 in
/-- Broken. -/
theorem Broken_any (p : PrV) (P : Pr) (A : Option Addr) (n c : Nat) (l : List Int) (w : World) (h : PrAt w w.heap.size p P) (hl : Sees w w.heap.size A (l.map iv)) (hn : l.length = n) (hb : n ≤ 1000000) (hT : Tab w) :
    Calls Tryz.prog 65 #[p.v, .slice A n c] w fun e w' => e = .returned (.bool (BrokenB P l)) ∧ Below w.heap.size w w' := by
  have hg0 : 0 < w.heap.size := World.block_lt_of_cell? w _ (hT 0 (by omega))
  have hp := fun W (hW : Below w.heap.size w W) => proper_any p P A n c l W (h.on hW) (hl.on hW) hn hb
  have hbr := fun W (hW : Below w.heap.size w W) (hc : properB P l = true) => broken_any p P A n c l W (h.on hW) (hl.on hW) hn (proper_ok hc).2.1 (proper_ok hc).1 (proper_ok hc).2.2 (hT.below hW hg0)
  obtain ⟨r, hr⟩ : ∃ r, Hid (r = brk P l) := ⟨_, Lib.hid rfl⟩
  rw [← hr.out] at hbr
  have hdef : BrokenB P l = (properB P l && r) := by unfold BrokenB; rw [hr.out]
  rw [hdef]
  clear hdef h hl hn hT
  generalize properB P l = z at hp hbr ⊢
  obtain ⟨⟨A1, n1, c1⟩, ⟨A2, n2, c2⟩, ⟨A3, n3, c3⟩, ⟨A4, n4, c4⟩, ⟨A5, n5, c5⟩⟩ := p
  have b1 : Below w.heap.size w (w.alloc (.cells #[.slice A1 n1 c1, .slice A2 n2 c2, .slice A3 n3 c3, .slice A4 n4 c4, .slice A5 n5 c5] 37)) := (Below.refl _ _).alloc (Nat.le_refl _) _
  have bP := Blk.new w 37 #[.slice A1 n1 c1, .slice A2 n2 c2, .slice A3 n3 c3, .slice A4 n4 c4, .slice A5 n5 c5]
  unfold PrV.v Sl.v at hp hbr ⊢
  simp only [] at hp hbr ⊢
  have box : ∀ W, Blk W w.heap.size 37 #[.slice A1 n1 c1, .slice A2 n2 c2, .slice A3 n3 c3, .slice A4 n4 c4, .slice A5 n5 c5] → W.cell? ⟨w.heap.size, 0, none⟩ = some (.slice A1 n1 c1) ∧ W.cell? ⟨w.heap.size, 1, none⟩ = some (.slice A2 n2 c2) ∧ W.cell? ⟨w.heap.size, 2, none⟩ = some (.slice A3 n3 c3) ∧ W.cell? ⟨w.heap.size, 3, none⟩ = some (.slice A4 n4 c4) ∧ W.cell? ⟨w.heap.size, 4, none⟩ = some (.slice A5 n5 c5) := fun W hb => ⟨(hb.cell 0).trans rfl, (hb.cell 1).trans rfl, (hb.cell 2).trans rfl, (hb.cell 3).trans rfl, (hb.cell 4).trans rfl⟩
  cases z
  · go_enter Tryz.func65, Tryz.ntmps65
    go_wp2_with fail
    refine (hp _ b1).mono ?_
    rintro e w1 ⟨rfl, bw1⟩
    have b2 := b1.trans (bw1.mono b1.size)
    go_wp2_with fail
    go_ret
    exact ⟨rfl, b2⟩
  · have hbr2 := fun W hW => hbr W hW rfl
    clear hbr
    go_enter Tryz.func65, Tryz.ntmps65
    go_wp2_with fail
    refine (hp _ b1).mono ?_
    rintro e w1 ⟨rfl, bw1⟩
    have b2 := b1.trans (bw1.mono b1.size)
    obtain ⟨r0, r1, r2, r3, r4⟩ := box _ (bP.on bw1)
    go_wp2_with fail
    refine (hbr2 _ b2).mono ?_
    rintro e w2 ⟨rfl, bw2⟩
    go_wp2_with fail
    go_ret
    exact ⟨ret_bool (by simp), b2.trans (bw2.mono b2.size)⟩

def fixOk (f l : List Int) (k : Nat) : Bool := decide (atI f k = 0) || decide (atI f k = atI l k)
def ValidB (P : Pr) (l : List Int) : Bool := properB P l && !l.contains 0 && !brk P l && (List.range l.length).all (fixOk P.fix l)
theorem all_range_of {n : Nat} {f : Nat → Bool} (h : ∀ j, j < n → f j = true) : (List.range n).all f = true := by
  rw [List.all_eq_true]
  intro j hj
  exact h j (List.mem_range.1 hj)
theorem all_range_not {n k : Nat} {f : Nat → Bool} (hk : k < n) (h : f k = false) : (List.range n).all f = false := by
  refine Bool.eq_false_iff.2 fun h1 => ?_
  rw [List.all_eq_true] at h1
  rw [h1 k (List.mem_range.2 hk)] at h
  cases h
set_option maxHeartbeats 8000000 in
set_option maxRecDepth 100000 in
/-- Valid. -/
theorem Valid_any (p : PrV) (P : Pr) (A : Option Addr) (n c : Nat) (l : List Int) (w : World) (h : PrAt w w.heap.size p P) (hl : Sees w w.heap.size A (l.map iv)) (hn : l.length = n) (hb : n ≤ 1000000) (hT : Tab w) :
    Calls Tryz.prog 11 #[p.v, .slice A n c] w fun e w' => e = .returned (.bool (ValidB P l)) ∧ Below w.heap.size w w' := by
  have hg0 : 0 < w.heap.size := World.block_lt_of_cell? w _ (hT 0 (by omega))
  have hp := fun W (hW : Below w.heap.size w W) => proper_any p P A n c l W (h.on hW) (hl.on hW) hn hb
  have hct := fun W (hW : Below w.heap.size w W) => contI_any A n c l 0 W (hl.on hW) hn hb
  have hbr := fun W (hW : Below w.heap.size w W) (hc : properB P l = true) => broken_any p P A n c l W (h.on hW) (hl.on hW) hn (proper_ok hc).2.1 (proper_ok hc).1 (proper_ok hc).2.2 (hT.below hW hg0)
  have hfl : properB P l = true → p.s5.n = n := fun hc => by
    have h1 := proper_ok hc
    have h2 := (chkP_ok h1.1).fixl
    rw [← h.l5]; omega
  obtain ⟨r, hr⟩ : ∃ r, Hid (r = brk P l) := ⟨_, Lib.hid rfl⟩
  obtain ⟨c0, hc0⟩ : ∃ c0, Hid (c0 = l.contains 0) := ⟨_, Lib.hid rfl⟩
  rw [← hr.out] at hbr
  rw [← hc0.out] at hct
  have hdef : ValidB P l = (properB P l && !c0 && !r && (List.range n).all (fixOk P.fix l)) := by unfold ValidB; rw [hr.out, hc0.out, hn]
  rw [hdef]
  have He5 := h.e5
  have Hl5 := Lib.hid h.l5
  have Hn := Lib.hid hn
  have hb5 := h.b5
  clear hdef h hn
  generalize properB P l = z at hp hbr hfl ⊢
  obtain ⟨⟨A1, n1, c1⟩, ⟨A2, n2, c2⟩, ⟨A3, n3, c3⟩, ⟨A4, n4, c4⟩, ⟨A5, n5, c5⟩⟩ := p
  have b1 : Below w.heap.size w (w.alloc (.cells #[.slice A1 n1 c1, .slice A2 n2 c2, .slice A3 n3 c3, .slice A4 n4 c4, .slice A5 n5 c5] 37)) := (Below.refl _ _).alloc (Nat.le_refl _) _
  have bP := Blk.new w 37 #[.slice A1 n1 c1, .slice A2 n2 c2, .slice A3 n3 c3, .slice A4 n4 c4, .slice A5 n5 c5]
  unfold PrV.v Sl.v at hp hbr ⊢
  simp only [] at hp hbr hfl Hl5 He5 hb5 ⊢
  have box : ∀ W, Blk W w.heap.size 37 #[.slice A1 n1 c1, .slice A2 n2 c2, .slice A3 n3 c3, .slice A4 n4 c4, .slice A5 n5 c5] → W.cell? ⟨w.heap.size, 0, none⟩ = some (.slice A1 n1 c1) ∧ W.cell? ⟨w.heap.size, 1, none⟩ = some (.slice A2 n2 c2) ∧ W.cell? ⟨w.heap.size, 2, none⟩ = some (.slice A3 n3 c3) ∧ W.cell? ⟨w.heap.size, 3, none⟩ = some (.slice A4 n4 c4) ∧ W.cell? ⟨w.heap.size, 4, none⟩ = some (.slice A5 n5 c5) := fun W hb => ⟨(hb.cell 0).trans rfl, (hb.cell 1).trans rfl, (hb.cell 2).trans rfl, (hb.cell 3).trans rfl, (hb.cell 4).trans rfl⟩
  cases z
  · clear hfl hbr
    go_enter Tryz.func11, Tryz.ntmps11
    go_wp2_with fail
    refine (hp _ b1).mono ?_
    rintro e w1 ⟨rfl, bw1⟩
    have b2 := b1.trans (bw1.mono b1.size)
    go_wp2_with fail
    go_ret
    exact ⟨rfl, b2⟩
  · have hbr2 := fun W hW => hbr W hW rfl
    obtain rfl := hfl rfl
    clear hbr
    cases c0
    · cases r
      · go_enter Tryz.func11, Tryz.ntmps11
        go_wp2_with fail
        refine (hp _ b1).mono ?_
        rintro e w1 ⟨rfl, bw1⟩
        have b2 := b1.trans (bw1.mono b1.size)
        obtain ⟨r0, r1, r2, r3, r4⟩ := box _ (bP.on bw1)
        go_wp2_with fail
        refine (hct _ b2).mono ?_
        rintro e w2 ⟨rfl, rfl⟩
        go_wp2_with fail
        refine (hbr2 _ b2).mono ?_
        rintro e w2 ⟨rfl, bw2⟩
        have bP2 := (bP.on bw1).on bw2
        obtain ⟨r0, r1, r2, r3, r4⟩ := box _ bP2
        have b3 := b2.trans (bw2.mono b2.size)
        go_wp2_with fail
        have hb5' : (n5 : Int) ≤ 1000000 := by omega
        go_loopw [23] (fun i wr => ∃ k : Nat, k ≤ n5 ∧ i = .int .i64 k ∧ Hid (∀ j, j < k → fixOk P.fix l j = true) ∧ w2 = wr) (fun i _ => n5 - (intOf i).toNat)
        case atStart => exact ⟨0, Nat.zero_le _, rfl, Lib.hid (fun j hj => absurd hj (Nat.not_lt_zero _)), rfl⟩
        case round =>
          obtain ⟨k, hk, rfl, HP, rfl⟩ := hrel
          by_cases hlt : k < n5
          · have hlt' : (k : Int) < (n5 : Int) := by omega
            obtain ⟨b, o, z, rfl, hb2, Hz, hc⟩ := Sees.int (k := k) (He5.on b3) (by rw [Hl5.out]; exact hlt)
            obtain ⟨b', o', z', rfl, hb2', Hz', hc'⟩ := Sees.int (k := k) (hl.on b3) (by rw [Hn.out]; exact hlt)
            have ha : atI P.fix k = z := by unfold atI; rw [Hz.out]; rfl
            have ha' : atI l k = z' := by unfold atI; rw [Hz'.out]; rfl
            have hfx : fixOk P.fix l k = (decide (z = 0) || decide (z = z')) := by unfold fixOk; rw [ha, ha']
            have Hfx := Lib.hid hfx
            clear ha ha' hfx
            have next : fixOk P.fix l k = true → Hid (∀ j, j < k + 1 → fixOk P.fix l j = true) := fun h1 => Lib.hid fun j hj => by
              rcases Nat.lt_succ_iff_lt_or_eq.1 hj with h2 | rfl
              · exact HP.out j h2
              · exact h1
            have Next := Lib.hid next
            clear next
            by_cases hz0 : z = 0
            · have e1 := Next.out (by rw [Hfx.out]; simp [hz0])
              subst hz0
              clear Hfx
              go_wp2_with fail
              go_roundw
              case rel => exact ⟨k + 1, by omega, by go_num, e1, by simp⟩
              case measure => simp [intOf]; omega
            · have hz1 : (z != 0) = true := by simpa using hz0
              by_cases hzz : z = z'
              · have e1 := Next.out (by rw [Hfx.out]; simp [hzz])
                have hz2 : (z != z') = false := by simp [hzz]
                clear Hfx hzz hz0
                go_wp2_with fail
                go_roundw
                case rel => exact ⟨k + 1, by omega, by go_num, e1, by simp⟩
                case measure => simp [intOf]; omega
              · have e1 := Lib.hid (all_range_not (n := n5) hlt (f := fixOk P.fix l) (by rw [Hfx.out]; simp [hz0, hzz]))
                have hz2 : (z != z') = true := by simpa using hzz
                clear Hfx hzz hz0
                go_wp2_with fail
                go_ret
                exact ⟨ret_bool (by rw [e1.out]; simp), b3⟩
          · obtain rfl : k = n5 := by omega
            have e1 := Lib.hid (all_range_of HP.out)
            go_wp2_with fail
            go_ret
            exact ⟨ret_bool (by rw [e1.out]; simp), b3⟩
      · go_enter Tryz.func11, Tryz.ntmps11
        go_wp2_with fail
        refine (hp _ b1).mono ?_
        rintro e w1 ⟨rfl, bw1⟩
        have b2 := b1.trans (bw1.mono b1.size)
        obtain ⟨r0, r1, r2, r3, r4⟩ := box _ (bP.on bw1)
        go_wp2_with fail
        refine (hct _ b2).mono ?_
        rintro e w2 ⟨rfl, rfl⟩
        go_wp2_with fail
        refine (hbr2 _ b2).mono ?_
        rintro e w2 ⟨rfl, bw2⟩
        go_wp2_with fail
        go_ret
        exact ⟨ret_bool (by simp), b2.trans (bw2.mono b2.size)⟩
    · go_enter Tryz.func11, Tryz.ntmps11
      go_wp2_with fail
      refine (hp _ b1).mono ?_
      rintro e w1 ⟨rfl, bw1⟩
      have b2 := b1.trans (bw1.mono b1.size)
      go_wp2_with fail
      refine (hct _ b2).mono ?_
      rintro e w2 ⟨rfl, rfl⟩
      go_wp2_with fail
      go_ret
      exact ⟨ret_bool (by simp), b2⟩
end Go.Proofs.YtcnofhlgiffkjaaGreatDoor
